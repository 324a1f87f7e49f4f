/- The plain statement of the law FnExactVmText. -/
import Derived.Test.YtbhbcpglepgbbaaDoorAbStFnExactVmText
import Derived.Laws.BitsLemmas
namespace Go.Ab.FnExactVmText.Pure
open Go.RowKit Go.Ab
set_option linter.unusedVariables false
set_option linter.unusedSimpArgs false
theorem wrap_id {x : Int} (h0 : -9223372036854775808 ≤ x) (h1 : x ≤ 9223372036854775807) : wrap64 x = x := by rw [w64_eq]; unfold RowKit.wrap64; omega
theorem K0_ge {n : Nat} (h : n ≤ 18446744073709551616) : ∃ k, K0 = k + n := ⟨K0 - n, by rw [K0_eq]; omega⟩
theorem roomy_ok {n b : Int} (h : n * b ≤ 140737488355328) : roomy n b = true := by unfold roomy; rw [M0_eq]; simpa using h
theorem rd_nat (t : Ty) (l : List t.val) (i : Nat) : rd t l (i : Int) = l.getD i t.dflt := by unfold rd; rw [Int.toNat_natCast]
theorem rd_at (t : Ty) (l : List t.val) (i : Nat) (h : i < List.length l) : rd t l (i : Int) = l[i]'h := by rw [rd_nat]; simp [h]
theorem decp {p : Prop} [Decidable p] (h : p) : decide p = true := decide_eq_true h
theorem decn {p : Prop} [Decidable p] (h : ¬ p) : decide p = false := decide_eq_false h
theorem bt_range (m : ByteArray) (a : Int) : 0 ≤ bt m a ∧ bt m a ≤ 255 := by
  unfold bt
  have := (m.data.getD a.toNat 0).toNat_lt
  omega
theorem shl_eq {x s : Int} (n : Nat) (hs : s = (n : Int)) (h : n ≤ 64) (h0 : 0 ≤ x * 2 ^ n) (h1 : x * 2 ^ n ≤ 9223372036854775807) : shl .i64 x s = x * 2 ^ n := by
  subst hs
  unfold shl
  rw [Int.toNat_natCast, show min n IntKind.i64.bits = n from Nat.min_eq_left h, IntKind.wrap_i64]
  omega
theorem wrap_succ (i n : Nat) (h : i < n) (hn : n ≤ 140737488351232) : wrap64 ((i : Int) + 1) = ((i + 1 : Nat) : Int) := by
  rw [w64_eq]; unfold RowKit.wrap64; omega
theorem yin_eq (a b c : Int) : impl_yin a b c = some (decide (b ≤ a ∧ a ≤ c), ()) := by
  unfold impl_yin
  dsimp only
  congr 2
  rw [Bool.eq_iff_iff]
  simp
/-- What is told of sizes once they are counted. -/
noncomputable def small : (t : Ty) → t.val → Prop
  | .str, x => x.size ≤ 1048576
  | .slice t, l => List.length l ≤ 1048576 ∧ ∀ y ∈ (show List t.val from l), small t y
  | .pair a b, x => small a x.1 ∧ small b x.2
  | _, _ => True
/-- The same of rows alone. -/
noncomputable def lens : (t : Ty) → t.val → Prop
  | .slice t, l => List.length l ≤ 1048576 ∧ ∀ y ∈ (show List t.val from l), lens t y
  | .pair a b, x => lens a x.1 ∧ lens b x.2
  | _, _ => True
theorem lens_of : ∀ {t : Ty} {x : t.val}, small t x → lens t x
  | .slice t, l, h => ⟨h.1, fun y hy => lens_of (h.2 y hy)⟩
  | .pair a b, x, h => ⟨lens_of h.1, lens_of h.2⟩
  | .str, _, _ => trivial
  | .int _, _, _ => trivial
  | .bool, _, _ => trivial
  | .unit, _, _ => trivial
  | .sum _ _, _, _ => trivial
  | .opq, _, _ => trivial
theorem lens_flat {t : Ty} (h : flat t = true) (x : t.val) : lens t x := by
  induction t with
  | slice t _ => simp [flat] at h
  | pair a b iha ihb => simp only [flat, Bool.and_eq_true] at h; exact ⟨iha h.1 x.1, ihb h.2 x.2⟩
  | _ => trivial
theorem lens_row {t : Ty} (h : flat t = true) {l : List t.val} (hl : l.length ≤ 1048576) : lens (.slice t) l := ⟨hl, fun y _ => lens_flat h y⟩
theorem lens_at {t : Ty} {l : List t.val} (h : lens (.slice t) l) (i : Nat) (hi : i < List.length l) : lens t (l[i]'hi) := h.2 _ (List.getElem_mem hi)
theorem good_at {t : Ty} {l : List t.val} (h : good (.slice t) l) (i : Nat) (hi : i < List.length l) : good t (l[i]'hi) := h.2 _ (List.getElem_mem hi)
theorem small_row {t : Ty} {l : List t.val} (hl : List.length l ≤ 1048576) (h : ∀ i, (hi : i < List.length l) → small t (l[i]'hi)) : small (.slice t) l := ⟨hl, fun y hy => by
  obtain ⟨i, hi, rfl⟩ := List.getElem_of_mem hy
  exact h i hi⟩
theorem maxLen_lt {n : Nat} (h : n ≤ maxLen) : n ≤ 9223372036854775807 := by unfold maxLen at h; omega
theorem wrap_inc (m j : Int) (h0 : 0 ≤ m) (h1 : m ≤ 4000000000000000000) (h2 : 0 ≤ j) (h3 : j ≤ 1000000) : wrap64 (m + j + 1) = m + (j + 1) := by
  rw [w64_eq]; unfold RowKit.wrap64; omega
theorem wrap_i (i n : Nat) (h : i < n) (hn : n ≤ 9223372036854775807) : wrap64 ((i : Int) + 1) = ((i + 1 : Nat) : Int) := by
  rw [w64_eq]; unfold RowKit.wrap64; omega
theorem rd_set (t : Ty) (l : List t.val) (i : Nat) (v : t.val) (h : i < List.length l) : rd t (List.set l i v) (i : Int) = v := by
  rw [rd_at t _ i (by simpa using h)]; simp
theorem b2s_one (n : Int) : (b2s [n]).size = 1 := rfl
theorem bsize_app (a b : ByteArray) : (a ++ b).size = a.size + b.size := ByteArray.size_append
theorem seq_self (s : ByteArray) : seq s s = true := by unfold seq; simp
theorem seq_ne_self (s : ByteArray) : (!seq s s) = false := by rw [seq_self]; rfl
/-- A loop that lays each element as it is. -/
theorem to_loop {α : Type} (F : Nat → List α → Nat → List α → Option (List α × Unit)) (l : List α) (hl : l.length ≤ 9223372036854775807)
    (hF : ∀ (k i : Nat) (ys : List α) (hi : i < l.length), ys.length = l.length → F (k + 1) l i ys = F k l (i + 1) (ys.set i l[i]))
    (hE : ∀ (k : Nat) (ys : List α), F (k + 1) l l.length ys = some (ys, ())) (ys : List α) (hy : ys.length = l.length) : F K0 l 0 ys = some (l, ()) := by
  have key : ∀ (d k i : Nat) (ys : List α), i + d = l.length → d < k → ys.length = l.length → (∀ j, j < i → ys[j]? = l[j]?) → F k l i ys = some (l, ()) := by
    intro d
    induction d with
    | zero =>
      intro k i ys hi hk hy hj
      obtain ⟨k, rfl⟩ : ∃ q, k = q + 1 := ⟨k - 1, by omega⟩
      have : i = l.length := by omega
      subst this
      rw [hE]
      congr 2
      apply List.ext_getElem? 
      intro j
      by_cases h : j < l.length
      · exact hj j h
      · rw [List.getElem?_eq_none (by omega), List.getElem?_eq_none (by omega)]
    | succ d ih =>
      intro k i ys hi hk hy hj
      obtain ⟨k, rfl⟩ : ∃ q, k = q + 1 := ⟨k - 1, by omega⟩
      rw [hF k i ys (by omega) hy]
      refine ih k (i + 1) _ (by omega) (by omega) (by simpa using hy) fun j hjj => ?_
      by_cases h : j = i
      · subst h
        rw [List.getElem?_set_self (by omega), List.getElem?_eq_getElem (by omega)]
      · rw [List.getElem?_set_ne (by omega)]
        exact hj j (by omega)
  exact key l.length K0 0 ys (by omega) (by rw [K0_eq]; omega) hy (fun j hj => by omega)
/-- A loop that takes from what is left, or is at its end. -/
theorem sz_loop {α : Type} (F : Nat → List α → Int → Nat → Option ((Int × Unit) ⊕ (Int × Unit))) (P : α → Prop) (l : List α) (hl : l.length ≤ 9223372036854775807)
    (hF : ∀ (k i : Nat) (left : Int) (hi : i < l.length), 0 ≤ left → left ≤ 1048576 → ∃ n, n ≤ left ∧ -1 ≤ n ∧ (0 ≤ n → P l[i]) ∧ F (k + 1) l left i = bif decide (n < 0) then some (Sum.inl (-1, ())) else F k l n (i + 1))
    (hE : ∀ (k : Nat) (left : Int), F (k + 1) l left l.length = some (Sum.inr (left, ()))) (left : Int) (h0 : 0 ≤ left) (h1 : left ≤ 1048576) :
    F K0 l left 0 = some (Sum.inl (-1, ())) ∨ ∃ n, n ≤ left ∧ 0 ≤ n ∧ (∀ i, (hi : i < l.length) → P l[i]) ∧ F K0 l left 0 = some (Sum.inr (n, ())) := by
  have key : ∀ (d k i : Nat) (left : Int), i + d = l.length → d < k → 0 ≤ left → left ≤ 1048576 → F k l left i = some (Sum.inl (-1, ())) ∨ ∃ n, n ≤ left ∧ 0 ≤ n ∧ (∀ j, i ≤ j → (hj : j < l.length) → P l[j]) ∧ F k l left i = some (Sum.inr (n, ())) := by
    intro d
    induction d with
    | zero =>
      intro k i left hi hk h0 h1
      obtain ⟨k, rfl⟩ : ∃ q, k = q + 1 := ⟨k - 1, by omega⟩
      have : i = l.length := by omega
      subst this
      exact .inr ⟨left, by omega, h0, fun j h1 h2 => by omega, hE k left⟩
    | succ d ih =>
      intro k i left hi hk h0 h1
      obtain ⟨k, rfl⟩ : ∃ q, k = q + 1 := ⟨k - 1, by omega⟩
      obtain ⟨n, n1, n2, hP, e⟩ := hF k i left (by omega) h0 h1
      rw [e]
      by_cases c : n < 0
      · rw [decp c]; exact .inl rfl
      · rw [decn c, cond_false]
        rcases ih k (i + 1) n (by omega) (by omega) (by omega) (by omega) with q | ⟨m, q1, q2, q3, q4⟩
        · exact .inl q
        · refine .inr ⟨m, by omega, q2, fun j h1 h2 => ?_, q4⟩
          by_cases h : j = i
          · subst h; exact hP (by omega)
          · exact q3 j (by omega) h2
  rcases key l.length K0 0 left (by omega) (by rw [K0_eq]; omega) h0 h1 with q | ⟨m, q1, q2, q3, q4⟩
  · exact .inl q
  · exact .inr ⟨m, q1, q2, fun i hi => q3 i (by omega) hi, q4⟩
/-- A loop that holds each element against itself. -/
theorem eq_loop {α : Type} (F : Nat → List α → List α → Nat → Option ((Bool × Unit) ⊕ Unit)) (l : List α) (hl : l.length ≤ 9223372036854775807)
    (hF : ∀ (k i : Nat) (hi : i < l.length), F (k + 1) l l i = F k l l (i + 1))
    (hE : ∀ (k : Nat), F (k + 1) l l l.length = some (Sum.inr ())) : F K0 l l 0 = some (Sum.inr ()) := by
  have key : ∀ (d k i : Nat), i + d = l.length → d < k → F k l l i = some (Sum.inr ()) := by
    intro d
    induction d with
    | zero =>
      intro k i hi hk
      obtain ⟨k, rfl⟩ : ∃ q, k = q + 1 := ⟨k - 1, by omega⟩
      have : i = l.length := by omega
      subst this
      exact hE k
    | succ d ih =>
      intro k i hi hk
      obtain ⟨k, rfl⟩ : ∃ q, k = q + 1 := ⟨k - 1, by omega⟩
      rw [hF k i (by omega)]
      exact ih k (i + 1) (by omega) (by omega)
  exact key l.length K0 0 (by omega) (by rw [K0_eq]; omega)
/-- A loop F that marks each element with running numbers, and a loop G that tells whether the marks stand. -/
theorem mark_loop {α : Type} (F : Nat → List α → Int → Nat → Option (Int × List α × Unit)) (c : Int) (E : Int → α → α) (hc : 0 ≤ c)
    (hF : ∀ (k : Nat) (xs : List α) (m : Int) (i : Nat) (hi : i < xs.length), 0 ≤ m → m ≤ 4000000000000000000 → xs.length ≤ 9223372036854775807 → F (k + 1) xs m i = F k (xs.set i (E m xs[i])) (m + c) (i + 1))
    (hFe : ∀ (k : Nat) (xs : List α) (m : Int), F (k + 1) xs m xs.length = some (m, xs, ())) (xs : List α) (m : Int) (hl : xs.length ≤ 9223372036854775807) (hm : 0 ≤ m) (hb : m + c * (xs.length : Int) ≤ 4000000000000000000) :
      ∃ ys, F K0 xs m 0 = some (m + c * (xs.length : Int), ys, ()) ∧ ys.length = xs.length ∧ ∀ i, (h : i < ys.length) → ∃ a, ys[i] = E (m + c * (i : Int)) a := by
  have key : ∀ (d k i : Nat) (xs : List α) (m : Int), i + d = xs.length → d < k → 0 ≤ m → m + c * d ≤ 4000000000000000000 → xs.length ≤ 9223372036854775807 →
      ∃ ys, F k xs m i = some (m + c * d, ys, ()) ∧ ys.length = xs.length ∧ (∀ j, j < i → ys[j]? = xs[j]?) ∧ ∀ j, i ≤ j → (h : j < ys.length) → ∃ a, ys[j] = E (m + c * ((j : Int) - i)) a := by
    intro d
    induction d with
    | zero =>
      intro k i xs m hi hk hm hb hl
      obtain ⟨k, rfl⟩ : ∃ q, k = q + 1 := ⟨k - 1, by omega⟩
      have : i = xs.length := by omega
      subst this
      exact ⟨xs, by rw [hFe]; simp, rfl, fun _ _ => rfl, fun j h1 h2 => by omega⟩
    | succ d ih =>
      intro k i xs m hi hk hm hb hl
      obtain ⟨k, rfl⟩ : ∃ q, k = q + 1 := ⟨k - 1, by omega⟩
      have hlt : i < xs.length := by omega
      have hcd : 0 ≤ c * (d : Int) := Int.mul_nonneg hc (by omega)
      have hs : c * ((d + 1 : Nat) : Int) = c * (d : Int) + c := by rw [Int.natCast_succ, Int.mul_add, Int.mul_one]
      rw [hs] at hb ⊢
      obtain ⟨ys, e1, e2, e3, e4⟩ := ih k (i + 1) (xs.set i (E m xs[i])) (m + c) (by simp; omega) (by omega) (by omega) (by omega) (by simpa using hl)
      have hy : i < ys.length := by rw [e2]; simpa using hlt
      have hyi : ys[i] = E m xs[i] := by
        have h := e3 i (by omega)
        rw [List.getElem?_eq_getElem hy, List.getElem?_set_self hlt] at h
        exact Option.some.inj h
      refine ⟨ys, ?_, by rw [e2]; simp, ?_, ?_⟩
      · rw [hF k xs m i hlt hm (by omega) hl, e1]
        congr 2
        omega
      · intro j hj
        rw [e3 j (by omega), List.getElem?_set_ne (by omega)]
      · intro j hj h
        by_cases h' : j = i
        · subst h'
          exact ⟨xs[j], by rw [hyi]; congr 1; rw [Int.sub_self, Int.mul_zero, Int.add_zero]⟩
        · obtain ⟨a, ha⟩ := e4 j (by omega) h
          refine ⟨a, by rw [ha]; congr 1; rw [Int.add_assoc]; congr 1; rw [show (j : Int) - (i : Int) = 1 + ((j : Int) - ((i + 1 : Nat) : Int)) by omega, Int.mul_add, Int.mul_one]⟩
  obtain ⟨ys, e1, e2, _, e4⟩ := key xs.length K0 0 xs m (by omega) (by rw [K0_eq]; omega) hm hb hl
  exact ⟨ys, e1, e2, fun i h => by obtain ⟨a, ha⟩ := e4 i (by omega) h; exact ⟨a, by simpa using ha⟩⟩
/-- A loop that tells whether the marks stand. -/
theorem held_loop {α : Type} (G : Nat → List α → Int → Nat → Option ((Int × Unit) ⊕ (Int × Unit))) (c : Int) (E : Int → α → α) (hc : 0 ≤ c)
    (hG : ∀ (k : Nat) (xs : List α) (m : Int) (i : Nat) (hi : i < xs.length) (a : α), 0 ≤ m → m ≤ 4000000000000000000 → xs.length ≤ 9223372036854775807 → xs[i] = E m a → G (k + 1) xs m i = G k xs (m + c) (i + 1))
    (hGe : ∀ (k : Nat) (xs : List α) (m : Int), G (k + 1) xs m xs.length = some (Sum.inr (m, ()))) (ys : List α) (m : Int) (hl : ys.length ≤ 9223372036854775807) (hm : 0 ≤ m) (hb : m + c * (ys.length : Int) ≤ 4000000000000000000)
    (hE : ∀ i, (h : i < ys.length) → ∃ a, ys[i] = E (m + c * (i : Int)) a) : G K0 ys m 0 = some (Sum.inr (m + c * (ys.length : Int), ())) := by
  have key : ∀ (d k i : Nat), i + d = ys.length → d < k → G k ys (m + c * (i : Int)) i = some (Sum.inr (m + c * (ys.length : Int), ())) := by
    intro d
    induction d with
    | zero =>
      intro k i hi hk
      obtain ⟨k, rfl⟩ : ∃ q, k = q + 1 := ⟨k - 1, by omega⟩
      have : i = ys.length := by omega
      subst this
      exact hGe k ys _
    | succ d ih =>
      intro k i hi hk
      obtain ⟨k, rfl⟩ : ∃ q, k = q + 1 := ⟨k - 1, by omega⟩
      obtain ⟨a, ha⟩ := hE i (by omega)
      have hcd : 0 ≤ c * (i : Int) := Int.mul_nonneg hc (by omega)
      have hle : c * (i : Int) ≤ c * (ys.length : Int) := Int.mul_le_mul_of_nonneg_left (by omega) hc
      rw [hG k ys _ i (by omega) a (by omega) (by omega) hl ha]
      have e : m + c * (i : Int) + c = m + c * ((i + 1 : Nat) : Int) := by
        rw [show ((i + 1 : Nat) : Int) = (i : Int) + 1 by omega, Int.mul_add, Int.mul_one]; omega
      rw [e]
      exact ih k (i + 1) (by omega) (by omega)
  have := key ys.length K0 0 (by omega) (by rw [K0_eq]; omega)
  simpa using this
theorem laws_szVm_ok (p0 : ByteArray) (p1 : Int) (p2 : Int) (p3 : Int) (p4 : Int) (p5 : Int) (p6 : ByteArray) (p7 : Int) (left : Int) (h0 : 0 ≤ left) (h1 : left ≤ 1048576) (g0 : good (.str) p0) (g6 : good (.str) p6) : ∃ n, laws_szVm p0 p1 p2 p3 p4 p5 p6 p7 left = some (n, ()) ∧ n ≤ left ∧ -1 ≤ n ∧ (0 ≤ n → small (.pair (.str) (.pair (.int .i64) (.pair (.int .i64) (.pair (.int .i64) (.pair (.int .i64) (.pair (.int .i64) (.pair (.str) (.int .i64)))))))) (p0, p1, p2, p3, p4, p5, p6, p7)) := by
  unfold laws_szVm
  have w1 : wrap64 (left - (p0.size : Int)) = left - (p0.size : Int) := wrap_id (by have := maxLen_lt g0; omega) (by omega)
  simp only [w1]
  clear w1
  by_cases c1 : (left - (p0.size : Int)) < 0
  · refine ⟨-1, ?_, by omega, by omega, fun h => by omega⟩; simp only [decp c1, cond_true]
  simp only [decn c1, cond_false]
  have w2 : wrap64 ((left - (p0.size : Int)) - (p6.size : Int)) = (left - (p0.size : Int)) - (p6.size : Int) := wrap_id (by have := maxLen_lt g6; omega) (by omega)
  simp only [w2]
  clear w2
  by_cases c2 : ((left - (p0.size : Int)) - (p6.size : Int)) < 0
  · refine ⟨-1, ?_, by omega, by omega, fun h => by omega⟩; simp only [decp c2, cond_true]
  simp only [decn c2, cond_false]
  exact ⟨((left - (p0.size : Int)) - (p6.size : Int)), rfl, by omega, by omega, fun _ => ⟨(by show p0.size ≤ 1048576; omega), trivial, trivial, trivial, trivial, trivial, (by show p6.size ≤ 1048576; omega), trivial⟩⟩
theorem laws_toVm_ok (p0 : ByteArray) (p1 : Int) (p2 : Int) (p3 : Int) (p4 : Int) (p5 : Int) (p6 : ByteArray) (p7 : Int) : laws_toVm p0 p1 p2 p3 p4 p5 p6 p7 = some (p0, p1, p2, p3, p4, p5, p6, p7, ()) := by
  unfold laws_toVm
  first | rfl | simp only [Option.bind_some]
/-- A walk over a row that may end early. -/
noncomputable def foldE {α S E : Type} (st : S → α → E ⊕ S) : List α → S → E ⊕ S
  | [], s => .inr s
  | x :: l, s => match st s x with
    | .inl e => .inl e
    | .inr s => foldE st l s
theorem foldE_loop {α S E R : Type} (F : Nat → Nat → S → Option R) (l : List α) (st : S → α → E ⊕ S) (ex : E → R) (fin : S → R) (hl : l.length ≤ 9223372036854775807)
    (hF : ∀ (k i : Nat) (s : S) (hi : i < l.length), F (k + 1) i s = match st s l[i] with
      | .inl e => some (ex e)
      | .inr s => F k (i + 1) s)
    (hE : ∀ (k : Nat) (s : S), F (k + 1) l.length s = some (fin s)) (s : S) : F K0 0 s = some (match foldE st l s with
      | .inl e => ex e
      | .inr s => fin s) := by
  have key : ∀ (d k i : Nat) (s : S), i + d = l.length → d < k → F k i s = some (match foldE st (l.drop i) s with
      | .inl e => ex e
      | .inr s => fin s) := by
    intro d
    induction d with
    | zero =>
      intro k i s hi hk
      obtain ⟨k, rfl⟩ : ∃ q, k = q + 1 := ⟨k - 1, by omega⟩
      have : i = l.length := by omega
      subst this
      rw [hE, List.drop_length]
      rfl
    | succ d ih =>
      intro k i s hi hk
      obtain ⟨k, rfl⟩ : ∃ q, k = q + 1 := ⟨k - 1, by omega⟩
      have hlt : i < l.length := by omega
      rw [hF k i s hlt, List.drop_eq_getElem_cons hlt]
      simp only [foldE]
      cases st s l[i] with
      | inl r => rfl
      | inr s' => exact ih k (i + 1) s' (by omega) (by omega)
  have := key l.length K0 0 s (by omega) (by rw [K0_eq]; omega)
  simpa using this
theorem foldE_filter {α S E : Type} (st : S → α → E ⊕ S) (p : α → Bool) : ∀ (l : List α) (s : S), foldE st (l.filter p) s = foldE (fun s x => bif p x then st s x else .inr s) l s
  | [], s => rfl
  | x :: l, s => by
    cases h : p x with
    | false => rw [List.filter_cons_of_neg (by simp [h])]; simp only [foldE, h, cond_false]; exact foldE_filter st p l s
    | true =>
      rw [List.filter_cons_of_pos h]
      simp only [foldE, h, cond_true]
      cases st s x with
      | inl r => rfl
      | inr s' => exact foldE_filter st p l s'
theorem filter_loop {α R : Type} (F : Nat → Nat → List α → Option R) (l : List α) (p : α → Bool) (fin : List α → R) (hl : l.length ≤ 9223372036854775807)
    (hF : ∀ (k i : Nat) (s : List α) (hi : i < l.length), s.length ≤ i → F (k + 1) i s = F k (i + 1) (bif p l[i] then s ++ [l[i]] else s))
    (hE : ∀ (k : Nat) (s : List α), F (k + 1) l.length s = some (fin s)) : F K0 0 [] = some (fin (l.filter p)) := by
  have key : ∀ (d k i : Nat) (s : List α), i + d = l.length → d < k → s.length ≤ i → F k i s = some (fin (s ++ (l.drop i).filter p)) := by
    intro d
    induction d with
    | zero =>
      intro k i s hi hk hs
      obtain ⟨k, rfl⟩ : ∃ q, k = q + 1 := ⟨k - 1, by omega⟩
      have : i = l.length := by omega
      subst this
      rw [hE, List.drop_length]
      simp
    | succ d ih =>
      intro k i s hi hk hs
      obtain ⟨k, rfl⟩ : ∃ q, k = q + 1 := ⟨k - 1, by omega⟩
      have hlt : i < l.length := by omega
      rw [hF k i s hlt hs, List.drop_eq_getElem_cons hlt]
      cases h : p l[i] with
      | true =>
        rw [cond_true, ih k (i + 1) _ (by omega) (by omega) (by simp; omega), List.filter_cons_of_pos h]
        simp
      | false =>
        rw [cond_false, ih k (i + 1) _ (by omega) (by omega) (by omega), List.filter_cons_of_neg (by simp [h])]
  have := key l.length K0 0 [] (by omega) (by rw [K0_eq]; omega) (by simp)
  simpa using this
/-- The first index from i on at which p holds. -/
noncomputable def findN (p : Nat → Bool) : Nat → Nat → Option Nat
  | 0, _ => none
  | d + 1, i => bif p i then some i else findN p d (i + 1)
theorem find_loop {R : Type} (F : Nat → Nat → Option R) (n : Nat) (p : Nat → Bool) (hit : Nat → R) (miss : R) (hn : n ≤ 9223372036854775807)
    (hF : ∀ (k i : Nat), i < n → F (k + 1) i = bif p i then some (hit i) else F k (i + 1)) (hE : ∀ (k : Nat), F (k + 1) n = some miss) :
    F K0 0 = some (match findN p n 0 with
      | some i => hit i
      | none => miss) := by
  have key : ∀ (d k i : Nat), i + d = n → d < k → F k i = some (match findN p d i with
      | some i => hit i
      | none => miss) := by
    intro d
    induction d with
    | zero =>
      intro k i hi hk
      obtain ⟨k, rfl⟩ : ∃ q, k = q + 1 := ⟨k - 1, by omega⟩
      have : i = n := by omega
      subst this
      rw [hE]
      rfl
    | succ d ih =>
      intro k i hi hk
      obtain ⟨k, rfl⟩ : ∃ q, k = q + 1 := ⟨k - 1, by omega⟩
      rw [hF k i (by omega)]
      simp only [findN]
      cases p i with
      | true => rfl
      | false => exact ih k (i + 1) (by omega) (by omega)
  exact key n K0 0 (by omega) (by rw [K0_eq]; omega)
theorem findN_some {p : Nat → Bool} : ∀ {d i j : Nat}, findN p d i = some j → i ≤ j ∧ j < i + d ∧ p j = true
  | 0, _, _, h => by simp [findN] at h
  | d + 1, i, j, h => by
    simp only [findN] at h
    cases hp : p i with
    | true =>
      rw [hp, cond_true, Option.some.injEq] at h
      subst h
      exact ⟨Nat.le_refl _, by omega, hp⟩
    | false =>
      rw [hp, cond_false] at h
      obtain ⟨h1, h2, h3⟩ := findN_some h
      exact ⟨by omega, by omega, h3⟩
theorem findN_none {p : Nat → Bool} : ∀ {d i : Nat}, findN p d i = none → ∀ j, i ≤ j → j < i + d → p j = false
  | 0, i, _, j, h1, h2 => by omega
  | d + 1, i, h, j, h1, h2 => by
    simp only [findN] at h
    cases hp : p i with
    | true => rw [hp, cond_true] at h; cases h
    | false =>
      rw [hp, cond_false] at h
      by_cases e : j = i
      · rw [e]; exact hp
      · exact findN_none h j (by omega) (by omega)
theorem findN_congr {p q : Nat → Bool} : ∀ {d i : Nat}, (∀ j, i ≤ j → j < i + d → p j = q j) → findN p d i = findN q d i
  | 0, _, _ => rfl
  | d + 1, i, h => by
    simp only [findN]
    rw [h i (Nat.le_refl _) (by omega), findN_congr fun j h1 h2 => h j (by omega) (by omega)]
theorem fold_loop {α S R : Type} (F : Nat → Nat → S → Option R) (l : List α) (f : S → α → S) (fin : S → R) (hl : l.length ≤ 9223372036854775807)
    (hF : ∀ (k i : Nat) (s : S) (hi : i < l.length), F (k + 1) i s = F k (i + 1) (f s l[i])) (hE : ∀ (k : Nat) (s : S), F (k + 1) l.length s = some (fin s)) (s : S) : F K0 0 s = some (fin (l.foldl f s)) := by
  have key : ∀ (d k i : Nat) (s : S), i + d = l.length → d < k → F k i s = some (fin ((l.drop i).foldl f s)) := by
    intro d
    induction d with
    | zero =>
      intro k i s hi hk
      obtain ⟨k, rfl⟩ : ∃ q, k = q + 1 := ⟨k - 1, by omega⟩
      have : i = l.length := by omega
      subst this
      rw [hE, List.drop_length]
      rfl
    | succ d ih =>
      intro k i s hi hk
      obtain ⟨k, rfl⟩ : ∃ q, k = q + 1 := ⟨k - 1, by omega⟩
      have hlt : i < l.length := by omega
      rw [hF k i s hlt, List.drop_eq_getElem_cons hlt, List.foldl_cons]
      exact ih k (i + 1) _ (by omega) (by omega)
  have := key l.length K0 0 s (by omega) (by rw [K0_eq]; omega)
  simpa using this
theorem findN_or (p q : Nat → Bool) : ∀ (d i : Nat), (findN (fun i => p i || q i) d i).isNone = ((findN p d i).isNone && (findN q d i).isNone)
  | 0, _ => rfl
  | d + 1, i => by
    simp only [findN]
    have ih := findN_or p q d (i + 1)
    cases p i with
    | true => rfl
    | false =>
      cases q i with
      | true => simp
      | false => exact ih
noncomputable def nameBad (s : ByteArray) (i : Nat) : Bool := !((((decide (bt s (i : Int) ≥ 97) && decide (bt s (i : Int) ≤ 122)) || (decide (bt s (i : Int) ≥ 48) && decide (bt s (i : Int) ≤ 57))) || (bt s (i : Int) == 45)))
noncomputable def nameOk (s : ByteArray) : Bool := !(decide ((s.size : Int) < 1) || decide ((s.size : Int) > 20)) && (findN (nameBad s) s.size 0).isNone
theorem spec_name (s : ByteArray) (h : s.size ≤ 9223372036854775806) : spec_l13Name s = some (nameOk s, ()) := by
  unfold spec_l13Name nameOk
  have e : spec_l13Name_l4 K0 s 0 = _ := find_loop (fun k i => spec_l13Name_l4 k s (i : Int)) s.size (nameBad s) (fun _ => Sum.inl (false, ())) (Sum.inr ()) (by omega) (by
    intro k i hi
    show spec_l13Name_l4_step (spec_l13Name_l4 k) s (i : Int) = _
    unfold spec_l13Name_l4_step nameBad
    simp only [decp (show (i : Int) < (s.size : Int) by omega), decp (show (0 : Int) ≤ (i : Int) by omega), Bool.and_true, cond_true, wrap_i i s.size hi (by omega)]) (by
    intro k
    show spec_l13Name_l4_step (spec_l13Name_l4 k) s (s.size : Int) = _
    unfold spec_l13Name_l4_step
    simp only [decn (show ¬ (s.size : Int) < (s.size : Int) by omega), cond_false])
  dsimp only
  cases hb : (decide ((s.size : Int) < 1) || decide ((s.size : Int) > 20)) with
  | true => rfl
  | false =>
    rw [cond_false, e]
    cases findN (nameBad s) s.size 0 <;> rfl
theorem impl_name (s : ByteArray) (h : s.size ≤ 9223372036854775806) : impl_yisName s = some (nameOk s, ()) := by
  unfold impl_yisName nameOk
  have e : impl_yisName_l2 K0 s (s.size : Int) 0 = _ := find_loop (fun k i => impl_yisName_l2 k s (s.size : Int) (i : Int)) s.size (nameBad s) (fun _ => Sum.inl (false, ())) (Sum.inr (s, ())) (by omega) (by
    intro k i hi
    show impl_yisName_l2_step (impl_yisName_l2 k) s (s.size : Int) (i : Int) = _
    unfold impl_yisName_l2_step nameBad
    simp only [decp (show (i : Int) < (s.size : Int) by omega), decp (show (0 : Int) ≤ (i : Int) by omega), Bool.and_true, cond_true, wrap_i i s.size hi (by omega)]) (by
    intro k
    show impl_yisName_l2_step (impl_yisName_l2 k) s (s.size : Int) (s.size : Int) = _
    unfold impl_yisName_l2_step
    simp only [decn (show ¬ (s.size : Int) < (s.size : Int) by omega), cond_false])
  rw [e]
  have hz : (!(decide ((s.size : Int) < 1) || decide ((s.size : Int) > 20))) = (decide ((s.size : Int) ≥ 1) && decide ((s.size : Int) ≤ 20)) := by
    rw [Bool.eq_iff_iff]; simp
  rw [hz]
  cases findN (nameBad s) s.size 0 with
  | none => simp only [Option.bind_some, Option.isNone_none, Bool.and_true]
  | some j => simp only [Option.bind_some, Option.isNone_some, Bool.and_false]
abbrev Vm := ByteArray × Int × Int × Int × Int × Int × ByteArray × Int
noncomputable def vmOk (n : ByteArray) (t c m z a : Int) (nt : Int) : Bool := ((((((((nameOk n && decide (t ≥ 0)) && decide (t < nt)) && decide (c ≥ 1)) && decide (c ≤ 64)) && decide (m ≥ 1)) && decide (m ≤ 1000)) && decide (z ≥ 0)) && decide (z ≤ 20)) && decide (a ≥ 0) && decide (a ≤ 20)
theorem spec_vm (n : ByteArray) (t c m z a : Int) (x : ByteArray) (p nt : Int) (h : n.size ≤ 1048576) : spec_l22IsVm n t c m z a x p nt = some (vmOk n t c m z a nt, ()) := by
  unfold spec_l22IsVm vmOk
  rw [spec_name n (by omega)]
  simp only [Option.bind_some, Bool.and_assoc]
theorem impl_vm (n : ByteArray) (t c m z a : Int) (x : ByteArray) (p : Int) (nt : Nat) (h : n.size ≤ 1048576) (hnt : nt ≤ 1048576) : impl_yvmOk n t c m z a x p (nt : Int) = some (vmOk n t c m z a (nt : Int), ()) := by
  unfold impl_yvmOk vmOk
  rw [impl_name n (by omega)]
  have hw : wrap64 ((nt : Int) - 1) = (nt : Int) - 1 := wrap_id (by omega) (by omega)
  simp only [Option.bind_some, yin_eq, Option.getD_some, Option.isSome_some, Bool.or_true, Bool.and_true, cond_true, hw]
  congr 2
  rw [Bool.eq_iff_iff]
  generalize nameOk n = b
  cases b
  · simp
  · simp only [Bool.and_eq_true, decide_eq_true_eq, Bool.true_and, and_assoc]
    constructor
    · intro h; omega
    · intro h; omega
theorem digs_len (m : Nat) : (Go.Lib.decDigits m).length ≤ m + 1 := by
  induction m using Nat.strongRecOn with
  | _ m ih =>
    rw [Go.Lib.decDigits]
    by_cases h : m < 10
    · rw [dif_pos h]; simp
    · rw [dif_neg h]
      have := ih (m / 10) (by omega)
      rw [List.length_append]
      simp only [List.length_singleton]
      omega
theorem itoaB_nat (m : Nat) : itoaB (m : Int) = ⟨(Go.Lib.decDigits m).toArray⟩ := by
  unfold itoaB Go.Lib.itoa
  rw [if_neg (by omega), Int.toNat_natCast]
theorem itoaB_size (m : Nat) : (itoaB (m : Int)).size ≤ m + 1 := by
  rw [itoaB_nat]
  have := digs_len m
  simpa [ByteArray.size] using this
theorem digit_byte (d : Nat) (h : d < 10) : b2s [IntKind.u8.wrap (48 + (d : Int))] = ⟨#[UInt8.ofNat (48 + d)]⟩ := by
  have key : ∀ d : Fin 10, IntKind.u8.wrap (48 + ((d.val : Nat) : Int)) = ((48 + d.val : Nat) : Int) := by decide +kernel
  have := key ⟨d, h⟩
  unfold b2s
  simp only at this
  rw [this]
  show (⟨#[UInt8.ofNat (((48 + d : Nat) : Int)).toNat]⟩ : ByteArray) = _
  rw [Int.toNat_natCast]
theorem itoaB_step (m : Nat) (h : ¬ m < 10) : itoaB (m : Int) = itoaB ((m / 10 : Nat) : Int) ++ ⟨#[UInt8.ofNat (48 + m % 10)]⟩ := by
  rw [itoaB_nat, itoaB_nat, Go.Lib.decDigits, dif_neg h]
  apply ByteArray.ext
  simp
theorem dec_rec : ∀ (k m : Nat), m < 10 ^ (k + 1) → m ≤ 9223372036854775807 → spec_l01Dec_rec (k + 1) (m : Int) = some (itoaB (m : Int), ())
  | k, m, h, hb => by
    have hstep : ∀ k, spec_l01Dec_rec (k + 1) (m : Int) = spec_l01Dec_step (spec_l01Dec_rec k) (m : Int) := fun k => rfl
    rw [hstep]
    unfold spec_l01Dec_step
    rw [decn (show ¬ (m : Int) < 0 by omega), cond_false]
    by_cases hm : m < 10
    · rw [decp (show (m : Int) < 10 by omega), cond_true]
      dsimp only
      rw [wrap_id (by omega) (by omega), digit_byte m hm, itoaB_nat, Go.Lib.decDigits, dif_pos hm]
    · rw [decn (show ¬ (m : Int) < 10 by omega), cond_false]
      dsimp only
      have e1 : Int.tdiv (m : Int) 10 = ((m / 10 : Nat) : Int) := by
        rw [Int.tdiv_eq_ediv_of_nonneg (by omega)]; omega
      have e2 : Int.tmod (m : Int) 10 = ((m % 10 : Nat) : Int) := by
        rw [Int.tmod_eq_emod_of_nonneg (by omega)]; omega
      rw [e1, e2, wrap_id (x := ((m / 10 : Nat) : Int)) (by omega) (by omega), wrap_id (x := (48 : Int) + ((m % 10 : Nat) : Int)) (by omega) (by omega)]
      cases k with
      | zero => exfalso; omega
      | succ k =>
        rw [dec_rec k (m / 10) (by rw [Nat.pow_succ] at h; omega) (by omega)]
        simp only [Option.bind_some]
        rw [digit_byte (m % 10) (by omega)]
        have hj : joins (itoaB ((m / 10 : Nat) : Int)) ⟨#[UInt8.ofNat (48 + m % 10)]⟩ = true := by
          unfold joins
          rw [S0_eq]
          refine decp ?_
          have := itoaB_size (m / 10)
          have e : (⟨#[UInt8.ofNat (48 + m % 10)]⟩ : ByteArray).size = 1 := rfl
          omega
        rw [hj, ← itoaB_step m hm]
        rfl
/-- Numbers that are not below 0, as texts. -/
theorem spec_dec (n : Int) (h0 : 0 ≤ n) (h1 : n ≤ 9223372036854775807) : spec_l01Dec n = some (itoaB n, ()) := by
  obtain ⟨m, rfl⟩ : ∃ m : Nat, n = m := ⟨n.toNat, by omega⟩
  unfold spec_l01Dec
  obtain ⟨k, hk⟩ := K0_ge (n := 20) (by omega)
  rw [hk]
  refine dec_rec (k + 19) m ?_ (by omega)
  have : 10 ^ 20 ≤ 10 ^ (k + 19 + 1) := Nat.pow_le_pow_right (by omega) (by omega)
  have e : (10 : Nat) ^ 20 = 100000000000000000000 := by decide
  omega
theorem impl_dec (n : Int) (h0 : 0 ≤ n) (h1 : n ≤ 9223372036854775807) : impl_ydecimal n = some (itoaB n, ()) := by
  unfold impl_ydecimal FormatInt
  rw [S0_eq, decp (show -9223372036854775807 ≤ n by omega), decp h1]
  rfl
theorem joinB_none : joinB [] ⟨#[]⟩ = ByteArray.empty := rfl
theorem intercal_nil (l : List (List UInt8)) : Go.Lib.join l [] = l.flatten := by
  cases l with
  | nil => rfl
  | cons x r => rw [Go.Lib.join_cons]; simp [Go.Lib.joinTail]
theorem joinB_cons (x : ByteArray) (l : List ByteArray) : joinB (x :: l) ⟨#[]⟩ = x ++ joinB l ⟨#[]⟩ := by
  unfold joinB
  rw [show (⟨#[]⟩ : ByteArray).data.toList = [] from rfl, intercal_nil, intercal_nil]
  apply ByteArray.ext
  simp
theorem impl_join (l : List ByteArray) (h : l.length ≤ 1000000) (hs : (joinB l ⟨#[]⟩).size ≤ 140737488355328) : impl_yjoin l = some (joinB l ⟨#[]⟩, ()) := by
  unfold impl_yjoin strJoin
  rw [M0_eq, decp (show (l.length : Int) ≤ 140737488355328 by omega), decp (show ((joinB l ⟨#[]⟩).size : Int) ≤ 140737488355328 by omega)]
  rfl
theorem app_size (a b : ByteArray) : (a ++ b).size = a.size + b.size := ByteArray.size_append
theorem joins_ok {a b : ByteArray} (h : a.size + b.size ≤ 9223372036854775807) : joins a b = true := by
  unfold joins; rw [S0_eq]; exact decp (by omega)
/-- A machine as a text. -/
noncomputable def vmText (n : ByteArray) (t c m z a : Int) : ByteArray := joinB [n, (⟨#[32, 116, 101, 110, 97, 110, 116, 61]⟩ : ByteArray), itoaB t, (⟨#[32, 99, 112, 117, 61]⟩ : ByteArray), itoaB c, (⟨#[32, 109, 101, 109, 61]⟩ : ByteArray), itoaB m, (⟨#[32, 122, 111, 110, 101, 61]⟩ : ByteArray), itoaB z, (⟨#[32, 97, 112, 97, 114, 116, 61]⟩ : ByteArray), itoaB a] ⟨#[]⟩
theorem itoaB_le (n : Int) (h0 : 0 ≤ n) : ((itoaB n).size : Int) ≤ n + 1 := by
  obtain ⟨m, rfl⟩ : ∃ m : Nat, n = m := ⟨n.toNat, by omega⟩
  have := itoaB_size m
  omega
theorem vmOk_get {n : ByteArray} {t c m z a nt : Int} (h : vmOk n t c m z a nt = true) : nameOk n = true ∧ 0 ≤ t ∧ t < nt ∧ 1 ≤ c ∧ c ≤ 64 ∧ 1 ≤ m ∧ m ≤ 1000 ∧ 0 ≤ z ∧ z ≤ 20 ∧ 0 ≤ a ∧ a ≤ 20 := by
  unfold vmOk at h
  simp only [Bool.and_eq_true, decide_eq_true_eq] at h
  obtain ⟨⟨⟨⟨⟨⟨⟨⟨⟨⟨h1, h2⟩, h3⟩, h4⟩, h5⟩, h6⟩, h7⟩, h8⟩, h9⟩, h10⟩, h11⟩ := h
  exact ⟨h1, h2, h3, h4, h5, h6, h7, h8, h9, h10, h11⟩
theorem nameOk_size {n : ByteArray} (h : nameOk n = true) : 1 ≤ n.size ∧ n.size ≤ 20 := by
  unfold nameOk at h
  simp only [Bool.and_eq_true, Bool.not_eq_true', Bool.or_eq_false_iff, decide_eq_false_iff_not] at h
  omega
theorem spec_vmtext (n : ByteArray) (t c m z a : Int) (x : ByteArray) (p : Int) (h : n.size ≤ 1048576) : spec_VmText n t c m z a x p = some (bif vmOk n t c m z a 8 then vmText n t c m z a else ⟨#[]⟩, ()) := by
  unfold spec_VmText
  rw [spec_vm _ _ _ _ _ _ _ _ _ h]
  simp only [Option.bind_some]
  cases hv : vmOk n t c m z a 8 with
  | false => rfl
  | true =>
    obtain ⟨h1, h2, h3, h4, h5, h6, h7, h8, h9, h10, h11⟩ := vmOk_get hv
    have hn := nameOk_size h1
    rw [spec_dec t h2 (by omega), spec_dec c (by omega) (by omega), spec_dec m (by omega) (by omega), spec_dec z (by omega) (by omega), spec_dec a (by omega) (by omega)]
    simp only [Option.bind_some, Bool.not_true, cond_false, cond_true]
    have k1 := itoaB_le t h2
    have k2 := itoaB_le c (by omega)
    have k3 := itoaB_le m (by omega)
    have k4 := itoaB_le z h8
    have k5 := itoaB_le a h10
    have s1 : (⟨#[32, 116, 101, 110, 97, 110, 116, 61]⟩ : ByteArray).size = 8 := rfl
    have s2 : (⟨#[32, 99, 112, 117, 61]⟩ : ByteArray).size = 5 := rfl
    have s3 : (⟨#[32, 109, 101, 109, 61]⟩ : ByteArray).size = 5 := rfl
    have s4 : (⟨#[32, 122, 111, 110, 101, 61]⟩ : ByteArray).size = 6 := rfl
    have s5 : (⟨#[32, 97, 112, 97, 114, 116, 61]⟩ : ByteArray).size = 7 := rfl
    unfold vmText
    generalize itoaB t = b1 at k1 ⊢
    generalize itoaB c = b2 at k2 ⊢
    generalize itoaB m = b3 at k3 ⊢
    generalize itoaB z = b4 at k4 ⊢
    generalize itoaB a = b5 at k5 ⊢
    generalize (⟨#[32, 116, 101, 110, 97, 110, 116, 61]⟩ : ByteArray) = c1 at s1 ⊢
    generalize (⟨#[32, 99, 112, 117, 61]⟩ : ByteArray) = c2 at s2 ⊢
    generalize (⟨#[32, 109, 101, 109, 61]⟩ : ByteArray) = c3 at s3 ⊢
    generalize (⟨#[32, 122, 111, 110, 101, 61]⟩ : ByteArray) = c4 at s4 ⊢
    generalize (⟨#[32, 97, 112, 97, 114, 116, 61]⟩ : ByteArray) = c5 at s5 ⊢
    rw [joins_ok (by omega), joins_ok (by simp only [app_size]; omega), joins_ok (by simp only [app_size]; omega), joins_ok (by simp only [app_size]; omega), joins_ok (by simp only [app_size]; omega), joins_ok (by simp only [app_size]; omega), joins_ok (by simp only [app_size]; omega), joins_ok (by simp only [app_size]; omega), joins_ok (by simp only [app_size]; omega), joins_ok (by simp only [app_size]; omega)]
    simp only [Bool.and_true, cond_true, joinB_cons, joinB_none, ByteArray.append_assoc, ByteArray.append_empty]
theorem vmText_size {n : ByteArray} {t c m z a : Int} (hv : vmOk n t c m z a 8 = true) : (vmText n t c m z a).size ≤ 2000 := by
  obtain ⟨h1, h2, h3, h4, h5, h6, h7, h8, h9, h10, h11⟩ := vmOk_get hv
  have hn := nameOk_size h1
  have k1 := itoaB_le t h2
  have k2 := itoaB_le c (by omega)
  have k3 := itoaB_le m (by omega)
  have k4 := itoaB_le z h8
  have k5 := itoaB_le a h10
  unfold vmText
  simp only [joinB_cons, joinB_none, app_size]
  have s1 : (⟨#[32, 116, 101, 110, 97, 110, 116, 61]⟩ : ByteArray).size = 8 := rfl
  have s2 : (⟨#[32, 99, 112, 117, 61]⟩ : ByteArray).size = 5 := rfl
  have s3 : (⟨#[32, 109, 101, 109, 61]⟩ : ByteArray).size = 5 := rfl
  have s4 : (⟨#[32, 122, 111, 110, 101, 61]⟩ : ByteArray).size = 6 := rfl
  have s5 : (⟨#[32, 97, 112, 97, 114, 116, 61]⟩ : ByteArray).size = 7 := rfl
  have s0 : ByteArray.empty.size = 0 := rfl
  omega
theorem impl_vmtext (n : ByteArray) (t c m z a : Int) (x : ByteArray) (p : Int) (h : n.size ≤ 1048576) : impl_VmText n t c m z a x p = some (bif vmOk n t c m z a 8 then vmText n t c m z a else ⟨#[]⟩, ()) := by
  unfold impl_VmText
  have hv8 : impl_yvmOk n t c m z a x p 8 = _ := impl_vm n t c m z a x p 8 h (by omega)
  rw [hv8]
  simp only [Option.bind_some]
  cases hv : vmOk n t c m z a 8 with
  | false =>
    rfl
  | true =>
    have hs := vmText_size hv
    obtain ⟨h1, h2, h3, h4, h5, h6, h7, h8, h9, h10, h11⟩ := vmOk_get hv
    rw [impl_dec t h2 (by omega), impl_dec c (by omega) (by omega), impl_dec m (by omega) (by omega), impl_dec z (by omega) (by omega), impl_dec a (by omega) (by omega)]
    simp only [Option.bind_some, Bool.not_true, cond_false, cond_true]
    unfold vmText at hs ⊢
    rw [impl_join _ (by simp) (by omega)]
    rfl
theorem FnExactVmText : laws_FnExactVmText.Pure := by
  intro v gv
  unfold laws_FnExactVmText
  obtain ⟨n1, e1, l1, m1, s1⟩ := laws_szVm_ok v.1 v.2.1 v.2.2.1 v.2.2.2.1 v.2.2.2.2.1 v.2.2.2.2.2.1 v.2.2.2.2.2.2.1 v.2.2.2.2.2.2.2 1048576 (by decide) (by decide) gv.1 gv.2.2.2.2.2.2.1
  rw [e1]
  simp only [Option.bind_some]
  by_cases c1 : n1 < 0
  · rw [decp c1]; rfl
  rw [decn c1]
  simp only [cond_false]
  have sv := s1 (by omega)
  have b1 := laws_toVm_ok v.1 v.2.1 v.2.2.1 v.2.2.2.1 v.2.2.2.2.1 v.2.2.2.2.2.1 v.2.2.2.2.2.2.1 v.2.2.2.2.2.2.2
  rw [b1]
  simp only [Option.bind_some]
  rw [spec_vmtext _ _ _ _ _ _ _ _ sv.1, impl_vmtext _ _ _ _ _ _ _ _ sv.1]
  simp only [Option.bind_some]
  have e : seq (bif vmOk v.1 v.2.1 v.2.2.1 v.2.2.2.1 v.2.2.2.2.1 v.2.2.2.2.2.1 8 then vmText v.1 v.2.1 v.2.2.1 v.2.2.2.1 v.2.2.2.2.1 v.2.2.2.2.2.1 else ⟨#[]⟩) (bif vmOk v.1 v.2.1 v.2.2.1 v.2.2.2.1 v.2.2.2.2.1 v.2.2.2.2.2.1 8 then vmText v.1 v.2.1 v.2.2.1 v.2.2.2.1 v.2.2.2.2.1 v.2.2.2.2.2.1 else ⟨#[]⟩) = true := by
    unfold seq; exact beq_self_eq_true _
  rw [e]
  rfl
end Go.Ab.FnExactVmText.Pure
