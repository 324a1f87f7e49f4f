/- The plain statement of the law FnExactRunSerial. -/
import Derived.Test.YtaopkodopglgeaaAbStFnExactRunSerial
import Derived.Laws.BitsLemmas
namespace Go.Ab.FnExactRunSerial.Pure
open Go.RowKit Go.Ab
set_option linter.unusedVariables false
set_option linter.unusedSimpArgs false
theorem wrap_id {x : Int} (h0 : -9223372036854775808 ≤ x) (h1 : x ≤ 9223372036854775807) : wrap64 x = x := by unfold wrap64; omega
theorem K0_ge {n : Nat} (h : n ≤ 18446744073709551616) : ∃ k, K0 = k + n := ⟨K0 - n, by rw [K0_eq]; omega⟩
theorem roomy_ok {n b : Int} (h : n * b ≤ 140737488355328) : roomy n b = true := by unfold roomy; rw [M0_eq]; simpa using h
theorem rd_nat (t : Ty) (l : List t.val) (i : Nat) : rd t l (i : Int) = l.getD i t.dflt := by unfold rd; rw [Int.toNat_natCast]
theorem rd_at (t : Ty) (l : List t.val) (i : Nat) (h : i < List.length l) : rd t l (i : Int) = l[i]'h := by rw [rd_nat]; simp [h]
theorem decp {p : Prop} [Decidable p] (h : p) : decide p = true := decide_eq_true h
theorem decn {p : Prop} [Decidable p] (h : ¬ p) : decide p = false := decide_eq_false h
theorem bt_range (m : ByteArray) (a : Int) : 0 ≤ bt m a ∧ bt m a ≤ 255 := by
  unfold bt
  have := (m.data.getD a.toNat 0).toNat_lt
  omega
theorem shl_eq {x s : Int} (n : Nat) (hs : s = (n : Int)) (h : n ≤ 64) (h0 : 0 ≤ x * 2 ^ n) (h1 : x * 2 ^ n ≤ 9223372036854775807) : shl .i64 x s = x * 2 ^ n := by
  subst hs
  unfold shl
  rw [Int.toNat_natCast, show min n IntKind.i64.bits = n from Nat.min_eq_left h, IntKind.wrap_i64]
  omega
theorem wrap_succ (i n : Nat) (h : i < n) (hn : n ≤ 140737488351232) : wrap64 ((i : Int) + 1) = ((i + 1 : Nat) : Int) := by
  unfold wrap64; omega
theorem yin_eq (a b c : Int) : impl_yin a b c = some (decide (b ≤ a ∧ a ≤ c), ()) := by
  unfold impl_yin
  dsimp only
  congr 2
  rw [Bool.eq_iff_iff]
  simp
theorem mod_eq (a b : Int) (hb : 0 < b) : (if a.tmod b < 0 then a.tmod b + b else a.tmod b) = a % b := by
  have h1 := Int.emod_nonneg a (show b ≠ 0 by omega)
  have h2 := Int.emod_lt_of_pos a hb
  rw [Int.tmod_eq_emod]
  by_cases h : 0 ≤ a ∨ b ∣ a
  · rw [if_pos h]; simp; omega
  · rw [if_neg h, if_pos (by omega)]; omega
theorem mod_cond (a b : Int) (hb : 0 < b) (hb2 : b ≤ 4611686018427387904) : (bif decide (a.tmod b < 0) then wrap64 (a.tmod b + b) else a.tmod b) = a % b := by
  rw [← mod_eq a b hb]
  have h1 := Int.emod_nonneg a (show b ≠ 0 by omega)
  have h2 := Int.emod_lt_of_pos a hb
  by_cases h : a.tmod b < 0
  · have h3 : -b < a.tmod b := by
      rw [Int.tmod_eq_emod]; split <;> omega
    rw [decp h, if_pos h]
    exact wrap_id (by omega) (by omega)
  · rw [decn h, if_neg h]; rfl
/-- What is told of sizes once they are counted. -/
def small : (t : Ty) → t.val → Prop
  | .str, x => x.size ≤ 1048576
  | .slice t, l => List.length l ≤ 1048576 ∧ ∀ y ∈ (show List t.val from l), small t y
  | .pair a b, x => small a x.1 ∧ small b x.2
  | _, _ => True
/-- The same of rows alone. -/
def lens : (t : Ty) → t.val → Prop
  | .slice t, l => List.length l ≤ 1048576 ∧ ∀ y ∈ (show List t.val from l), lens t y
  | .pair a b, x => lens a x.1 ∧ lens b x.2
  | _, _ => True
theorem lens_of : ∀ {t : Ty} {x : t.val}, small t x → lens t x
  | .slice t, l, h => ⟨h.1, fun y hy => lens_of (h.2 y hy)⟩
  | .pair a b, x, h => ⟨lens_of h.1, lens_of h.2⟩
  | .str, _, _ => trivial
  | .int _, _, _ => trivial
  | .bool, _, _ => trivial
  | .unit, _, _ => trivial
  | .sum _ _, _, _ => trivial
  | .opq, _, _ => trivial
theorem lens_flat {t : Ty} (h : flat t = true) (x : t.val) : lens t x := by
  induction t with
  | slice t _ => simp [flat] at h
  | pair a b iha ihb => simp only [flat, Bool.and_eq_true] at h; exact ⟨iha h.1 x.1, ihb h.2 x.2⟩
  | _ => trivial
theorem lens_row {t : Ty} (h : flat t = true) {l : List t.val} (hl : l.length ≤ 1048576) : lens (.slice t) l := ⟨hl, fun y _ => lens_flat h y⟩
theorem lens_at {t : Ty} {l : List t.val} (h : lens (.slice t) l) (i : Nat) (hi : i < List.length l) : lens t (l[i]'hi) := h.2 _ (List.getElem_mem hi)
theorem good_at {t : Ty} {l : List t.val} (h : good (.slice t) l) (i : Nat) (hi : i < List.length l) : good t (l[i]'hi) := h.2 _ (List.getElem_mem hi)
theorem small_row {t : Ty} {l : List t.val} (hl : List.length l ≤ 1048576) (h : ∀ i, (hi : i < List.length l) → small t (l[i]'hi)) : small (.slice t) l := ⟨hl, fun y hy => by
  obtain ⟨i, hi, rfl⟩ := List.getElem_of_mem hy
  exact h i hi⟩
theorem maxLen_lt {n : Nat} (h : n ≤ maxLen) : n ≤ 9223372036854775807 := by unfold maxLen at h; omega
theorem wrap_inc (m j : Int) (h0 : 0 ≤ m) (h1 : m ≤ 4000000000000000000) (h2 : 0 ≤ j) (h3 : j ≤ 1000000) : wrap64 (m + j + 1) = m + (j + 1) := by
  unfold wrap64; omega
theorem wrap_i (i n : Nat) (h : i < n) (hn : n ≤ 9223372036854775807) : wrap64 ((i : Int) + 1) = ((i + 1 : Nat) : Int) := by
  unfold wrap64; omega
theorem rd_set (t : Ty) (l : List t.val) (i : Nat) (v : t.val) (h : i < List.length l) : rd t (List.set l i v) (i : Int) = v := by
  rw [rd_at t _ i (by simpa using h)]; simp
theorem b2s_one (n : Int) : (b2s [n]).size = 1 := rfl
theorem bsize_app (a b : ByteArray) : (a ++ b).size = a.size + b.size := ByteArray.size_append
theorem seq_self (s : ByteArray) : seq s s = true := by unfold seq; simp
theorem seq_ne_self (s : ByteArray) : (!seq s s) = false := by rw [seq_self]; rfl
/-- A loop that lays each element as it is. -/
theorem to_loop {α : Type} (F : Nat → List α → Nat → List α → Option (List α × Unit)) (l : List α) (hl : l.length ≤ 9223372036854775807)
    (hF : ∀ (k i : Nat) (ys : List α) (hi : i < l.length), ys.length = l.length → F (k + 1) l i ys = F k l (i + 1) (ys.set i l[i]))
    (hE : ∀ (k : Nat) (ys : List α), F (k + 1) l l.length ys = some (ys, ())) (ys : List α) (hy : ys.length = l.length) : F K0 l 0 ys = some (l, ()) := by
  have key : ∀ (d k i : Nat) (ys : List α), i + d = l.length → d < k → ys.length = l.length → (∀ j, j < i → ys[j]? = l[j]?) → F k l i ys = some (l, ()) := by
    intro d
    induction d with
    | zero =>
      intro k i ys hi hk hy hj
      obtain ⟨k, rfl⟩ : ∃ q, k = q + 1 := ⟨k - 1, by omega⟩
      have : i = l.length := by omega
      subst this
      rw [hE]
      congr 2
      apply List.ext_getElem? 
      intro j
      by_cases h : j < l.length
      · exact hj j h
      · rw [List.getElem?_eq_none (by omega), List.getElem?_eq_none (by omega)]
    | succ d ih =>
      intro k i ys hi hk hy hj
      obtain ⟨k, rfl⟩ : ∃ q, k = q + 1 := ⟨k - 1, by omega⟩
      rw [hF k i ys (by omega) hy]
      refine ih k (i + 1) _ (by omega) (by omega) (by simpa using hy) fun j hjj => ?_
      by_cases h : j = i
      · subst h
        rw [List.getElem?_set_self (by omega), List.getElem?_eq_getElem (by omega)]
      · rw [List.getElem?_set_ne (by omega)]
        exact hj j (by omega)
  exact key l.length K0 0 ys (by omega) (by rw [K0_eq]; omega) hy (fun j hj => by omega)
/-- A loop that takes from what is left, or is at its end. -/
theorem sz_loop {α : Type} (F : Nat → List α → Int → Nat → Option ((Int × Unit) ⊕ (Int × Unit))) (P : α → Prop) (l : List α) (hl : l.length ≤ 9223372036854775807)
    (hF : ∀ (k i : Nat) (left : Int) (hi : i < l.length), 0 ≤ left → left ≤ 1048576 → ∃ n, n ≤ left ∧ -1 ≤ n ∧ (0 ≤ n → P l[i]) ∧ F (k + 1) l left i = bif decide (n < 0) then some (Sum.inl (-1, ())) else F k l n (i + 1))
    (hE : ∀ (k : Nat) (left : Int), F (k + 1) l left l.length = some (Sum.inr (left, ()))) (left : Int) (h0 : 0 ≤ left) (h1 : left ≤ 1048576) :
    F K0 l left 0 = some (Sum.inl (-1, ())) ∨ ∃ n, n ≤ left ∧ 0 ≤ n ∧ (∀ i, (hi : i < l.length) → P l[i]) ∧ F K0 l left 0 = some (Sum.inr (n, ())) := by
  have key : ∀ (d k i : Nat) (left : Int), i + d = l.length → d < k → 0 ≤ left → left ≤ 1048576 → F k l left i = some (Sum.inl (-1, ())) ∨ ∃ n, n ≤ left ∧ 0 ≤ n ∧ (∀ j, i ≤ j → (hj : j < l.length) → P l[j]) ∧ F k l left i = some (Sum.inr (n, ())) := by
    intro d
    induction d with
    | zero =>
      intro k i left hi hk h0 h1
      obtain ⟨k, rfl⟩ : ∃ q, k = q + 1 := ⟨k - 1, by omega⟩
      have : i = l.length := by omega
      subst this
      exact .inr ⟨left, by omega, h0, fun j h1 h2 => by omega, hE k left⟩
    | succ d ih =>
      intro k i left hi hk h0 h1
      obtain ⟨k, rfl⟩ : ∃ q, k = q + 1 := ⟨k - 1, by omega⟩
      obtain ⟨n, n1, n2, hP, e⟩ := hF k i left (by omega) h0 h1
      rw [e]
      by_cases c : n < 0
      · rw [decp c]; exact .inl rfl
      · rw [decn c, cond_false]
        rcases ih k (i + 1) n (by omega) (by omega) (by omega) (by omega) with q | ⟨m, q1, q2, q3, q4⟩
        · exact .inl q
        · refine .inr ⟨m, by omega, q2, fun j h1 h2 => ?_, q4⟩
          by_cases h : j = i
          · subst h; exact hP (by omega)
          · exact q3 j (by omega) h2
  rcases key l.length K0 0 left (by omega) (by rw [K0_eq]; omega) h0 h1 with q | ⟨m, q1, q2, q3, q4⟩
  · exact .inl q
  · exact .inr ⟨m, q1, q2, fun i hi => q3 i (by omega) hi, q4⟩
/-- A loop that holds each element against itself. -/
theorem eq_loop {α : Type} (F : Nat → List α → List α → Nat → Option ((Bool × Unit) ⊕ Unit)) (l : List α) (hl : l.length ≤ 9223372036854775807)
    (hF : ∀ (k i : Nat) (hi : i < l.length), F (k + 1) l l i = F k l l (i + 1))
    (hE : ∀ (k : Nat), F (k + 1) l l l.length = some (Sum.inr ())) : F K0 l l 0 = some (Sum.inr ()) := by
  have key : ∀ (d k i : Nat), i + d = l.length → d < k → F k l l i = some (Sum.inr ()) := by
    intro d
    induction d with
    | zero =>
      intro k i hi hk
      obtain ⟨k, rfl⟩ : ∃ q, k = q + 1 := ⟨k - 1, by omega⟩
      have : i = l.length := by omega
      subst this
      exact hE k
    | succ d ih =>
      intro k i hi hk
      obtain ⟨k, rfl⟩ : ∃ q, k = q + 1 := ⟨k - 1, by omega⟩
      rw [hF k i (by omega)]
      exact ih k (i + 1) (by omega) (by omega)
  exact key l.length K0 0 (by omega) (by rw [K0_eq]; omega)
/-- A loop F that marks each element with running numbers, and a loop G that tells whether the marks stand. -/
theorem mark_loop {α : Type} (F : Nat → List α → Int → Nat → Option (Int × List α × Unit)) (c : Int) (E : Int → α → α) (hc : 0 ≤ c)
    (hF : ∀ (k : Nat) (xs : List α) (m : Int) (i : Nat) (hi : i < xs.length), 0 ≤ m → m ≤ 4000000000000000000 → xs.length ≤ 9223372036854775807 → F (k + 1) xs m i = F k (xs.set i (E m xs[i])) (m + c) (i + 1))
    (hFe : ∀ (k : Nat) (xs : List α) (m : Int), F (k + 1) xs m xs.length = some (m, xs, ())) (xs : List α) (m : Int) (hl : xs.length ≤ 9223372036854775807) (hm : 0 ≤ m) (hb : m + c * (xs.length : Int) ≤ 4000000000000000000) :
      ∃ ys, F K0 xs m 0 = some (m + c * (xs.length : Int), ys, ()) ∧ ys.length = xs.length ∧ ∀ i, (h : i < ys.length) → ∃ a, ys[i] = E (m + c * (i : Int)) a := by
  have key : ∀ (d k i : Nat) (xs : List α) (m : Int), i + d = xs.length → d < k → 0 ≤ m → m + c * d ≤ 4000000000000000000 → xs.length ≤ 9223372036854775807 →
      ∃ ys, F k xs m i = some (m + c * d, ys, ()) ∧ ys.length = xs.length ∧ (∀ j, j < i → ys[j]? = xs[j]?) ∧ ∀ j, i ≤ j → (h : j < ys.length) → ∃ a, ys[j] = E (m + c * ((j : Int) - i)) a := by
    intro d
    induction d with
    | zero =>
      intro k i xs m hi hk hm hb hl
      obtain ⟨k, rfl⟩ : ∃ q, k = q + 1 := ⟨k - 1, by omega⟩
      have : i = xs.length := by omega
      subst this
      exact ⟨xs, by rw [hFe]; simp, rfl, fun _ _ => rfl, fun j h1 h2 => by omega⟩
    | succ d ih =>
      intro k i xs m hi hk hm hb hl
      obtain ⟨k, rfl⟩ : ∃ q, k = q + 1 := ⟨k - 1, by omega⟩
      have hlt : i < xs.length := by omega
      have hcd : 0 ≤ c * (d : Int) := Int.mul_nonneg hc (by omega)
      have hs : c * ((d + 1 : Nat) : Int) = c * (d : Int) + c := by rw [Int.natCast_succ, Int.mul_add, Int.mul_one]
      rw [hs] at hb ⊢
      obtain ⟨ys, e1, e2, e3, e4⟩ := ih k (i + 1) (xs.set i (E m xs[i])) (m + c) (by simp; omega) (by omega) (by omega) (by omega) (by simpa using hl)
      have hy : i < ys.length := by rw [e2]; simpa using hlt
      have hyi : ys[i] = E m xs[i] := by
        have h := e3 i (by omega)
        rw [List.getElem?_eq_getElem hy, List.getElem?_set_self hlt] at h
        exact Option.some.inj h
      refine ⟨ys, ?_, by rw [e2]; simp, ?_, ?_⟩
      · rw [hF k xs m i hlt hm (by omega) hl, e1]
        congr 2
        omega
      · intro j hj
        rw [e3 j (by omega), List.getElem?_set_ne (by omega)]
      · intro j hj h
        by_cases h' : j = i
        · subst h'
          exact ⟨xs[j], by rw [hyi]; congr 1; rw [Int.sub_self, Int.mul_zero, Int.add_zero]⟩
        · obtain ⟨a, ha⟩ := e4 j (by omega) h
          refine ⟨a, by rw [ha]; congr 1; rw [Int.add_assoc]; congr 1; rw [show (j : Int) - (i : Int) = 1 + ((j : Int) - ((i + 1 : Nat) : Int)) by omega, Int.mul_add, Int.mul_one]⟩
  obtain ⟨ys, e1, e2, _, e4⟩ := key xs.length K0 0 xs m (by omega) (by rw [K0_eq]; omega) hm hb hl
  exact ⟨ys, e1, e2, fun i h => by obtain ⟨a, ha⟩ := e4 i (by omega) h; exact ⟨a, by simpa using ha⟩⟩
/-- A loop that tells whether the marks stand. -/
theorem held_loop {α : Type} (G : Nat → List α → Int → Nat → Option ((Int × Unit) ⊕ (Int × Unit))) (c : Int) (E : Int → α → α) (hc : 0 ≤ c)
    (hG : ∀ (k : Nat) (xs : List α) (m : Int) (i : Nat) (hi : i < xs.length) (a : α), 0 ≤ m → m ≤ 4000000000000000000 → xs.length ≤ 9223372036854775807 → xs[i] = E m a → G (k + 1) xs m i = G k xs (m + c) (i + 1))
    (hGe : ∀ (k : Nat) (xs : List α) (m : Int), G (k + 1) xs m xs.length = some (Sum.inr (m, ()))) (ys : List α) (m : Int) (hl : ys.length ≤ 9223372036854775807) (hm : 0 ≤ m) (hb : m + c * (ys.length : Int) ≤ 4000000000000000000)
    (hE : ∀ i, (h : i < ys.length) → ∃ a, ys[i] = E (m + c * (i : Int)) a) : G K0 ys m 0 = some (Sum.inr (m + c * (ys.length : Int), ())) := by
  have key : ∀ (d k i : Nat), i + d = ys.length → d < k → G k ys (m + c * (i : Int)) i = some (Sum.inr (m + c * (ys.length : Int), ())) := by
    intro d
    induction d with
    | zero =>
      intro k i hi hk
      obtain ⟨k, rfl⟩ : ∃ q, k = q + 1 := ⟨k - 1, by omega⟩
      have : i = ys.length := by omega
      subst this
      exact hGe k ys _
    | succ d ih =>
      intro k i hi hk
      obtain ⟨k, rfl⟩ : ∃ q, k = q + 1 := ⟨k - 1, by omega⟩
      obtain ⟨a, ha⟩ := hE i (by omega)
      have hcd : 0 ≤ c * (i : Int) := Int.mul_nonneg hc (by omega)
      have hle : c * (i : Int) ≤ c * (ys.length : Int) := Int.mul_le_mul_of_nonneg_left (by omega) hc
      rw [hG k ys _ i (by omega) a (by omega) (by omega) hl ha]
      have e : m + c * (i : Int) + c = m + c * ((i + 1 : Nat) : Int) := by
        rw [show ((i + 1 : Nat) : Int) = (i : Int) + 1 by omega, Int.mul_add, Int.mul_one]; omega
      rw [e]
      exact ih k (i + 1) (by omega) (by omega)
  have := key ys.length K0 0 (by omega) (by rw [K0_eq]; omega)
  simpa using this
theorem laws_szSerial_ok (p0 : ByteArray) (p1 : ByteArray) (p2 : Int) (p3 : Bool) (left : Int) (h0 : 0 ≤ left) (h1 : left ≤ 1048576) (g0 : good (.str) p0) (g1 : good (.str) p1) : ∃ n, laws_szSerial p0 p1 p2 p3 left = some (n, ()) ∧ n ≤ left ∧ -1 ≤ n ∧ (0 ≤ n → small (.pair (.str) (.pair (.str) (.pair (.int .i64) (.bool)))) (p0, p1, p2, p3)) := by
  unfold laws_szSerial
  have w1 : wrap64 (left - (p0.size : Int)) = left - (p0.size : Int) := wrap_id (by have := maxLen_lt g0; omega) (by omega)
  simp only [w1]
  clear w1
  by_cases c1 : (left - (p0.size : Int)) < 0
  · refine ⟨-1, ?_, by omega, by omega, fun h => by omega⟩; simp only [decp c1, cond_true]
  simp only [decn c1, cond_false]
  have w2 : wrap64 ((left - (p0.size : Int)) - (p1.size : Int)) = (left - (p0.size : Int)) - (p1.size : Int) := wrap_id (by have := maxLen_lt g1; omega) (by omega)
  simp only [w2]
  clear w2
  by_cases c2 : ((left - (p0.size : Int)) - (p1.size : Int)) < 0
  · refine ⟨-1, ?_, by omega, by omega, fun h => by omega⟩; simp only [decp c2, cond_true]
  simp only [decn c2, cond_false]
  exact ⟨((left - (p0.size : Int)) - (p1.size : Int)), rfl, by omega, by omega, fun _ => ⟨(by show p0.size ≤ 1048576; omega), (by show p1.size ≤ 1048576; omega), trivial, trivial⟩⟩
theorem laws_szSerialOp_ok (p0 : Int) (p1 : Int) (p2 : Int) (p3 : ByteArray) (left : Int) (h0 : 0 ≤ left) (h1 : left ≤ 1048576) (g3 : good (.str) p3) : ∃ n, laws_szSerialOp p0 p1 p2 p3 left = some (n, ()) ∧ n ≤ left ∧ -1 ≤ n ∧ (0 ≤ n → small R1 (p0, p1, p2, p3)) := by
  unfold laws_szSerialOp
  have w1 : wrap64 (left - (p3.size : Int)) = left - (p3.size : Int) := wrap_id (by have := maxLen_lt g3; omega) (by omega)
  simp only [w1]
  clear w1
  by_cases c1 : (left - (p3.size : Int)) < 0
  · refine ⟨-1, ?_, by omega, by omega, fun h => by omega⟩; simp only [decp c1, cond_true]
  simp only [decn c1, cond_false]
  exact ⟨(left - (p3.size : Int)), rfl, by omega, by omega, fun _ => ⟨trivial, trivial, trivial, (by show p3.size ≤ 1048576; omega)⟩⟩
theorem laws_szSerialOpS_ok (l : List (Int × Int × Int × ByteArray)) (left : Int) (h0 : 0 ≤ left) (h1 : left ≤ 1048576) (g : good (.slice R1) l) : ∃ n, laws_szSerialOpS l left = some (n, ()) ∧ n ≤ left ∧ -1 ≤ n ∧ (0 ≤ n → small (.slice R1) l) := by
  unfold laws_szSerialOpS
  have hm := maxLen_lt g.1
  have w : wrap64 (left - (l.length : Int)) = left - (l.length : Int) := wrap_id (by omega) (by omega)
  simp only [w]
  clear w
  by_cases c : left - (l.length : Int) < 0
  · refine ⟨-1, ?_, by omega, by omega, fun h => by omega⟩; simp only [decp c, cond_true]
  simp only [decn c, cond_false]
  rcases sz_loop (fun k l left i => laws_szSerialOpS_l5 k l left (i : Int)) (small R1) l hm (by
    intro k i left hi a0 a1
    have gl := good_at g i hi
    have d1 : decide ((i : Int) < (l.length : Int)) = true := decp (by omega)
    have d2 : decide ((0 : Int) ≤ (i : Int)) = true := decp (by omega)
    show ∃ n, _ ∧ _ ∧ _ ∧ laws_szSerialOpS_l5_step (laws_szSerialOpS_l5 k) l left (i : Int) = _
    unfold laws_szSerialOpS_l5_step
    obtain ⟨n, e, e1, e2, e3⟩ := laws_szSerialOp_ok l[i].1 l[i].2.1 l[i].2.2.1 l[i].2.2.2 left a0 a1 gl.2.2.2
    refine ⟨n, e1, e2, e3, ?_⟩
    simp only [d1, d2, rd_at R1 l i hi, e, Option.bind_some, wrap_i i l.length hi hm, Bool.and_true, cond_true]
    try rfl) (by
    intro k left
    show laws_szSerialOpS_l5_step (laws_szSerialOpS_l5 k) l left (l.length : Int) = _
    unfold laws_szSerialOpS_l5_step
    have d1 : decide ((l.length : Int) < (l.length : Int)) = false := decn (by omega)
    simp only [d1, cond_false]
    try rfl) (left - (l.length : Int)) (by omega) (by omega) with q | ⟨n, q1, q2, q3, q4⟩
  · have q' : laws_szSerialOpS_l5 K0 l (left - (l.length : Int)) 0 = some (Sum.inl (-1, ())) := q
    simp only [q', Option.bind_some]
    exact ⟨-1, rfl, by omega, by omega, fun h => by omega⟩
  · have q' : laws_szSerialOpS_l5 K0 l (left - (l.length : Int)) 0 = some (Sum.inr (n, ())) := q4
    simp only [q', Option.bind_some]
    exact ⟨n, rfl, by omega, by omega, fun _ => small_row (by omega) q3⟩
theorem laws_toSerial_ok (p0 : ByteArray) (p1 : ByteArray) (p2 : Int) (p3 : Bool) : laws_toSerial p0 p1 p2 p3 = some (p0, p1, p2, p3, ()) := by
  unfold laws_toSerial
  first | rfl | simp only [Option.bind_some]
theorem laws_toSerialOp_ok (p0 : Int) (p1 : Int) (p2 : Int) (p3 : ByteArray) : laws_toSerialOp p0 p1 p2 p3 = some (p0, p1, p2, p3, ()) := by
  unfold laws_toSerialOp
  first | rfl | simp only [Option.bind_some]
theorem laws_toSerialOpS_ok (l : List (Int × Int × Int × ByteArray)) (h : lens (.slice R1) l) : laws_toSerialOpS l = some (l, ()) := by
  unfold laws_toSerialOpS
  have hl0 := h.1
  rw [decp (show 0 ≤ (l.length : Int) by omega), decp (show (l.length : Int) ≤ (l.length : Int) by omega), roomy_ok (by omega)]
  have q := to_loop (fun k l i ys => laws_toSerialOpS_l3 k l (i : Int) ys) l (by omega) (by
    intro k i ys hi hy
    show laws_toSerialOpS_l3_step (laws_toSerialOpS_l3 k) l (i : Int) ys = _
    unfold laws_toSerialOpS_l3_step
    have hl := lens_at h i hi
    have d1 : decide ((i : Int) < (l.length : Int)) = true := decp (by omega)
    have d2 : decide ((0 : Int) ≤ (i : Int)) = true := decp (by omega)
    have d3 : decide ((i : Int) < (ys.length : Int)) = true := decp (by omega)
    have e := laws_toSerialOp_ok l[i].1 l[i].2.1 l[i].2.2.1 l[i].2.2.2
    simp only [d1, d2, d3, rd_at R1 l i hi, e, Option.bind_some, wrap_i i l.length hi (by omega), Int.toNat_natCast, Bool.and_true, cond_true]
    try rfl) (by
    intro k ys
    show laws_toSerialOpS_l3_step (laws_toSerialOpS_l3 k) l (l.length : Int) ys = _
    unfold laws_toSerialOpS_l3_step
    have d1 : decide ((l.length : Int) < (l.length : Int)) = false := decn (by omega)
    simp only [d1, cond_false]
    try rfl) (List.replicate ((l.length : Int).toNat) (Ty.dflt R1)) (by simp)
  have q' : laws_toSerialOpS_l3 K0 l 0 (List.replicate ((l.length : Int).toNat) (Ty.dflt R1)) = some (l, ()) := q
  simp only [q', Option.bind_some, Bool.and_true, cond_true]
theorem laws_eqSerial_ok (p0 : ByteArray) (p1 : ByteArray) (p2 : Int) (p3 : Bool) : laws_eqSerial p0 p1 p2 p3 p0 p1 p2 p3 = some (true, ()) := by
  unfold laws_eqSerial
  simp [seq_self]
theorem laws_eqSerialOut_ok (p0 : Int) (p1 : Int) (p2 : Bool) : laws_eqSerialOut p0 p1 p2 p0 p1 p2 = some (true, ()) := by
  unfold laws_eqSerialOut
  simp [seq_self]
theorem laws_eqSerialOutS_ok (l : List (Int × Int × Bool)) (h : lens (.slice R2) l) : laws_eqSerialOutS l l = some (true, ()) := by
  unfold laws_eqSerialOutS
  have hl0 := h.1
  have q := eq_loop (fun k l l2 i => laws_eqSerialOutS_l4 k l l2 (i : Int)) l (by omega) (by
    intro k i hi
    show laws_eqSerialOutS_l4_step (laws_eqSerialOutS_l4 k) l l (i : Int) = _
    unfold laws_eqSerialOutS_l4_step
    have hl := lens_at h i hi
    have d1 : decide ((i : Int) < (l.length : Int)) = true := decp (by omega)
    have d2 : decide ((0 : Int) ≤ (i : Int)) = true := decp (by omega)
    have e := laws_eqSerialOut_ok l[i].1 l[i].2.1 l[i].2.2
    simp only [d1, d2, rd_at R2 l i hi, e, Option.bind_some, wrap_i i l.length hi (by omega), Bool.and_true, cond_true, Bool.not_true, cond_false, bne_self_eq_false, seq_ne_self, beq_self_eq_true]
    try rfl) (by
    intro k
    show laws_eqSerialOutS_l4_step (laws_eqSerialOutS_l4 k) l l (l.length : Int) = _
    unfold laws_eqSerialOutS_l4_step
    have d1 : decide ((l.length : Int) < (l.length : Int)) = false := decn (by omega)
    simp only [d1, cond_false]
    try rfl)
  have q' : laws_eqSerialOutS_l4 K0 l l 0 = some (Sum.inr ()) := q
  simp only [bne_self_eq_false, cond_false, q', Option.bind_some]
theorem laws_eqSerialRun_ok (p0 : Int) (p1 : ByteArray) (p2 : ByteArray) (p3 : Int) (p4 : Bool) (p5 : List (Int × Int × Bool)) (h5 : lens (.slice (.pair (.int .i64) (.pair (.int .i64) (.bool)))) p5) : laws_eqSerialRun p0 p1 p2 p3 p4 p5 p0 p1 p2 p3 p4 p5 = some (true, ()) := by
  unfold laws_eqSerialRun
  simp [laws_eqSerial_ok, laws_eqSerialOutS_ok, h5, seq_self]
theorem laws_eqSerialOp_ok (p0 : Int) (p1 : Int) (p2 : Int) (p3 : ByteArray) : laws_eqSerialOp p0 p1 p2 p3 p0 p1 p2 p3 = some (true, ()) := by
  unfold laws_eqSerialOp
  simp [seq_self]
theorem laws_eqSerialOpS_ok (l : List (Int × Int × Int × ByteArray)) (h : lens (.slice R1) l) : laws_eqSerialOpS l l = some (true, ()) := by
  unfold laws_eqSerialOpS
  have hl0 := h.1
  have q := eq_loop (fun k l l2 i => laws_eqSerialOpS_l4 k l l2 (i : Int)) l (by omega) (by
    intro k i hi
    show laws_eqSerialOpS_l4_step (laws_eqSerialOpS_l4 k) l l (i : Int) = _
    unfold laws_eqSerialOpS_l4_step
    have hl := lens_at h i hi
    have d1 : decide ((i : Int) < (l.length : Int)) = true := decp (by omega)
    have d2 : decide ((0 : Int) ≤ (i : Int)) = true := decp (by omega)
    have e := laws_eqSerialOp_ok l[i].1 l[i].2.1 l[i].2.2.1 l[i].2.2.2
    simp only [d1, d2, rd_at R1 l i hi, e, Option.bind_some, wrap_i i l.length hi (by omega), Bool.and_true, cond_true, Bool.not_true, cond_false, bne_self_eq_false, seq_ne_self, beq_self_eq_true]
    try rfl) (by
    intro k
    show laws_eqSerialOpS_l4_step (laws_eqSerialOpS_l4 k) l l (l.length : Int) = _
    unfold laws_eqSerialOpS_l4_step
    have d1 : decide ((l.length : Int) < (l.length : Int)) = false := decn (by omega)
    simp only [d1, cond_false]
    try rfl)
  have q' : laws_eqSerialOpS_l4 K0 l l 0 = some (Sum.inr ()) := q
  simp only [bne_self_eq_false, cond_false, q', Option.bind_some]
/-- What a mark is as a text. -/
noncomputable def mt (k : Int) : ByteArray := ((laws_markText k).getD (ByteArray.empty, ())).1
theorem laws_markText_l4_some : ∀ (d k : Nat) (n : Int) (s : ByteArray), n < 10 ^ d → n ≤ 9223372036854775807 → d < k → s.size + d ≤ 100 → ∃ r, laws_markText_l4 k n s = some (r, ()) ∧ r.size ≤ 100 := by
  intro d
  induction d with
  | zero =>
    intro k n s hn hn2 hk hs
    obtain ⟨k, rfl⟩ : ∃ q, k = q + 1 := ⟨k - 1, by omega⟩
    show ∃ r, laws_markText_l4_step (laws_markText_l4 k) n s = some (r, ()) ∧ r.size ≤ 100
    unfold laws_markText_l4_step
    rw [decn (show ¬ n > 0 by omega)]
    exact ⟨s, rfl, by omega⟩
  | succ d ih =>
    intro k n s hn hn2 hk hs
    obtain ⟨k, rfl⟩ : ∃ q, k = q + 1 := ⟨k - 1, by omega⟩
    show ∃ r, laws_markText_l4_step (laws_markText_l4 k) n s = some (r, ()) ∧ r.size ≤ 100
    unfold laws_markText_l4_step
    by_cases h : n > 0
    · rw [decp h]
      simp only [cond_true]
      have hj : joins (b2s [IntKind.u8.wrap (wrap64 (48 + Int.tmod n 10))]) s = true := by
        unfold joins
        rw [S0_eq, b2s_one]
        simp
        omega
      rw [hj]
      simp only [show ((10 : Int) == 0) = false from rfl, Bool.not_false, Bool.and_true, cond_true]
      have e : wrap64 (Int.tdiv n 10) = n / 10 := by
        rw [Int.tdiv_eq_ediv_of_nonneg (by omega)]
        exact wrap_id (by omega) (by omega)
      rw [e]
      refine ih k (n / 10) _ ?_ (by clear e; omega) (by omega) ?_
      · rw [Int.pow_succ] at hn
        clear e
        omega
      · rw [bsize_app, b2s_one]; omega
    · rw [decn h]
      exact ⟨s, rfl, by omega⟩
theorem markText_ok (m : Int) (h : m ≤ 4000000000001000000) : laws_markText m = some (mt m, ()) := by
  have : ∃ r, laws_markText m = some (r, ()) := by
    unfold laws_markText
    by_cases c : m ≤ 0
    · rw [decp c]; exact ⟨_, rfl⟩
    · rw [decn c]
      obtain ⟨r, hr, hs⟩ := laws_markText_l4_some 19 K0 m (⟨#[]⟩ : ByteArray) (by have : (10 : Int) ^ 19 = 10000000000000000000 := rfl; omega) (by omega) (by rw [K0_eq]; omega) (by decide)
      simp only [cond_false, hr, Option.bind_some]
      have hj : joins (⟨#[109]⟩ : ByteArray) r = true := by
        unfold joins
        rw [S0_eq]
        have : (⟨#[109]⟩ : ByteArray).size = 1 := rfl
        simp [this]
        omega
      rw [hj]
      exact ⟨_, rfl⟩
  obtain ⟨r, hr⟩ := this
  unfold mt
  rw [hr]
  rfl
noncomputable def markR1 (m : Int) (_ : Int × Int × Int × ByteArray) : Int × Int × Int × ByteArray := (m, m + 1, m + 2, mt (m + 3))
theorem laws_markSerialOpS_v2_ok (xs : List (Int × Int × Int × ByteArray)) (m : Int) (h : lens (.slice R1) xs) (h0 : 0 ≤ m) (h1 : m ≤ 1000000000000000) : ∃ ys, laws_markSerialOpS_v2 xs m = some (m + 4 * (xs.length : Int), ys, ()) ∧ ys.length = xs.length ∧ ∀ i, (h : i < ys.length) → ∃ a, ys[i] = markR1 (m + 4 * (i : Int)) a := by
  have hl0 := h.1
  have hl1 : (4 : Int) * (xs.length : Int) ≤ 1000000000000 := by omega
  obtain ⟨ys, e1, e2, e3⟩ := mark_loop (fun k xs m i => laws_markSerialOpS_v2_l2 k m (i : Int) xs) 4 markR1 (by decide) (by
    intro k xs m i hi h0 hm hl
    show laws_markSerialOpS_v2_l2_step (laws_markSerialOpS_v2_l2 k) m (i : Int) xs = _
    unfold laws_markSerialOpS_v2_l2_step
    have t3 : laws_markText (m + 3) = some (mt (m + 3), ()) := markText_ok _ (by omega)
    have w0 : wrap64 (m + 1) = m + 1 := by have := wrap_inc m 0 h0 hm (by decide) (by decide); simpa using this
    have w1 : wrap64 (m + 1 + 1) = m + 2 := wrap_inc m 1 h0 hm (by decide) (by decide)
    have w2 : wrap64 (m + 2 + 1) = m + 3 := wrap_inc m 2 h0 hm (by decide) (by decide)
    have w3 : wrap64 (m + 3 + 1) = m + 4 := wrap_inc m 3 h0 hm (by decide) (by decide)
    have d1 : decide ((i : Int) < (xs.length : Int)) = true := decp (by omega)
    have d2 : decide ((0 : Int) ≤ (i : Int)) = true := decp (by omega)
    have r0 := fun (l : List (Int × Int × Int × ByteArray)) (hl : l.length = xs.length) (v : (Int × Int × Int × ByteArray)) => rd_set R1 l i v (by rw [hl]; exact hi)
    simp only [d1, d2, w0, w1, w2, w3, t3, rd_at R1 xs i hi, Int.toNat_natCast, List.length_set, Option.bind_some, wrap_i i xs.length hi hl, Bool.and_true, cond_true, r0, List.set_set, show ((3 : Int) == 0) = false from rfl, Bool.not_false]
    try rfl) (by
    intro k xs m
    show laws_markSerialOpS_v2_l2_step (laws_markSerialOpS_v2_l2 k) m (xs.length : Int) xs = _
    unfold laws_markSerialOpS_v2_l2_step
    have d1 : decide ((xs.length : Int) < (xs.length : Int)) = false := decn (by omega)
    simp only [d1, cond_false]
    try rfl) xs m (by omega) h0 (by omega)
  have e1' : laws_markSerialOpS_v2_l2 K0 m 0 xs = some (m + 4 * (xs.length : Int), ys, ()) := e1
  refine ⟨ys, ?_, e2, e3⟩
  unfold laws_markSerialOpS_v2
  rw [e1']
  rfl
def markR2 (m : Int) (_ : Int × Int × Bool) : Int × Int × Bool := (m, m + 1, (Int.tmod (m + 2) 3 == 0))
theorem laws_markSerialOutS_v2_ok (xs : List (Int × Int × Bool)) (m : Int) (h : lens (.slice R2) xs) (h0 : 0 ≤ m) (h1 : m ≤ 1000000000000000) : ∃ ys, laws_markSerialOutS_v2 xs m = some (m + 3 * (xs.length : Int), ys, ()) ∧ ys.length = xs.length ∧ ∀ i, (h : i < ys.length) → ∃ a, ys[i] = markR2 (m + 3 * (i : Int)) a := by
  have hl0 := h.1
  have hl1 : (3 : Int) * (xs.length : Int) ≤ 1000000000000 := by omega
  obtain ⟨ys, e1, e2, e3⟩ := mark_loop (fun k xs m i => laws_markSerialOutS_v2_l2 k m (i : Int) xs) 3 markR2 (by decide) (by
    intro k xs m i hi h0 hm hl
    show laws_markSerialOutS_v2_l2_step (laws_markSerialOutS_v2_l2 k) m (i : Int) xs = _
    unfold laws_markSerialOutS_v2_l2_step
    have w0 : wrap64 (m + 1) = m + 1 := by have := wrap_inc m 0 h0 hm (by decide) (by decide); simpa using this
    have w1 : wrap64 (m + 1 + 1) = m + 2 := wrap_inc m 1 h0 hm (by decide) (by decide)
    have w2 : wrap64 (m + 2 + 1) = m + 3 := wrap_inc m 2 h0 hm (by decide) (by decide)
    have d1 : decide ((i : Int) < (xs.length : Int)) = true := decp (by omega)
    have d2 : decide ((0 : Int) ≤ (i : Int)) = true := decp (by omega)
    have r0 := fun (l : List (Int × Int × Bool)) (hl : l.length = xs.length) (v : (Int × Int × Bool)) => rd_set R2 l i v (by rw [hl]; exact hi)
    simp only [d1, d2, w0, w1, w2, rd_at R2 xs i hi, Int.toNat_natCast, List.length_set, Option.bind_some, wrap_i i xs.length hi hl, Bool.and_true, cond_true, r0, List.set_set, show ((3 : Int) == 0) = false from rfl, Bool.not_false]
    try rfl) (by
    intro k xs m
    show laws_markSerialOutS_v2_l2_step (laws_markSerialOutS_v2_l2 k) m (xs.length : Int) xs = _
    unfold laws_markSerialOutS_v2_l2_step
    have d1 : decide ((xs.length : Int) < (xs.length : Int)) = false := decn (by omega)
    simp only [d1, cond_false]
    try rfl) xs m (by omega) h0 (by omega)
  have e1' : laws_markSerialOutS_v2_l2 K0 m 0 xs = some (m + 3 * (xs.length : Int), ys, ()) := e1
  refine ⟨ys, ?_, e2, e3⟩
  unfold laws_markSerialOutS_v2
  rw [e1']
  rfl
theorem laws_heldSerialOutS_ok (xs : List (Int × Int × Bool)) (m : Int) (hl0 : xs.length ≤ 1048576) (h0 : 0 ≤ m) (h1 : m ≤ 1000000000000000) (hE : ∀ i, (h : i < xs.length) → ∃ a, xs[i] = markR2 (m + 3 * (i : Int)) a) : laws_heldSerialOutS xs m = some (m + 3 * (xs.length : Int), ()) := by
  have hl1 : (3 : Int) * (xs.length : Int) ≤ 1000000000000 := by omega
  have e1 := held_loop (fun k xs m i => laws_heldSerialOutS_l2 k xs m (i : Int)) 3 markR2 (by decide) (by
    intro k xs m i hi a h0 hm hl hx
    show laws_heldSerialOutS_l2_step (laws_heldSerialOutS_l2 k) xs m (i : Int) = _
    unfold laws_heldSerialOutS_l2_step
    have w0 : wrap64 (m + 1) = m + 1 := by have := wrap_inc m 0 h0 hm (by decide) (by decide); simpa using this
    have w1 : wrap64 (m + 1 + 1) = m + 2 := wrap_inc m 1 h0 hm (by decide) (by decide)
    have w2 : wrap64 (m + 2 + 1) = m + 3 := wrap_inc m 2 h0 hm (by decide) (by decide)
    have d1 : decide ((i : Int) < (xs.length : Int)) = true := decp (by omega)
    have d2 : decide ((0 : Int) ≤ (i : Int)) = true := decp (by omega)
    simp only [d1, d2, w0, w1, w2, rd_at R2 xs i hi, hx, markR2, Option.bind_some, wrap_i i xs.length hi hl, Bool.and_true, cond_true, cond_false, bne_self_eq_false, seq_ne_self, beq_self_eq_true, Bool.not_true, show ((3 : Int) == 0) = false from rfl, Bool.not_false]
    try rfl) (by
    intro k xs m
    show laws_heldSerialOutS_l2_step (laws_heldSerialOutS_l2 k) xs m (xs.length : Int) = _
    unfold laws_heldSerialOutS_l2_step
    have d1 : decide ((xs.length : Int) < (xs.length : Int)) = false := decn (by omega)
    simp only [d1, cond_false]
    try rfl) xs m (by omega) h0 (by omega) hE
  have e1' : laws_heldSerialOutS_l2 K0 xs m 0 = some (Sum.inr (m + 3 * (xs.length : Int), ())) := e1
  unfold laws_heldSerialOutS
  rw [e1']
  rfl
theorem bits_mask (k : Nat) (hk : k ≤ 62) (a : Int) : bits .and .i64 a (((2 : Nat) ^ k - 1 : Nat) : Int) = a % ((2 : Nat) ^ k : Nat) := by
  have hp : (2 : Nat) ^ k ≤ 2 ^ 62 := Nat.pow_le_pow_right (by decide) hk
  have h62 : (2 : Nat) ^ 62 = 4611686018427387904 := rfl
  have hpos : 0 < (2 : Nat) ^ k := Nat.pow_pos (by decide)
  have e1 : (BitVec.ofInt 64 a &&& BitVec.ofInt 64 (((2 : Nat) ^ k - 1 : Nat) : Int)).toNat = (a % ((2 : Nat) ^ k : Nat)).toNat := by
    rw [BitVec.toNat_and, BitVec.toNat_ofInt, BitVec.toNat_ofInt]
    have e2 : ((((2 : Nat) ^ k - 1 : Nat) : Int) % ((2 ^ 64 : Nat) : Int)).toNat = 2 ^ k - 1 := by
      rw [Int.emod_eq_of_lt (by omega) (by omega)]
      simp
    rw [e2, Nat.and_two_pow_sub_one_eq_mod]
    have hdvd : ((2 : Nat) ^ k) ∣ 2 ^ 64 := Nat.pow_dvd_pow 2 (by omega)
    have e3 : a % ((2 : Nat) ^ k : Nat) = (a % ((2 ^ 64 : Nat) : Int)) % ((2 : Nat) ^ k : Nat) := (Int.emod_emod_of_dvd a (Int.natCast_dvd_natCast.2 hdvd)).symm
    rw [e3]
    have hnn : 0 ≤ a % ((2 ^ 64 : Nat) : Int) := Int.emod_nonneg _ (by decide)
    obtain ⟨n, hn⟩ := Int.eq_ofNat_of_zero_le hnn
    rw [hn]
    rw [← Int.natCast_emod, Int.toNat_natCast, Int.toNat_natCast]
  show IntKind.i64.wrap (BitVec.ofInt 64 a &&& BitVec.ofInt 64 (((2 : Nat) ^ k - 1 : Nat) : Int)).toNat = _
  rw [e1, IntKind.wrap_i64]
  have h1 : 0 ≤ a % ((2 : Nat) ^ k : Nat) := Int.emod_nonneg _ (by omega)
  have h2 : a % ((2 : Nat) ^ k : Nat) < ((2 : Nat) ^ k : Nat) := Int.emod_lt_of_pos _ (by omega)
  rw [Int.toNat_of_nonneg h1]
  omega
theorem seq_empty (s : ByteArray) : seq s (⟨#[]⟩ : ByteArray) = decide (s.size = 0) := by
  unfold seq
  have e : (⟨#[]⟩ : ByteArray).toList = [] := by rw [ByteArray.toList_eq]
  rw [e, Bool.eq_iff_iff]
  simp only [beq_iff_eq, decide_eq_true_eq]
  have h : s.toList.length = s.size := by rw [ByteArray.toList_eq]; simp
  constructor
  · intro h0; rw [h0] at h; exact h.symm
  · intro h0; rw [h0] at h; exact List.eq_nil_of_length_eq_zero h
theorem extract_all (s : ByteArray) (n : Nat) (h : s.size ≤ n) : s.extract 0 n = s := by
  rw [show s.extract 0 n = s.extract 0 s.size from ?_]
  · exact ByteArray.extract_zero_size
  · apply ByteArray.ext
    simp
    omega
theorem joins_ok {a b : ByteArray} (ha : a.size ≤ 1099511627776) (hb : b.size ≤ 1099511627776) : joins a b = true := by
  unfold joins; rw [S0_eq]; simp; omega
theorem bits_and3 (a : Int) : bits .and .i64 a 3 = a % 4 := bits_mask 2 (by decide) a
theorem bits_and1 (a : Int) : bits .and .i64 a 1 = a % 2 := bits_mask 1 (by decide) a
/-- What an op does to a serial line. -/
def serStep (i o : ByteArray) (e : Int) (l : Bool) (kind reg num : Int) (t : ByteArray) : ByteArray × ByteArray × Int × Bool × Int × Int :=
  if kind = 1 then (i ++ t.extract 0 (16 - i.size), o, e, l || decide (16 - i.size < t.size), 0, 0)
  else if ¬ (0 ≤ reg ∧ reg ≤ 3) ∨ (kind ≠ 2 ∧ kind ≠ 3) then (i, o, e, l, 1, 0)
  else if kind = 2 then
    if reg = 0 then (if i.size = 0 then (i, o, e, l, 0, 0) else (i.extract 1 i.size, o, e, l, 0, bt i 0))
    else if reg = 1 then (i, o, e, l, 0, (if i.size = 0 then 0 else 1) + 2 + (if l = true then 4 else 0))
    else if reg = 2 then (i, o, e, l, 0, e) else (i, o, e, l, 0, 0)
  else if reg = 0 then (i, if o.size < 65536 then o ++ b2s [IntKind.u8.wrap num] else o, e, l, 0, 0)
  else if reg = 2 then (i, o, num % 4, l, 0, 0)
  else if reg = 3 then (ByteArray.empty, o, e, false, 0, 0)
  else (i, o, e, l, 0, 0)
theorem spec_ser (i o : ByteArray) (e : Int) (l : Bool) (kind reg num : Int) (t : ByteArray) (hi : i.size ≤ 16) (ho : o.size ≤ 65536) (ht : t.size ≤ 1048576) :
    spec_l11Serial i o e l kind reg num t = some (match serStep i o e l kind reg num t with | (i, o, e, l, c, n) => (i, o, e, l, c, n, ())) := by
  unfold spec_l11Serial serStep
  simp only [Bool.cond_self]
  by_cases k1 : kind = 1
  · subst k1
    have w : wrap64 (16 - (i.size : Int)) = 16 - (i.size : Int) := wrap_id (by omega) (by omega)
    rw [w]
    clear w
    have en : (16 - (i.size : Int)).toNat = 16 - i.size := by omega
    rw [en, joins_ok (by omega) (by simp; omega), joins_ok (by omega) (by omega)]
    by_cases c : 16 - i.size < t.size
    · rw [decp (show (t.size : Int) > 16 - (i.size : Int) by omega), decp (show (0 : Int) ≤ 16 - (i.size : Int) by omega), decp (show 16 - (i.size : Int) ≤ (t.size : Int) by omega)]
      simp [c]
    · rw [decn (show ¬ (t.size : Int) > 16 - (i.size : Int) by omega), extract_all t (16 - i.size) (by omega)]
      simp [c]
  · rw [show (kind == 1) = false from beq_false_of_ne k1, if_neg k1]
    simp only [cond_false]
    by_cases kk : ¬ (0 ≤ reg ∧ reg ≤ 3) ∨ (kind ≠ 2 ∧ kind ≠ 3)
    · rw [if_pos kk]
      have : (bif kind != 2 && kind != 3 then kind != 2 && kind != 3 else bif decide (reg < 0) then decide (reg < 0) else decide (reg > 3)) = true := by
        by_cases q : kind ≠ 2 ∧ kind ≠ 3
        · simp [q.1, q.2]
        · have q' : ¬ (0 ≤ reg ∧ reg ≤ 3) := kk.resolve_right q
          have : (kind != 2 && kind != 3) = false := by
            rw [Bool.eq_false_iff]; simp; omega
          rw [this]
          by_cases r : reg < 0
          · simp [r]
          · simp [r]; omega
      rw [this]
      rfl
    · rw [if_neg kk]
      have r0 : 0 ≤ reg := by omega
      have r3 : reg ≤ 3 := by omega
      have kk : kind = 2 ∨ kind = 3 := by omega
      have : (bif kind != 2 && kind != 3 then kind != 2 && kind != 3 else bif decide (reg < 0) then decide (reg < 0) else decide (reg > 3)) = false := by
        rw [decn (show ¬ reg < 0 by omega), decn (show ¬ reg > 3 by omega)]
        rcases kk with rfl | rfl <;> rfl
      rw [this]
      simp only [cond_false, seq_empty]
      have hreg : reg = 0 ∨ reg = 1 ∨ reg = 2 ∨ reg = 3 := by omega
      rcases kk with rfl | rfl
      · rcases hreg with rfl | rfl | rfl | rfl
        · by_cases hz : i.size = 0
          · rw [decp hz, if_pos rfl, if_pos rfl, if_pos hz]
            rfl
          · rw [decn hz, if_pos rfl, if_pos rfl, if_neg hz]
            have hb := bt_range i 0
            have wb : wrap64 (bt i 0) = bt i 0 := wrap_id (by omega) (by omega)
            rw [wb, decp (show (0 : Int) < (i.size : Int) by omega), decp (show (1 : Int) ≤ (i.size : Int) by omega)]
            rfl
        · unfold spec_l01Bool
          by_cases hz : i.size = 0 <;> cases l <;> simp [hz, wrap64]
        · simp
        · simp
      · unfold spec_l01Mod
        simp only [show ((4 : Int) == 0) = false from rfl, Bool.not_false, cond_true, Option.getD_some, Option.isSome_some]
        rw [mod_cond num 4 (by decide) (by decide), joins_ok (by omega) (by rw [b2s_one]; omega)]
        rcases hreg with rfl | rfl | rfl | rfl
        · by_cases hz : o.size < 65536
          · rw [decp (show (o.size : Int) < 65536 by omega)]; simp [hz]
          · rw [decn (show ¬ (o.size : Int) < 65536 by omega)]; simp [hz]
        · simp
        · simp
        · simp; rfl
theorem impl_ser (i o : ByteArray) (e : Int) (l : Bool) (kind reg num : Int) (t : ByteArray) (hi : i.size ≤ 16) (ho : o.size ≤ 65536) (ht : t.size ≤ 1048576) :
    impl_Serial_ydo_v2 i o e l kind reg num t = some (match serStep i o e l kind reg num t with | (i, o, e, l, c, n) => (c, n, i, o, e, l, ())) := by
  unfold impl_Serial_ydo_v2 serStep
  simp only [Bool.cond_self, yin_eq, Option.getD_some, Option.isSome_some, Bool.or_true, cond_true]
  by_cases k1 : kind = 1
  · subst k1
    have w : wrap64 (16 - (i.size : Int)) = 16 - (i.size : Int) := wrap_id (by omega) (by omega)
    simp only [w]
    clear w
    by_cases c : 16 - i.size < t.size
    · rw [decp (show 16 - (i.size : Int) < (t.size : Int) by omega)]
      have en : (16 - (i.size : Int)).toNat = 16 - i.size := by omega
      simp only [cond_true, en]
      rw [joins_ok (by omega) (by simp; omega), decp (show (0 : Int) ≤ 16 - (i.size : Int) by omega), decp (show 16 - (i.size : Int) ≤ (t.size : Int) by omega), decp (show 16 - (i.size : Int) < (t.size : Int) by omega)]
      simp [c]
    · rw [decn (show ¬ 16 - (i.size : Int) < (t.size : Int) by omega)]
      simp only [cond_false, Int.toNat_natCast, ByteArray.extract_zero_size]
      rw [joins_ok (by omega) (by omega), decp (show (0 : Int) ≤ (t.size : Int) by omega), decp (show (t.size : Int) ≤ (t.size : Int) by omega), decn (show ¬ (t.size : Int) < (t.size : Int) by omega), extract_all t (16 - i.size) (by omega)]
      simp [c]
  · rw [show (kind == 1) = false from beq_false_of_ne k1, if_neg k1, show (kind != 1) = true from bne_iff_ne.2 k1]
    simp only [cond_false, Bool.true_and]
    by_cases kr : 0 ≤ reg ∧ reg ≤ 3
    · rw [decp kr]
      simp only [Bool.not_true, cond_false]
      by_cases k23 : kind = 2 ∨ kind = 3
      · rw [if_neg (by omega)]
        have hreg : reg = 0 ∨ reg = 1 ∨ reg = 2 ∨ reg = 3 := by omega
        simp only [seq_empty, bits_and3]
        rcases k23 with rfl | rfl
        · rcases hreg with rfl | rfl | rfl | rfl
          · by_cases hz : i.size = 0
            · rw [decp hz, if_pos rfl, if_pos rfl, if_pos hz]
              rfl
            · rw [decn hz, if_pos rfl, if_pos rfl, if_neg hz]
              have hb := bt_range i 0
              have wb : wrap64 (bt i 0) = bt i 0 := wrap_id (by omega) (by omega)
              rw [wb, decp (show (0 : Int) < (i.size : Int) by omega), decp (show (1 : Int) ≤ (i.size : Int) by omega)]
              rfl
          · have b1 : bits .or .i64 2 1 = 3 := by decide +kernel
            have b2 : bits .or .i64 3 4 = 7 := by decide +kernel
            have b3 : bits .or .i64 2 4 = 6 := by decide +kernel
            by_cases hz : i.size = 0 <;> cases l <;> simp [hz, b1, b2, b3]
          · simp
          · simp
        · rw [joins_ok (by omega) (by rw [b2s_one]; omega)]
          rcases hreg with rfl | rfl | rfl | rfl
          · by_cases hz : o.size < 65536
            · rw [decp (show (o.size : Int) < 65536 by omega)]; simp [hz]
            · rw [decn (show ¬ (o.size : Int) < 65536 by omega)]; simp [hz]
          · simp
          · simp
          · simp; rfl
      · rw [if_pos (by omega)]
        have h2 : (kind == 2) = false := beq_false_of_ne (by omega)
        have h3 : (kind == 3) = false := beq_false_of_ne (by omega)
        simp [h2, h3]
    · rw [decn kr, if_pos (.inl kr)]
      rfl
def serInv (i o : ByteArray) (e : Int) : Prop := i.size ≤ 16 ∧ o.size ≤ 65536 ∧ 0 ≤ e ∧ e ≤ 3
theorem serStep_inv (i o : ByteArray) (e : Int) (l : Bool) (kind reg num : Int) (t : ByteArray) (h : serInv i o e) :
    serInv (serStep i o e l kind reg num t).1 (serStep i o e l kind reg num t).2.1 (serStep i o e l kind reg num t).2.2.1 := by
  obtain ⟨h1, h2, h3, h4⟩ := h
  unfold serStep serInv
  by_cases k1 : kind = 1
  · rw [if_pos k1]
    refine ⟨?_, h2, h3, h4⟩
    simp only [ByteArray.size_append, ByteArray.size_extract]
    omega
  rw [if_neg k1]
  by_cases k2 : ¬ (0 ≤ reg ∧ reg ≤ 3) ∨ (kind ≠ 2 ∧ kind ≠ 3)
  · rw [if_pos k2]; exact ⟨h1, h2, h3, h4⟩
  rw [if_neg k2]
  by_cases k3 : kind = 2
  · rw [if_pos k3]
    by_cases r0 : reg = 0
    · rw [if_pos r0]
      by_cases hz : i.size = 0
      · rw [if_pos hz]; exact ⟨h1, h2, h3, h4⟩
      · rw [if_neg hz]
        refine ⟨?_, h2, h3, h4⟩
        simp only [ByteArray.size_extract]
        omega
    · rw [if_neg r0]
      by_cases r1 : reg = 1
      · rw [if_pos r1]; exact ⟨h1, h2, h3, h4⟩
      · rw [if_neg r1]
        by_cases r2 : reg = 2
        · rw [if_pos r2]; exact ⟨h1, h2, h3, h4⟩
        · rw [if_neg r2]; exact ⟨h1, h2, h3, h4⟩
  · rw [if_neg k3]
    by_cases r0 : reg = 0
    · rw [if_pos r0]
      refine ⟨h1, ?_, h3, h4⟩
      show (if o.size < 65536 then o ++ b2s [IntKind.u8.wrap num] else o).size ≤ 65536
      by_cases c : o.size < 65536
      · rw [if_pos c, bsize_app, b2s_one]; omega
      · rw [if_neg c]; exact h2
    · rw [if_neg r0]
      by_cases r2 : reg = 2
      · rw [if_pos r2]; exact ⟨h1, h2, Int.emod_nonneg _ (by decide), by have := Int.emod_lt_of_pos num (show (0 : Int) < 4 by decide); show num % 4 ≤ 3; omega⟩
      · rw [if_neg r2]
        by_cases r3 : reg = 3
        · rw [if_pos r3]; exact ⟨Nat.zero_le _, h2, h3, h4⟩
        · rw [if_neg r3]; exact ⟨h1, h2, h3, h4⟩
/-- Is the line up? -/
def serLine (i : ByteArray) (e : Int) : Bool := ((Int.tmod e 2 == 1) && !seq i (⟨#[]⟩ : ByteArray)) || decide (e ≥ 2)
theorem impl_line (i : ByteArray) (e : Int) (h0 : 0 ≤ e) (h3 : e ≤ 3) : (((bits .and .i64 e 1 != 0) && !seq i (⟨#[]⟩ : ByteArray)) || (bits .and .i64 e 2 != 0)) = serLine i e := by
  unfold serLine
  have he : e = 0 ∨ e = 1 ∨ e = 2 ∨ e = 3 := by omega
  have a0 : bits .and .i64 0 2 = 0 := by decide +kernel
  have a1 : bits .and .i64 1 2 = 0 := by decide +kernel
  have a2 : bits .and .i64 2 2 = 2 := by decide +kernel
  have a3 : bits .and .i64 3 2 = 2 := by decide +kernel
  rcases he with rfl | rfl | rfl | rfl
  · rw [bits_and1, a0]; rfl
  · rw [bits_and1, a1]; rfl
  · rw [bits_and1, a2]; rfl
  · rw [bits_and1, a3]; cases seq i (⟨#[]⟩ : ByteArray) <;> rfl
theorem ser_loop (ops : List (Int × Int × Int × ByteArray)) (hops : small (.slice R1) ops) (z : Int) (za zb : ByteArray) (zc : Int) (zd : Bool) : ∀ (d k1 k2 n : Nat) (i o : ByteArray) (e : Int) (l : Bool) (outs : List (Int × Int × Bool)),
    n + d = ops.length → d < k1 → d < k2 → serInv i o e → outs.length + d ≤ 1048576 →
    ∃ i' o' e' l' outs', outs'.length = outs.length + d ∧ spec_RunSerial_l7 k1 ops (n : Int) i o e l z za zb zc zd outs = some (i', o', e', l', z, za, zb, zc, zd, outs', ()) ∧
      impl_RunSerial_l7 k2 ops (ops.length : Int) (n : Int) i o e l z za zb zc zd outs = some (i', o', e', l', z, za, zb, zc, zd, outs', ()) := by
  intro d
  induction d with
  | zero =>
    intro k1 k2 n i o e l outs hn h1 h2 hi ho
    obtain ⟨k1, rfl⟩ : ∃ q, k1 = q + 1 := ⟨k1 - 1, by omega⟩
    obtain ⟨k2, rfl⟩ : ∃ q, k2 = q + 1 := ⟨k2 - 1, by omega⟩
    have : n = ops.length := by omega
    subst this
    refine ⟨i, o, e, l, outs, by omega, ?_, ?_⟩
    · show spec_RunSerial_l7_step (spec_RunSerial_l7 k1) ops (ops.length : Int) i o e l z za zb zc zd outs = _
      unfold spec_RunSerial_l7_step
      rw [decn (show ¬ (ops.length : Int) < (ops.length : Int) by omega)]
      rfl
    · show impl_RunSerial_l7_step (impl_RunSerial_l7 k2) ops (ops.length : Int) (ops.length : Int) i o e l z za zb zc zd outs = _
      unfold impl_RunSerial_l7_step
      rw [decn (show ¬ (ops.length : Int) < (ops.length : Int) by omega)]
      rfl
  | succ d ih =>
    intro k1 k2 n i o e l outs hn h1 h2 hi ho
    obtain ⟨k1, rfl⟩ : ∃ q, k1 = q + 1 := ⟨k1 - 1, by omega⟩
    obtain ⟨k2, rfl⟩ : ∃ q, k2 = q + 1 := ⟨k2 - 1, by omega⟩
    have hlt : n < ops.length := by omega
    have hl := hops.1
    have ht : (ops[n].2.2.2 : ByteArray).size ≤ 1048576 := (hops.2 _ (List.getElem_mem hlt)).2.2.2
    have q1 := spec_ser i o e l ops[n].1 ops[n].2.1 ops[n].2.2.1 ops[n].2.2.2 hi.1 hi.2.1 ht
    have q2 := impl_ser i o e l ops[n].1 ops[n].2.1 ops[n].2.2.1 ops[n].2.2.2 hi.1 hi.2.1 ht
    have q3 := serStep_inv i o e l ops[n].1 ops[n].2.1 ops[n].2.2.1 ops[n].2.2.2 hi
    generalize serStep i o e l ops[n].1 ops[n].2.1 ops[n].2.2.1 ops[n].2.2.2 = R at q1 q2 q3
    obtain ⟨i', o', e', l', c, num⟩ := R
    simp only at q1 q2 q3
    have rm : roomy ((outs.length : Int) + ([(c, num, serLine i' e')].length : Int)) 24 = true := roomy_ok (by simp; omega)
    obtain ⟨i2, o2, e2, l2, outs2, g0, g1, g2⟩ := ih k1 k2 (n + 1) i' o' e' l' (outs ++ [(c, num, serLine i' e')]) (by omega) (by omega) (by omega) q3 (by simp; omega)
    have d1 : decide ((n : Int) < (ops.length : Int)) = true := decp (by omega)
    have d2 : decide ((0 : Int) ≤ (n : Int)) = true := decp (by omega)
    have w := wrap_i n ops.length hlt (by omega)
    refine ⟨i2, o2, e2, l2, outs2, by rw [g0]; simp; omega, ?_, ?_⟩
    · show spec_RunSerial_l7_step (spec_RunSerial_l7 k1) ops (n : Int) i o e l z za zb zc zd outs = _
      unfold spec_RunSerial_l7_step
      simp only [d1, d2, rd_at R1 ops n hlt, q1, Option.bind_some, Bool.and_true, cond_true, w, show ((2 : Int) == 0) = false from rfl, Bool.not_false]
      rw [show (((Int.tmod e' 2 == 1) && !seq i' (⟨#[]⟩ : ByteArray)) || decide (e' ≥ 2)) = serLine i' e' from rfl, rm]
      exact g1
    · show impl_RunSerial_l7_step (impl_RunSerial_l7 k2) ops (ops.length : Int) (n : Int) i o e l z za zb zc zd outs = _
      unfold impl_RunSerial_l7_step
      simp only [d1, d2, rd_at R1 ops n hlt, q2, Option.bind_some, Bool.and_true, cond_true, w, impl_line i' e' q3.2.2.1 q3.2.2.2]
      rw [rm]
      exact g2
abbrev SerRun := Int × ByteArray × ByteArray × Int × Bool × List (Int × Int × Bool) × Unit
theorem ser_same (i o : ByteArray) (e : Int) (l : Bool) (ops : List (Int × Int × Int × ByteArray)) (hops : small (.slice R1) ops) :
    ∃ R : SerRun, R.2.2.2.2.2.1.length ≤ 1000 ∧ spec_RunSerial i o e l ops = some R ∧ impl_RunSerial i o e l ops = some R := by
  unfold spec_RunSerial impl_RunSerial
  simp only [yin_eq, Option.getD_some, Option.isSome_some, Bool.or_true, cond_true]
  by_cases c1 : (ops.length : Int) > 1000
  · rw [decp c1]; exact ⟨_, Nat.zero_le _, rfl, rfl⟩
  rw [decn c1]
  simp only [cond_false]
  by_cases c2 : (i.size : Int) > 16
  · rw [decp c2]; exact ⟨_, Nat.zero_le _, rfl, rfl⟩
  by_cases c3 : (o.size : Int) > 65536
  · rw [decn c2, decp c3]; exact ⟨_, Nat.zero_le _, rfl, rfl⟩
  rw [decn c2, decn c3]
  by_cases c4 : 0 ≤ e ∧ e ≤ 3
  · rw [decn (show ¬ e < 0 by omega), decn (show ¬ e > 3 by omega), decp c4]
    obtain ⟨i', o', e', l', outs', g0, g1, g2⟩ := ser_loop ops hops 0 ByteArray.empty ByteArray.empty 0 false ops.length K0 K0 0 i o e l [] (by omega) (by rw [K0_eq]; have := hops.1; omega) (by rw [K0_eq]; have := hops.1; omega) ⟨by omega, by omega, c4⟩ (by simp; exact hops.1)
    refine ⟨(0, i', o', e', l', outs', ()), ?_, ?_, ?_⟩
    · show outs'.length ≤ 1000
      rw [g0]; simp; omega
    · have g1' : spec_RunSerial_l7 K0 ops 0 i o e l 0 ByteArray.empty ByteArray.empty 0 false [] = _ := g1
      rw [g1']; rfl
    · have g2' : impl_RunSerial_l7 K0 ops (ops.length : Int) 0 i o e l 0 ByteArray.empty ByteArray.empty 0 false [] = _ := g2
      rw [g2']; rfl
  · rw [decn c4]
    refine ⟨(1, ByteArray.empty, ByteArray.empty, 0, false, [], ()), Nat.zero_le _, ?_, rfl⟩
    by_cases c5 : e < 0
    · rw [decp c5]; rfl
    · rw [decn c5, decp (show e > 3 by omega)]; rfl
theorem FnExactRunSerial : laws_FnExactRunSerial.Pure := by
  intro x0 x1 g0 g1
  unfold laws_FnExactRunSerial
  obtain ⟨n1, e1, l1, m1, s1⟩ := laws_szSerial_ok x0.1 x0.2.1 x0.2.2.1 x0.2.2.2 1048576 (by decide) (by decide) g0.1 g0.2.1
  rw [e1]
  simp only [Option.bind_some]
  by_cases c1 : n1 < 0
  · rw [decp c1]; rfl
  rw [decn c1]
  simp only [cond_false]
  obtain ⟨n2, e2, l2, m2, s2⟩ := laws_szSerialOpS_ok x1 n1 (by omega) (by omega) g1
  rw [e2]
  simp only [Option.bind_some]
  by_cases c2 : n2 < 0
  · rw [decp c2]; rfl
  rw [decn c2]
  simp only [cond_false]
  have sm2 := s2 (by omega)
  have t2 := lens_of sm2
  obtain ⟨R, hR, r1, r2⟩ := ser_same x0.1 x0.2.1 x0.2.2.1 x0.2.2.2 x1 sm2
  have a1 := laws_toSerial_ok x0.1 x0.2.1 x0.2.2.1 x0.2.2.2
  have a2 := laws_toSerialOpS_ok x1 t2
  have lR : lens (.slice R2) R.2.2.2.2.2.1 := lens_row rfl (by omega)
  have q1 := laws_eqSerialRun_ok R.1 R.2.1 R.2.2.1 R.2.2.2.1 R.2.2.2.2.1 R.2.2.2.2.2.1 lR
  have q2 := laws_eqSerialOpS_ok x1 t2
  obtain ⟨ys, b1, b2, b3⟩ := laws_markSerialOpS_v2_ok x1 1 t2 (by decide) (by decide)
  obtain ⟨zs, d1, d2, d3⟩ := laws_markSerialOutS_v2_ok R.2.2.2.2.2.1 1 lR (by decide) (by decide)
  have f := laws_heldSerialOutS_ok zs 1 (by omega) (by decide) (by decide) d3
  rw [d2] at f
  have u1 : decide (1 + 4 * ((x1 : List (Int × Int × Int × ByteArray)).length : Int) < 0) = false := decn (by omega)
  have u2 : decide (1 + 3 * (R.2.2.2.2.2.1.length : Int) < 0) = false := decn (by omega)
  simp only [a1, a2, r1, r2, q1, q2, b1, laws_markSerialRun_v2, d1, laws_heldSerialRun, f, Option.bind_some, Option.getD_some, Option.isSome_some, u1, u2, Bool.not_true, Bool.not_false, Bool.or_true, Bool.or_false, Bool.true_or, Bool.false_or, cond_true, cond_false, bne_self_eq_false]
end Go.Ab.FnExactRunSerial.Pure
