/- The plain statement of the law FnExactManagerFault. -/
import Derived.Test.YtohohapkmehfnaaAbStFnExactManagerFault
import Derived.Laws.BitsLemmas
namespace Go.Ab.FnExactManagerFault.Pure
open Go.RowKit Go.Ab
set_option linter.unusedVariables false
set_option linter.unusedSimpArgs false
theorem wrap_id {x : Int} (h0 : -9223372036854775808 ≤ x) (h1 : x ≤ 9223372036854775807) : wrap64 x = x := by unfold wrap64; omega
theorem K0_ge {n : Nat} (h : n ≤ 18446744073709551616) : ∃ k, K0 = k + n := ⟨K0 - n, by rw [K0_eq]; omega⟩
theorem roomy_ok {n b : Int} (h : n * b ≤ 140737488355328) : roomy n b = true := by unfold roomy; rw [M0_eq]; simpa using h
theorem rd_nat (t : Ty) (l : List t.val) (i : Nat) : rd t l (i : Int) = l.getD i t.dflt := by unfold rd; rw [Int.toNat_natCast]
theorem rd_at (t : Ty) (l : List t.val) (i : Nat) (h : i < List.length l) : rd t l (i : Int) = l[i]'h := by rw [rd_nat]; simp [h]
theorem decp {p : Prop} [Decidable p] (h : p) : decide p = true := decide_eq_true h
theorem decn {p : Prop} [Decidable p] (h : ¬ p) : decide p = false := decide_eq_false h
theorem bt_range (m : ByteArray) (a : Int) : 0 ≤ bt m a ∧ bt m a ≤ 255 := by
  unfold bt
  have := (m.data.getD a.toNat 0).toNat_lt
  omega
theorem shl_eq {x s : Int} (n : Nat) (hs : s = (n : Int)) (h : n ≤ 64) (h0 : 0 ≤ x * 2 ^ n) (h1 : x * 2 ^ n ≤ 9223372036854775807) : shl .i64 x s = x * 2 ^ n := by
  subst hs
  unfold shl
  rw [Int.toNat_natCast, show min n IntKind.i64.bits = n from Nat.min_eq_left h, IntKind.wrap_i64]
  omega
theorem wrap_succ (i n : Nat) (h : i < n) (hn : n ≤ 140737488351232) : wrap64 ((i : Int) + 1) = ((i + 1 : Nat) : Int) := by
  unfold wrap64; omega
theorem yin_eq (a b c : Int) : impl_yin a b c = some (decide (b ≤ a ∧ a ≤ c), ()) := by
  unfold impl_yin
  dsimp only
  congr 2
  rw [Bool.eq_iff_iff]
  simp
/-- What is told of sizes once they are counted. -/
def small : (t : Ty) → t.val → Prop
  | .str, x => x.size ≤ 1048576
  | .slice t, l => List.length l ≤ 1048576 ∧ ∀ y ∈ (show List t.val from l), small t y
  | .pair a b, x => small a x.1 ∧ small b x.2
  | _, _ => True
/-- The same of rows alone. -/
def lens : (t : Ty) → t.val → Prop
  | .slice t, l => List.length l ≤ 1048576 ∧ ∀ y ∈ (show List t.val from l), lens t y
  | .pair a b, x => lens a x.1 ∧ lens b x.2
  | _, _ => True
theorem lens_of : ∀ {t : Ty} {x : t.val}, small t x → lens t x
  | .slice t, l, h => ⟨h.1, fun y hy => lens_of (h.2 y hy)⟩
  | .pair a b, x, h => ⟨lens_of h.1, lens_of h.2⟩
  | .str, _, _ => trivial
  | .int _, _, _ => trivial
  | .bool, _, _ => trivial
  | .unit, _, _ => trivial
  | .sum _ _, _, _ => trivial
  | .opq, _, _ => trivial
theorem lens_flat {t : Ty} (h : flat t = true) (x : t.val) : lens t x := by
  induction t with
  | slice t _ => simp [flat] at h
  | pair a b iha ihb => simp only [flat, Bool.and_eq_true] at h; exact ⟨iha h.1 x.1, ihb h.2 x.2⟩
  | _ => trivial
theorem lens_row {t : Ty} (h : flat t = true) {l : List t.val} (hl : l.length ≤ 1048576) : lens (.slice t) l := ⟨hl, fun y _ => lens_flat h y⟩
theorem lens_at {t : Ty} {l : List t.val} (h : lens (.slice t) l) (i : Nat) (hi : i < List.length l) : lens t (l[i]'hi) := h.2 _ (List.getElem_mem hi)
theorem good_at {t : Ty} {l : List t.val} (h : good (.slice t) l) (i : Nat) (hi : i < List.length l) : good t (l[i]'hi) := h.2 _ (List.getElem_mem hi)
theorem small_row {t : Ty} {l : List t.val} (hl : List.length l ≤ 1048576) (h : ∀ i, (hi : i < List.length l) → small t (l[i]'hi)) : small (.slice t) l := ⟨hl, fun y hy => by
  obtain ⟨i, hi, rfl⟩ := List.getElem_of_mem hy
  exact h i hi⟩
theorem maxLen_lt {n : Nat} (h : n ≤ maxLen) : n ≤ 9223372036854775807 := by unfold maxLen at h; omega
theorem wrap_inc (m j : Int) (h0 : 0 ≤ m) (h1 : m ≤ 4000000000000000000) (h2 : 0 ≤ j) (h3 : j ≤ 1000000) : wrap64 (m + j + 1) = m + (j + 1) := by
  unfold wrap64; omega
theorem wrap_i (i n : Nat) (h : i < n) (hn : n ≤ 9223372036854775807) : wrap64 ((i : Int) + 1) = ((i + 1 : Nat) : Int) := by
  unfold wrap64; omega
theorem rd_set (t : Ty) (l : List t.val) (i : Nat) (v : t.val) (h : i < List.length l) : rd t (List.set l i v) (i : Int) = v := by
  rw [rd_at t _ i (by simpa using h)]; simp
theorem b2s_one (n : Int) : (b2s [n]).size = 1 := rfl
theorem bsize_app (a b : ByteArray) : (a ++ b).size = a.size + b.size := ByteArray.size_append
theorem seq_self (s : ByteArray) : seq s s = true := by unfold seq; simp
theorem seq_ne_self (s : ByteArray) : (!seq s s) = false := by rw [seq_self]; rfl
/-- A loop that lays each element as it is. -/
theorem to_loop {α : Type} (F : Nat → List α → Nat → List α → Option (List α × Unit)) (l : List α) (hl : l.length ≤ 9223372036854775807)
    (hF : ∀ (k i : Nat) (ys : List α) (hi : i < l.length), ys.length = l.length → F (k + 1) l i ys = F k l (i + 1) (ys.set i l[i]))
    (hE : ∀ (k : Nat) (ys : List α), F (k + 1) l l.length ys = some (ys, ())) (ys : List α) (hy : ys.length = l.length) : F K0 l 0 ys = some (l, ()) := by
  have key : ∀ (d k i : Nat) (ys : List α), i + d = l.length → d < k → ys.length = l.length → (∀ j, j < i → ys[j]? = l[j]?) → F k l i ys = some (l, ()) := by
    intro d
    induction d with
    | zero =>
      intro k i ys hi hk hy hj
      obtain ⟨k, rfl⟩ : ∃ q, k = q + 1 := ⟨k - 1, by omega⟩
      have : i = l.length := by omega
      subst this
      rw [hE]
      congr 2
      apply List.ext_getElem? 
      intro j
      by_cases h : j < l.length
      · exact hj j h
      · rw [List.getElem?_eq_none (by omega), List.getElem?_eq_none (by omega)]
    | succ d ih =>
      intro k i ys hi hk hy hj
      obtain ⟨k, rfl⟩ : ∃ q, k = q + 1 := ⟨k - 1, by omega⟩
      rw [hF k i ys (by omega) hy]
      refine ih k (i + 1) _ (by omega) (by omega) (by simpa using hy) fun j hjj => ?_
      by_cases h : j = i
      · subst h
        rw [List.getElem?_set_self (by omega), List.getElem?_eq_getElem (by omega)]
      · rw [List.getElem?_set_ne (by omega)]
        exact hj j (by omega)
  exact key l.length K0 0 ys (by omega) (by rw [K0_eq]; omega) hy (fun j hj => by omega)
/-- A loop that takes from what is left, or is at its end. -/
theorem sz_loop {α : Type} (F : Nat → List α → Int → Nat → Option ((Int × Unit) ⊕ (Int × Unit))) (P : α → Prop) (l : List α) (hl : l.length ≤ 9223372036854775807)
    (hF : ∀ (k i : Nat) (left : Int) (hi : i < l.length), 0 ≤ left → left ≤ 1048576 → ∃ n, n ≤ left ∧ -1 ≤ n ∧ (0 ≤ n → P l[i]) ∧ F (k + 1) l left i = bif decide (n < 0) then some (Sum.inl (-1, ())) else F k l n (i + 1))
    (hE : ∀ (k : Nat) (left : Int), F (k + 1) l left l.length = some (Sum.inr (left, ()))) (left : Int) (h0 : 0 ≤ left) (h1 : left ≤ 1048576) :
    F K0 l left 0 = some (Sum.inl (-1, ())) ∨ ∃ n, n ≤ left ∧ 0 ≤ n ∧ (∀ i, (hi : i < l.length) → P l[i]) ∧ F K0 l left 0 = some (Sum.inr (n, ())) := by
  have key : ∀ (d k i : Nat) (left : Int), i + d = l.length → d < k → 0 ≤ left → left ≤ 1048576 → F k l left i = some (Sum.inl (-1, ())) ∨ ∃ n, n ≤ left ∧ 0 ≤ n ∧ (∀ j, i ≤ j → (hj : j < l.length) → P l[j]) ∧ F k l left i = some (Sum.inr (n, ())) := by
    intro d
    induction d with
    | zero =>
      intro k i left hi hk h0 h1
      obtain ⟨k, rfl⟩ : ∃ q, k = q + 1 := ⟨k - 1, by omega⟩
      have : i = l.length := by omega
      subst this
      exact .inr ⟨left, by omega, h0, fun j h1 h2 => by omega, hE k left⟩
    | succ d ih =>
      intro k i left hi hk h0 h1
      obtain ⟨k, rfl⟩ : ∃ q, k = q + 1 := ⟨k - 1, by omega⟩
      obtain ⟨n, n1, n2, hP, e⟩ := hF k i left (by omega) h0 h1
      rw [e]
      by_cases c : n < 0
      · rw [decp c]; exact .inl rfl
      · rw [decn c, cond_false]
        rcases ih k (i + 1) n (by omega) (by omega) (by omega) (by omega) with q | ⟨m, q1, q2, q3, q4⟩
        · exact .inl q
        · refine .inr ⟨m, by omega, q2, fun j h1 h2 => ?_, q4⟩
          by_cases h : j = i
          · subst h; exact hP (by omega)
          · exact q3 j (by omega) h2
  rcases key l.length K0 0 left (by omega) (by rw [K0_eq]; omega) h0 h1 with q | ⟨m, q1, q2, q3, q4⟩
  · exact .inl q
  · exact .inr ⟨m, q1, q2, fun i hi => q3 i (by omega) hi, q4⟩
/-- A loop that holds each element against itself. -/
theorem eq_loop {α : Type} (F : Nat → List α → List α → Nat → Option ((Bool × Unit) ⊕ Unit)) (l : List α) (hl : l.length ≤ 9223372036854775807)
    (hF : ∀ (k i : Nat) (hi : i < l.length), F (k + 1) l l i = F k l l (i + 1))
    (hE : ∀ (k : Nat), F (k + 1) l l l.length = some (Sum.inr ())) : F K0 l l 0 = some (Sum.inr ()) := by
  have key : ∀ (d k i : Nat), i + d = l.length → d < k → F k l l i = some (Sum.inr ()) := by
    intro d
    induction d with
    | zero =>
      intro k i hi hk
      obtain ⟨k, rfl⟩ : ∃ q, k = q + 1 := ⟨k - 1, by omega⟩
      have : i = l.length := by omega
      subst this
      exact hE k
    | succ d ih =>
      intro k i hi hk
      obtain ⟨k, rfl⟩ : ∃ q, k = q + 1 := ⟨k - 1, by omega⟩
      rw [hF k i (by omega)]
      exact ih k (i + 1) (by omega) (by omega)
  exact key l.length K0 0 (by omega) (by rw [K0_eq]; omega)
/-- A loop F that marks each element with running numbers, and a loop G that tells whether the marks stand. -/
theorem mark_loop {α : Type} (F : Nat → List α → Int → Nat → Option (Int × List α × Unit)) (c : Int) (E : Int → α → α) (hc : 0 ≤ c)
    (hF : ∀ (k : Nat) (xs : List α) (m : Int) (i : Nat) (hi : i < xs.length), 0 ≤ m → m ≤ 4000000000000000000 → xs.length ≤ 9223372036854775807 → F (k + 1) xs m i = F k (xs.set i (E m xs[i])) (m + c) (i + 1))
    (hFe : ∀ (k : Nat) (xs : List α) (m : Int), F (k + 1) xs m xs.length = some (m, xs, ())) (xs : List α) (m : Int) (hl : xs.length ≤ 9223372036854775807) (hm : 0 ≤ m) (hb : m + c * (xs.length : Int) ≤ 4000000000000000000) :
      ∃ ys, F K0 xs m 0 = some (m + c * (xs.length : Int), ys, ()) ∧ ys.length = xs.length ∧ ∀ i, (h : i < ys.length) → ∃ a, ys[i] = E (m + c * (i : Int)) a := by
  have key : ∀ (d k i : Nat) (xs : List α) (m : Int), i + d = xs.length → d < k → 0 ≤ m → m + c * d ≤ 4000000000000000000 → xs.length ≤ 9223372036854775807 →
      ∃ ys, F k xs m i = some (m + c * d, ys, ()) ∧ ys.length = xs.length ∧ (∀ j, j < i → ys[j]? = xs[j]?) ∧ ∀ j, i ≤ j → (h : j < ys.length) → ∃ a, ys[j] = E (m + c * ((j : Int) - i)) a := by
    intro d
    induction d with
    | zero =>
      intro k i xs m hi hk hm hb hl
      obtain ⟨k, rfl⟩ : ∃ q, k = q + 1 := ⟨k - 1, by omega⟩
      have : i = xs.length := by omega
      subst this
      exact ⟨xs, by rw [hFe]; simp, rfl, fun _ _ => rfl, fun j h1 h2 => by omega⟩
    | succ d ih =>
      intro k i xs m hi hk hm hb hl
      obtain ⟨k, rfl⟩ : ∃ q, k = q + 1 := ⟨k - 1, by omega⟩
      have hlt : i < xs.length := by omega
      have hcd : 0 ≤ c * (d : Int) := Int.mul_nonneg hc (by omega)
      have hs : c * ((d + 1 : Nat) : Int) = c * (d : Int) + c := by rw [Int.natCast_succ, Int.mul_add, Int.mul_one]
      rw [hs] at hb ⊢
      obtain ⟨ys, e1, e2, e3, e4⟩ := ih k (i + 1) (xs.set i (E m xs[i])) (m + c) (by simp; omega) (by omega) (by omega) (by omega) (by simpa using hl)
      have hy : i < ys.length := by rw [e2]; simpa using hlt
      have hyi : ys[i] = E m xs[i] := by
        have h := e3 i (by omega)
        rw [List.getElem?_eq_getElem hy, List.getElem?_set_self hlt] at h
        exact Option.some.inj h
      refine ⟨ys, ?_, by rw [e2]; simp, ?_, ?_⟩
      · rw [hF k xs m i hlt hm (by omega) hl, e1]
        congr 2
        omega
      · intro j hj
        rw [e3 j (by omega), List.getElem?_set_ne (by omega)]
      · intro j hj h
        by_cases h' : j = i
        · subst h'
          exact ⟨xs[j], by rw [hyi]; congr 1; rw [Int.sub_self, Int.mul_zero, Int.add_zero]⟩
        · obtain ⟨a, ha⟩ := e4 j (by omega) h
          refine ⟨a, by rw [ha]; congr 1; rw [Int.add_assoc]; congr 1; rw [show (j : Int) - (i : Int) = 1 + ((j : Int) - ((i + 1 : Nat) : Int)) by omega, Int.mul_add, Int.mul_one]⟩
  obtain ⟨ys, e1, e2, _, e4⟩ := key xs.length K0 0 xs m (by omega) (by rw [K0_eq]; omega) hm hb hl
  exact ⟨ys, e1, e2, fun i h => by obtain ⟨a, ha⟩ := e4 i (by omega) h; exact ⟨a, by simpa using ha⟩⟩
/-- A loop that tells whether the marks stand. -/
theorem held_loop {α : Type} (G : Nat → List α → Int → Nat → Option ((Int × Unit) ⊕ (Int × Unit))) (c : Int) (E : Int → α → α) (hc : 0 ≤ c)
    (hG : ∀ (k : Nat) (xs : List α) (m : Int) (i : Nat) (hi : i < xs.length) (a : α), 0 ≤ m → m ≤ 4000000000000000000 → xs.length ≤ 9223372036854775807 → xs[i] = E m a → G (k + 1) xs m i = G k xs (m + c) (i + 1))
    (hGe : ∀ (k : Nat) (xs : List α) (m : Int), G (k + 1) xs m xs.length = some (Sum.inr (m, ()))) (ys : List α) (m : Int) (hl : ys.length ≤ 9223372036854775807) (hm : 0 ≤ m) (hb : m + c * (ys.length : Int) ≤ 4000000000000000000)
    (hE : ∀ i, (h : i < ys.length) → ∃ a, ys[i] = E (m + c * (i : Int)) a) : G K0 ys m 0 = some (Sum.inr (m + c * (ys.length : Int), ())) := by
  have key : ∀ (d k i : Nat), i + d = ys.length → d < k → G k ys (m + c * (i : Int)) i = some (Sum.inr (m + c * (ys.length : Int), ())) := by
    intro d
    induction d with
    | zero =>
      intro k i hi hk
      obtain ⟨k, rfl⟩ : ∃ q, k = q + 1 := ⟨k - 1, by omega⟩
      have : i = ys.length := by omega
      subst this
      exact hGe k ys _
    | succ d ih =>
      intro k i hi hk
      obtain ⟨k, rfl⟩ : ∃ q, k = q + 1 := ⟨k - 1, by omega⟩
      obtain ⟨a, ha⟩ := hE i (by omega)
      have hcd : 0 ≤ c * (i : Int) := Int.mul_nonneg hc (by omega)
      have hle : c * (i : Int) ≤ c * (ys.length : Int) := Int.mul_le_mul_of_nonneg_left (by omega) hc
      rw [hG k ys _ i (by omega) a (by omega) (by omega) hl ha]
      have e : m + c * (i : Int) + c = m + c * ((i + 1 : Nat) : Int) := by
        rw [show ((i + 1 : Nat) : Int) = (i : Int) + 1 by omega, Int.mul_add, Int.mul_one]; omega
      rw [e]
      exact ih k (i + 1) (by omega) (by omega)
  have := key ys.length K0 0 (by omega) (by rw [K0_eq]; omega)
  simpa using this
theorem laws_szNode_ok (p0 : ByteArray) (p1 : Int) (p2 : Int) (p3 : Int) (p4 : Int) (p5 : Bool) (p6 : Bool) (left : Int) (h0 : 0 ≤ left) (h1 : left ≤ 1048576) (g0 : good (.str) p0) : ∃ n, laws_szNode p0 p1 p2 p3 p4 p5 p6 left = some (n, ()) ∧ n ≤ left ∧ -1 ≤ n ∧ (0 ≤ n → small R1 (p0, p1, p2, p3, p4, p5, p6)) := by
  unfold laws_szNode
  have w1 : wrap64 (left - (p0.size : Int)) = left - (p0.size : Int) := wrap_id (by have := maxLen_lt g0; omega) (by omega)
  simp only [w1]
  clear w1
  by_cases c1 : (left - (p0.size : Int)) < 0
  · refine ⟨-1, ?_, by omega, by omega, fun h => by omega⟩; simp only [decp c1, cond_true]
  simp only [decn c1, cond_false]
  exact ⟨(left - (p0.size : Int)), rfl, by omega, by omega, fun _ => ⟨(by show p0.size ≤ 1048576; omega), trivial, trivial, trivial, trivial, trivial, trivial⟩⟩
theorem laws_szNodeS_ok (l : List (ByteArray × Int × Int × Int × Int × Bool × Bool)) (left : Int) (h0 : 0 ≤ left) (h1 : left ≤ 1048576) (g : good (.slice R1) l) : ∃ n, laws_szNodeS l left = some (n, ()) ∧ n ≤ left ∧ -1 ≤ n ∧ (0 ≤ n → small (.slice R1) l) := by
  unfold laws_szNodeS
  have hm := maxLen_lt g.1
  have w : wrap64 (left - (l.length : Int)) = left - (l.length : Int) := wrap_id (by omega) (by omega)
  simp only [w]
  clear w
  by_cases c : left - (l.length : Int) < 0
  · refine ⟨-1, ?_, by omega, by omega, fun h => by omega⟩; simp only [decp c, cond_true]
  simp only [decn c, cond_false]
  rcases sz_loop (fun k l left i => laws_szNodeS_l5 k l left (i : Int)) (small R1) l hm (by
    intro k i left hi a0 a1
    have gl := good_at g i hi
    have d1 : decide ((i : Int) < (l.length : Int)) = true := decp (by omega)
    have d2 : decide ((0 : Int) ≤ (i : Int)) = true := decp (by omega)
    show ∃ n, _ ∧ _ ∧ _ ∧ laws_szNodeS_l5_step (laws_szNodeS_l5 k) l left (i : Int) = _
    unfold laws_szNodeS_l5_step
    obtain ⟨n, e, e1, e2, e3⟩ := laws_szNode_ok l[i].1 l[i].2.1 l[i].2.2.1 l[i].2.2.2.1 l[i].2.2.2.2.1 l[i].2.2.2.2.2.1 l[i].2.2.2.2.2.2 left a0 a1 gl.1
    refine ⟨n, e1, e2, e3, ?_⟩
    simp only [d1, d2, rd_at R1 l i hi, e, Option.bind_some, wrap_i i l.length hi hm, Bool.and_true, cond_true]
    try rfl) (by
    intro k left
    show laws_szNodeS_l5_step (laws_szNodeS_l5 k) l left (l.length : Int) = _
    unfold laws_szNodeS_l5_step
    have d1 : decide ((l.length : Int) < (l.length : Int)) = false := decn (by omega)
    simp only [d1, cond_false]
    try rfl) (left - (l.length : Int)) (by omega) (by omega) with q | ⟨n, q1, q2, q3, q4⟩
  · have q' : laws_szNodeS_l5 K0 l (left - (l.length : Int)) 0 = some (Sum.inl (-1, ())) := q
    simp only [q', Option.bind_some]
    exact ⟨-1, rfl, by omega, by omega, fun h => by omega⟩
  · have q' : laws_szNodeS_l5 K0 l (left - (l.length : Int)) 0 = some (Sum.inr (n, ())) := q4
    simp only [q', Option.bind_some]
    exact ⟨n, rfl, by omega, by omega, fun _ => small_row (by omega) q3⟩
theorem laws_szVm_ok (p0 : ByteArray) (p1 : Int) (p2 : Int) (p3 : Int) (p4 : Int) (p5 : Int) (p6 : ByteArray) (p7 : Int) (left : Int) (h0 : 0 ≤ left) (h1 : left ≤ 1048576) (g0 : good (.str) p0) (g6 : good (.str) p6) : ∃ n, laws_szVm p0 p1 p2 p3 p4 p5 p6 p7 left = some (n, ()) ∧ n ≤ left ∧ -1 ≤ n ∧ (0 ≤ n → small R2 (p0, p1, p2, p3, p4, p5, p6, p7)) := by
  unfold laws_szVm
  have w1 : wrap64 (left - (p0.size : Int)) = left - (p0.size : Int) := wrap_id (by have := maxLen_lt g0; omega) (by omega)
  simp only [w1]
  clear w1
  by_cases c1 : (left - (p0.size : Int)) < 0
  · refine ⟨-1, ?_, by omega, by omega, fun h => by omega⟩; simp only [decp c1, cond_true]
  simp only [decn c1, cond_false]
  have w2 : wrap64 ((left - (p0.size : Int)) - (p6.size : Int)) = (left - (p0.size : Int)) - (p6.size : Int) := wrap_id (by have := maxLen_lt g6; omega) (by omega)
  simp only [w2]
  clear w2
  by_cases c2 : ((left - (p0.size : Int)) - (p6.size : Int)) < 0
  · refine ⟨-1, ?_, by omega, by omega, fun h => by omega⟩; simp only [decp c2, cond_true]
  simp only [decn c2, cond_false]
  exact ⟨((left - (p0.size : Int)) - (p6.size : Int)), rfl, by omega, by omega, fun _ => ⟨(by show p0.size ≤ 1048576; omega), trivial, trivial, trivial, trivial, trivial, (by show p6.size ≤ 1048576; omega), trivial⟩⟩
theorem laws_szVmS_ok (l : List (ByteArray × Int × Int × Int × Int × Int × ByteArray × Int)) (left : Int) (h0 : 0 ≤ left) (h1 : left ≤ 1048576) (g : good (.slice R2) l) : ∃ n, laws_szVmS l left = some (n, ()) ∧ n ≤ left ∧ -1 ≤ n ∧ (0 ≤ n → small (.slice R2) l) := by
  unfold laws_szVmS
  have hm := maxLen_lt g.1
  have w : wrap64 (left - (l.length : Int)) = left - (l.length : Int) := wrap_id (by omega) (by omega)
  simp only [w]
  clear w
  by_cases c : left - (l.length : Int) < 0
  · refine ⟨-1, ?_, by omega, by omega, fun h => by omega⟩; simp only [decp c, cond_true]
  simp only [decn c, cond_false]
  rcases sz_loop (fun k l left i => laws_szVmS_l5 k l left (i : Int)) (small R2) l hm (by
    intro k i left hi a0 a1
    have gl := good_at g i hi
    have d1 : decide ((i : Int) < (l.length : Int)) = true := decp (by omega)
    have d2 : decide ((0 : Int) ≤ (i : Int)) = true := decp (by omega)
    show ∃ n, _ ∧ _ ∧ _ ∧ laws_szVmS_l5_step (laws_szVmS_l5 k) l left (i : Int) = _
    unfold laws_szVmS_l5_step
    obtain ⟨n, e, e1, e2, e3⟩ := laws_szVm_ok l[i].1 l[i].2.1 l[i].2.2.1 l[i].2.2.2.1 l[i].2.2.2.2.1 l[i].2.2.2.2.2.1 l[i].2.2.2.2.2.2.1 l[i].2.2.2.2.2.2.2 left a0 a1 gl.1 gl.2.2.2.2.2.2.1
    refine ⟨n, e1, e2, e3, ?_⟩
    simp only [d1, d2, rd_at R2 l i hi, e, Option.bind_some, wrap_i i l.length hi hm, Bool.and_true, cond_true]
    try rfl) (by
    intro k left
    show laws_szVmS_l5_step (laws_szVmS_l5 k) l left (l.length : Int) = _
    unfold laws_szVmS_l5_step
    have d1 : decide ((l.length : Int) < (l.length : Int)) = false := decn (by omega)
    simp only [d1, cond_false]
    try rfl) (left - (l.length : Int)) (by omega) (by omega) with q | ⟨n, q1, q2, q3, q4⟩
  · have q' : laws_szVmS_l5 K0 l (left - (l.length : Int)) 0 = some (Sum.inl (-1, ())) := q
    simp only [q', Option.bind_some]
    exact ⟨-1, rfl, by omega, by omega, fun h => by omega⟩
  · have q' : laws_szVmS_l5 K0 l (left - (l.length : Int)) 0 = some (Sum.inr (n, ())) := q4
    simp only [q', Option.bind_some]
    exact ⟨n, rfl, by omega, by omega, fun _ => small_row (by omega) q3⟩
theorem laws_szTenantS_ok (l : List (Int × Int × Int)) (left : Int) (h0 : 0 ≤ left) (h1 : left ≤ 1048576) (g : good (.slice R5) l) : ∃ n, laws_szTenantS l left = some (n, ()) ∧ n ≤ left ∧ -1 ≤ n ∧ (0 ≤ n → small (.slice R5) l) := by
  unfold laws_szTenantS
  have hm := maxLen_lt g.1
  have w : wrap64 (left - (l.length : Int)) = left - (l.length : Int) := wrap_id (by omega) (by omega)
  simp only [w]
  clear w
  by_cases c : left - (l.length : Int) < 0
  · refine ⟨-1, ?_, by omega, by omega, fun h => by omega⟩; simp only [decp c, cond_true]
  simp only [decn c, cond_false]
  exact ⟨_, rfl, by omega, by omega, fun _ => small_row (by omega) fun i hi => by simp [small]⟩
theorem laws_szCluster_ok (p0 : List (ByteArray × Int × Int × Int × Int × Bool × Bool)) (p1 : List (ByteArray × Int × Int × Int × Int × Int × ByteArray × Int)) (p2 : List (Int × Int × Int)) (p3 : Int) (p4 : Int) (left : Int) (h0 : 0 ≤ left) (h1 : left ≤ 1048576) (g0 : good (.slice (.pair (.str) (.pair (.int .i64) (.pair (.int .i64) (.pair (.int .i64) (.pair (.int .i64) (.pair (.bool) (.bool)))))))) p0) (g1 : good (.slice (.pair (.str) (.pair (.int .i64) (.pair (.int .i64) (.pair (.int .i64) (.pair (.int .i64) (.pair (.int .i64) (.pair (.str) (.int .i64))))))))) p1) (g2 : good (.slice (.pair (.int .i64) (.pair (.int .i64) (.int .i64)))) p2) : ∃ n, laws_szCluster p0 p1 p2 p3 p4 left = some (n, ()) ∧ n ≤ left ∧ -1 ≤ n ∧ (0 ≤ n → small (.pair (.slice (.pair (.str) (.pair (.int .i64) (.pair (.int .i64) (.pair (.int .i64) (.pair (.int .i64) (.pair (.bool) (.bool)))))))) (.pair (.slice (.pair (.str) (.pair (.int .i64) (.pair (.int .i64) (.pair (.int .i64) (.pair (.int .i64) (.pair (.int .i64) (.pair (.str) (.int .i64))))))))) (.pair (.slice (.pair (.int .i64) (.pair (.int .i64) (.int .i64)))) (.pair (.int .i64) (.int .i64))))) (p0, p1, p2, p3, p4)) := by
  unfold laws_szCluster
  obtain ⟨n1, e1, l1, m1, s1⟩ := laws_szNodeS_ok p0 left (by omega) (by omega) g0
  simp only [e1, Option.bind_some]
  by_cases c1 : n1 < 0
  · refine ⟨-1, ?_, by omega, by omega, fun h => by omega⟩; simp only [decp c1, cond_true]
  simp only [decn c1, cond_false]
  obtain ⟨n2, e2, l2, m2, s2⟩ := laws_szVmS_ok p1 n1 (by omega) (by omega) g1
  simp only [e2, Option.bind_some]
  by_cases c2 : n2 < 0
  · refine ⟨-1, ?_, by omega, by omega, fun h => by omega⟩; simp only [decp c2, cond_true]
  simp only [decn c2, cond_false]
  obtain ⟨n3, e3, l3, m3, s3⟩ := laws_szTenantS_ok p2 n2 (by omega) (by omega) g2
  simp only [e3, Option.bind_some]
  by_cases c3 : n3 < 0
  · refine ⟨-1, ?_, by omega, by omega, fun h => by omega⟩; simp only [decp c3, cond_true]
  simp only [decn c3, cond_false]
  exact ⟨n3, rfl, by omega, by omega, fun _ => ⟨(s1 (by omega)), (s2 (by omega)), (s3 (by omega)), trivial, trivial⟩⟩
theorem laws_szAnswer_ok (p0 : Int) (p1 : ByteArray) (p2 : ByteArray) (left : Int) (h0 : 0 ≤ left) (h1 : left ≤ 1048576) (g1 : good (.str) p1) (g2 : good (.str) p2) : ∃ n, laws_szAnswer p0 p1 p2 left = some (n, ()) ∧ n ≤ left ∧ -1 ≤ n ∧ (0 ≤ n → small R3 (p0, p1, p2)) := by
  unfold laws_szAnswer
  have w1 : wrap64 (left - (p1.size : Int)) = left - (p1.size : Int) := wrap_id (by have := maxLen_lt g1; omega) (by omega)
  simp only [w1]
  clear w1
  by_cases c1 : (left - (p1.size : Int)) < 0
  · refine ⟨-1, ?_, by omega, by omega, fun h => by omega⟩; simp only [decp c1, cond_true]
  simp only [decn c1, cond_false]
  have w2 : wrap64 ((left - (p1.size : Int)) - (p2.size : Int)) = (left - (p1.size : Int)) - (p2.size : Int) := wrap_id (by have := maxLen_lt g2; omega) (by omega)
  simp only [w2]
  clear w2
  by_cases c2 : ((left - (p1.size : Int)) - (p2.size : Int)) < 0
  · refine ⟨-1, ?_, by omega, by omega, fun h => by omega⟩; simp only [decp c2, cond_true]
  simp only [decn c2, cond_false]
  exact ⟨((left - (p1.size : Int)) - (p2.size : Int)), rfl, by omega, by omega, fun _ => ⟨trivial, (by show p1.size ≤ 1048576; omega), (by show p2.size ≤ 1048576; omega)⟩⟩
theorem laws_szAnswerS_ok (l : List (Int × ByteArray × ByteArray)) (left : Int) (h0 : 0 ≤ left) (h1 : left ≤ 1048576) (g : good (.slice R3) l) : ∃ n, laws_szAnswerS l left = some (n, ()) ∧ n ≤ left ∧ -1 ≤ n ∧ (0 ≤ n → small (.slice R3) l) := by
  unfold laws_szAnswerS
  have hm := maxLen_lt g.1
  have w : wrap64 (left - (l.length : Int)) = left - (l.length : Int) := wrap_id (by omega) (by omega)
  simp only [w]
  clear w
  by_cases c : left - (l.length : Int) < 0
  · refine ⟨-1, ?_, by omega, by omega, fun h => by omega⟩; simp only [decp c, cond_true]
  simp only [decn c, cond_false]
  rcases sz_loop (fun k l left i => laws_szAnswerS_l5 k l left (i : Int)) (small R3) l hm (by
    intro k i left hi a0 a1
    have gl := good_at g i hi
    have d1 : decide ((i : Int) < (l.length : Int)) = true := decp (by omega)
    have d2 : decide ((0 : Int) ≤ (i : Int)) = true := decp (by omega)
    show ∃ n, _ ∧ _ ∧ _ ∧ laws_szAnswerS_l5_step (laws_szAnswerS_l5 k) l left (i : Int) = _
    unfold laws_szAnswerS_l5_step
    obtain ⟨n, e, e1, e2, e3⟩ := laws_szAnswer_ok l[i].1 l[i].2.1 l[i].2.2 left a0 a1 gl.2.1 gl.2.2
    refine ⟨n, e1, e2, e3, ?_⟩
    simp only [d1, d2, rd_at R3 l i hi, e, Option.bind_some, wrap_i i l.length hi hm, Bool.and_true, cond_true]
    try rfl) (by
    intro k left
    show laws_szAnswerS_l5_step (laws_szAnswerS_l5 k) l left (l.length : Int) = _
    unfold laws_szAnswerS_l5_step
    have d1 : decide ((l.length : Int) < (l.length : Int)) = false := decn (by omega)
    simp only [d1, cond_false]
    try rfl) (left - (l.length : Int)) (by omega) (by omega) with q | ⟨n, q1, q2, q3, q4⟩
  · have q' : laws_szAnswerS_l5 K0 l (left - (l.length : Int)) 0 = some (Sum.inl (-1, ())) := q
    simp only [q', Option.bind_some]
    exact ⟨-1, rfl, by omega, by omega, fun h => by omega⟩
  · have q' : laws_szAnswerS_l5 K0 l (left - (l.length : Int)) 0 = some (Sum.inr (n, ())) := q4
    simp only [q', Option.bind_some]
    exact ⟨n, rfl, by omega, by omega, fun _ => small_row (by omega) q3⟩
theorem laws_szStringS_ok (l : List ByteArray) (left : Int) (h0 : 0 ≤ left) (h1 : left ≤ 1048576) (g : good (.slice (.str)) l) : ∃ n, laws_szStringS l left = some (n, ()) ∧ n ≤ left ∧ -1 ≤ n ∧ (0 ≤ n → small (.slice (.str)) l) := by
  unfold laws_szStringS
  have hm := maxLen_lt g.1
  have w : wrap64 (left - (l.length : Int)) = left - (l.length : Int) := wrap_id (by omega) (by omega)
  simp only [w]
  clear w
  by_cases c : left - (l.length : Int) < 0
  · refine ⟨-1, ?_, by omega, by omega, fun h => by omega⟩; simp only [decp c, cond_true]
  simp only [decn c, cond_false]
  rcases sz_loop (fun k l left i => laws_szStringS_l5 k l left (i : Int)) (small (.str)) l hm (by
    intro k i left hi a0 a1
    have gl := good_at g i hi
    have d1 : decide ((i : Int) < (l.length : Int)) = true := decp (by omega)
    have d2 : decide ((0 : Int) ≤ (i : Int)) = true := decp (by omega)
    show ∃ n, _ ∧ _ ∧ _ ∧ laws_szStringS_l5_step (laws_szStringS_l5 k) l left (i : Int) = _
    unfold laws_szStringS_l5_step
    have w : wrap64 (left - ((l[i] : ByteArray).size : Int)) = left - ((l[i] : ByteArray).size : Int) := wrap_id (by have := maxLen_lt gl; omega) (by omega)
    by_cases c : left - ((l[i] : ByteArray).size : Int) < 0
    · refine ⟨-1, by omega, by omega, fun h => by omega, ?_⟩
      simp only [d1, d2, rd_at .str l i hi, w, decp c, Bool.and_true, cond_true]
      rfl
    · refine ⟨left - ((l[i] : ByteArray).size : Int), by omega, by omega, fun h => (by show (l[i] : ByteArray).size ≤ 1048576; omega), ?_⟩
      simp only [d1, d2, rd_at .str l i hi, w, decn c, Bool.and_true, cond_true, cond_false, wrap_i i l.length hi hm]) (by
    intro k left
    show laws_szStringS_l5_step (laws_szStringS_l5 k) l left (l.length : Int) = _
    unfold laws_szStringS_l5_step
    have d1 : decide ((l.length : Int) < (l.length : Int)) = false := decn (by omega)
    simp only [d1, cond_false]
    try rfl) (left - (l.length : Int)) (by omega) (by omega) with q | ⟨n, q1, q2, q3, q4⟩
  · have q' : laws_szStringS_l5 K0 l (left - (l.length : Int)) 0 = some (Sum.inl (-1, ())) := q
    simp only [q', Option.bind_some]
    exact ⟨-1, rfl, by omega, by omega, fun h => by omega⟩
  · have q' : laws_szStringS_l5 K0 l (left - (l.length : Int)) 0 = some (Sum.inr (n, ())) := q4
    simp only [q', Option.bind_some]
    exact ⟨n, rfl, by omega, by omega, fun _ => small_row (by omega) q3⟩
theorem laws_szManJob_ok (p0 : Int) (p1 : ByteArray) (p2 : List ByteArray) (p3 : Int) (p4 : Int) (left : Int) (h0 : 0 ≤ left) (h1 : left ≤ 1048576) (g1 : good (.str) p1) (g2 : good (.slice (.str)) p2) : ∃ n, laws_szManJob p0 p1 p2 p3 p4 left = some (n, ()) ∧ n ≤ left ∧ -1 ≤ n ∧ (0 ≤ n → small R4 (p0, p1, p2, p3, p4)) := by
  unfold laws_szManJob
  have w1 : wrap64 (left - (p1.size : Int)) = left - (p1.size : Int) := wrap_id (by have := maxLen_lt g1; omega) (by omega)
  simp only [w1]
  clear w1
  by_cases c1 : (left - (p1.size : Int)) < 0
  · refine ⟨-1, ?_, by omega, by omega, fun h => by omega⟩; simp only [decp c1, cond_true]
  simp only [decn c1, cond_false]
  obtain ⟨n2, e2, l2, m2, s2⟩ := laws_szStringS_ok p2 (left - (p1.size : Int)) (by omega) (by omega) g2
  simp only [e2, Option.bind_some]
  by_cases c2 : n2 < 0
  · refine ⟨-1, ?_, by omega, by omega, fun h => by omega⟩; simp only [decp c2, cond_true]
  simp only [decn c2, cond_false]
  exact ⟨n2, rfl, by omega, by omega, fun _ => ⟨trivial, (by show p1.size ≤ 1048576; omega), (s2 (by omega)), trivial, trivial⟩⟩
theorem laws_szManJobS_ok (l : List (Int × ByteArray × List ByteArray × Int × Int)) (left : Int) (h0 : 0 ≤ left) (h1 : left ≤ 1048576) (g : good (.slice R4) l) : ∃ n, laws_szManJobS l left = some (n, ()) ∧ n ≤ left ∧ -1 ≤ n ∧ (0 ≤ n → small (.slice R4) l) := by
  unfold laws_szManJobS
  have hm := maxLen_lt g.1
  have w : wrap64 (left - (l.length : Int)) = left - (l.length : Int) := wrap_id (by omega) (by omega)
  simp only [w]
  clear w
  by_cases c : left - (l.length : Int) < 0
  · refine ⟨-1, ?_, by omega, by omega, fun h => by omega⟩; simp only [decp c, cond_true]
  simp only [decn c, cond_false]
  rcases sz_loop (fun k l left i => laws_szManJobS_l5 k l left (i : Int)) (small R4) l hm (by
    intro k i left hi a0 a1
    have gl := good_at g i hi
    have d1 : decide ((i : Int) < (l.length : Int)) = true := decp (by omega)
    have d2 : decide ((0 : Int) ≤ (i : Int)) = true := decp (by omega)
    show ∃ n, _ ∧ _ ∧ _ ∧ laws_szManJobS_l5_step (laws_szManJobS_l5 k) l left (i : Int) = _
    unfold laws_szManJobS_l5_step
    obtain ⟨n, e, e1, e2, e3⟩ := laws_szManJob_ok l[i].1 l[i].2.1 l[i].2.2.1 l[i].2.2.2.1 l[i].2.2.2.2 left a0 a1 gl.2.1 gl.2.2.1
    refine ⟨n, e1, e2, e3, ?_⟩
    simp only [d1, d2, rd_at R4 l i hi, e, Option.bind_some, wrap_i i l.length hi hm, Bool.and_true, cond_true]
    try rfl) (by
    intro k left
    show laws_szManJobS_l5_step (laws_szManJobS_l5 k) l left (l.length : Int) = _
    unfold laws_szManJobS_l5_step
    have d1 : decide ((l.length : Int) < (l.length : Int)) = false := decn (by omega)
    simp only [d1, cond_false]
    try rfl) (left - (l.length : Int)) (by omega) (by omega) with q | ⟨n, q1, q2, q3, q4⟩
  · have q' : laws_szManJobS_l5 K0 l (left - (l.length : Int)) 0 = some (Sum.inl (-1, ())) := q
    simp only [q', Option.bind_some]
    exact ⟨-1, rfl, by omega, by omega, fun h => by omega⟩
  · have q' : laws_szManJobS_l5 K0 l (left - (l.length : Int)) 0 = some (Sum.inr (n, ())) := q4
    simp only [q', Option.bind_some]
    exact ⟨n, rfl, by omega, by omega, fun _ => small_row (by omega) q3⟩
theorem laws_szManager_ok (p0 : List (ByteArray × Int × Int × Int × Int × Bool × Bool)) (p1 : List (ByteArray × Int × Int × Int × Int × Int × ByteArray × Int)) (p2 : List (Int × Int × Int)) (p3 : Int) (p4 : Int) (p5 : List (Int × ByteArray × ByteArray)) (p6 : List (Int × ByteArray × List ByteArray × Int × Int)) (p7 : Int) (left : Int) (h0 : 0 ≤ left) (h1 : left ≤ 1048576) (g0 : good (.slice (.pair (.str) (.pair (.int .i64) (.pair (.int .i64) (.pair (.int .i64) (.pair (.int .i64) (.pair (.bool) (.bool)))))))) p0) (g1 : good (.slice (.pair (.str) (.pair (.int .i64) (.pair (.int .i64) (.pair (.int .i64) (.pair (.int .i64) (.pair (.int .i64) (.pair (.str) (.int .i64))))))))) p1) (g2 : good (.slice (.pair (.int .i64) (.pair (.int .i64) (.int .i64)))) p2) (g5 : good (.slice (.pair (.int .i64) (.pair (.str) (.str)))) p5) (g6 : good (.slice (.pair (.int .i64) (.pair (.str) (.pair (.slice (.str)) (.pair (.int .i64) (.int .i64)))))) p6) : ∃ n, laws_szManager p0 p1 p2 p3 p4 p5 p6 p7 left = some (n, ()) ∧ n ≤ left ∧ -1 ≤ n ∧ (0 ≤ n → small (.pair (.slice (.pair (.str) (.pair (.int .i64) (.pair (.int .i64) (.pair (.int .i64) (.pair (.int .i64) (.pair (.bool) (.bool)))))))) (.pair (.slice (.pair (.str) (.pair (.int .i64) (.pair (.int .i64) (.pair (.int .i64) (.pair (.int .i64) (.pair (.int .i64) (.pair (.str) (.int .i64))))))))) (.pair (.slice (.pair (.int .i64) (.pair (.int .i64) (.int .i64)))) (.pair (.int .i64) (.pair (.int .i64) (.pair (.slice (.pair (.int .i64) (.pair (.str) (.str)))) (.pair (.slice (.pair (.int .i64) (.pair (.str) (.pair (.slice (.str)) (.pair (.int .i64) (.int .i64)))))) (.int .i64)))))))) (p0, p1, p2, p3, p4, p5, p6, p7)) := by
  unfold laws_szManager
  obtain ⟨n1, e1, l1, m1, s1⟩ := laws_szCluster_ok p0 p1 p2 p3 p4 left (by omega) (by omega) g0 g1 g2
  simp only [e1, Option.bind_some]
  by_cases c1 : n1 < 0
  · refine ⟨-1, ?_, by omega, by omega, fun h => by omega⟩; simp only [decp c1, cond_true]
  simp only [decn c1, cond_false]
  obtain ⟨n2, e2, l2, m2, s2⟩ := laws_szAnswerS_ok p5 n1 (by omega) (by omega) g5
  simp only [e2, Option.bind_some]
  by_cases c2 : n2 < 0
  · refine ⟨-1, ?_, by omega, by omega, fun h => by omega⟩; simp only [decp c2, cond_true]
  simp only [decn c2, cond_false]
  obtain ⟨n3, e3, l3, m3, s3⟩ := laws_szManJobS_ok p6 n2 (by omega) (by omega) g6
  simp only [e3, Option.bind_some]
  by_cases c3 : n3 < 0
  · refine ⟨-1, ?_, by omega, by omega, fun h => by omega⟩; simp only [decp c3, cond_true]
  simp only [decn c3, cond_false]
  exact ⟨n3, rfl, by omega, by omega, fun _ => ⟨(s1 (by omega)).1, (s1 (by omega)).2.1, (s1 (by omega)).2.2.1, (s1 (by omega)).2.2.2.1, (s1 (by omega)).2.2.2.2, (s2 (by omega)), (s3 (by omega)), trivial⟩⟩
theorem laws_toNode_ok (p0 : ByteArray) (p1 : Int) (p2 : Int) (p3 : Int) (p4 : Int) (p5 : Bool) (p6 : Bool) : laws_toNode p0 p1 p2 p3 p4 p5 p6 = some (p0, p1, p2, p3, p4, p5, p6, ()) := by
  unfold laws_toNode
  first | rfl | simp only [Option.bind_some]
theorem laws_toNodeS_ok (l : List (ByteArray × Int × Int × Int × Int × Bool × Bool)) (h : lens (.slice R1) l) : laws_toNodeS l = some (l, ()) := by
  unfold laws_toNodeS
  have hl0 := h.1
  rw [decp (show 0 ≤ (l.length : Int) by omega), decp (show (l.length : Int) ≤ (l.length : Int) by omega), roomy_ok (by omega)]
  have q := to_loop (fun k l i ys => laws_toNodeS_l3 k l (i : Int) ys) l (by omega) (by
    intro k i ys hi hy
    show laws_toNodeS_l3_step (laws_toNodeS_l3 k) l (i : Int) ys = _
    unfold laws_toNodeS_l3_step
    have hl := lens_at h i hi
    have d1 : decide ((i : Int) < (l.length : Int)) = true := decp (by omega)
    have d2 : decide ((0 : Int) ≤ (i : Int)) = true := decp (by omega)
    have d3 : decide ((i : Int) < (ys.length : Int)) = true := decp (by omega)
    have e := laws_toNode_ok l[i].1 l[i].2.1 l[i].2.2.1 l[i].2.2.2.1 l[i].2.2.2.2.1 l[i].2.2.2.2.2.1 l[i].2.2.2.2.2.2
    simp only [d1, d2, d3, rd_at R1 l i hi, e, Option.bind_some, wrap_i i l.length hi (by omega), Int.toNat_natCast, Bool.and_true, cond_true]
    try rfl) (by
    intro k ys
    show laws_toNodeS_l3_step (laws_toNodeS_l3 k) l (l.length : Int) ys = _
    unfold laws_toNodeS_l3_step
    have d1 : decide ((l.length : Int) < (l.length : Int)) = false := decn (by omega)
    simp only [d1, cond_false]
    try rfl) (List.replicate ((l.length : Int).toNat) (Ty.dflt R1)) (by simp)
  have q' : laws_toNodeS_l3 K0 l 0 (List.replicate ((l.length : Int).toNat) (Ty.dflt R1)) = some (l, ()) := q
  simp only [q', Option.bind_some, Bool.and_true, cond_true]
theorem laws_toVm_ok (p0 : ByteArray) (p1 : Int) (p2 : Int) (p3 : Int) (p4 : Int) (p5 : Int) (p6 : ByteArray) (p7 : Int) : laws_toVm p0 p1 p2 p3 p4 p5 p6 p7 = some (p0, p1, p2, p3, p4, p5, p6, p7, ()) := by
  unfold laws_toVm
  first | rfl | simp only [Option.bind_some]
theorem laws_toVmS_ok (l : List (ByteArray × Int × Int × Int × Int × Int × ByteArray × Int)) (h : lens (.slice R2) l) : laws_toVmS l = some (l, ()) := by
  unfold laws_toVmS
  have hl0 := h.1
  rw [decp (show 0 ≤ (l.length : Int) by omega), decp (show (l.length : Int) ≤ (l.length : Int) by omega), roomy_ok (by omega)]
  have q := to_loop (fun k l i ys => laws_toVmS_l3 k l (i : Int) ys) l (by omega) (by
    intro k i ys hi hy
    show laws_toVmS_l3_step (laws_toVmS_l3 k) l (i : Int) ys = _
    unfold laws_toVmS_l3_step
    have hl := lens_at h i hi
    have d1 : decide ((i : Int) < (l.length : Int)) = true := decp (by omega)
    have d2 : decide ((0 : Int) ≤ (i : Int)) = true := decp (by omega)
    have d3 : decide ((i : Int) < (ys.length : Int)) = true := decp (by omega)
    have e := laws_toVm_ok l[i].1 l[i].2.1 l[i].2.2.1 l[i].2.2.2.1 l[i].2.2.2.2.1 l[i].2.2.2.2.2.1 l[i].2.2.2.2.2.2.1 l[i].2.2.2.2.2.2.2
    simp only [d1, d2, d3, rd_at R2 l i hi, e, Option.bind_some, wrap_i i l.length hi (by omega), Int.toNat_natCast, Bool.and_true, cond_true]
    try rfl) (by
    intro k ys
    show laws_toVmS_l3_step (laws_toVmS_l3 k) l (l.length : Int) ys = _
    unfold laws_toVmS_l3_step
    have d1 : decide ((l.length : Int) < (l.length : Int)) = false := decn (by omega)
    simp only [d1, cond_false]
    try rfl) (List.replicate ((l.length : Int).toNat) (Ty.dflt R2)) (by simp)
  have q' : laws_toVmS_l3 K0 l 0 (List.replicate ((l.length : Int).toNat) (Ty.dflt R2)) = some (l, ()) := q
  simp only [q', Option.bind_some, Bool.and_true, cond_true]
theorem laws_toTenant_ok (p0 : Int) (p1 : Int) (p2 : Int) : laws_toTenant p0 p1 p2 = some (p0, p1, p2, ()) := by
  unfold laws_toTenant
  first | rfl | simp only [Option.bind_some]
theorem laws_toTenantS_ok (l : List (Int × Int × Int)) (h : lens (.slice R5) l) : laws_toTenantS l = some (l, ()) := by
  unfold laws_toTenantS
  have hl0 := h.1
  rw [decp (show 0 ≤ (l.length : Int) by omega), decp (show (l.length : Int) ≤ (l.length : Int) by omega), roomy_ok (by omega)]
  have q := to_loop (fun k l i ys => laws_toTenantS_l3 k l (i : Int) ys) l (by omega) (by
    intro k i ys hi hy
    show laws_toTenantS_l3_step (laws_toTenantS_l3 k) l (i : Int) ys = _
    unfold laws_toTenantS_l3_step
    have hl := lens_at h i hi
    have d1 : decide ((i : Int) < (l.length : Int)) = true := decp (by omega)
    have d2 : decide ((0 : Int) ≤ (i : Int)) = true := decp (by omega)
    have d3 : decide ((i : Int) < (ys.length : Int)) = true := decp (by omega)
    have e := laws_toTenant_ok l[i].1 l[i].2.1 l[i].2.2
    simp only [d1, d2, d3, rd_at R5 l i hi, e, Option.bind_some, wrap_i i l.length hi (by omega), Int.toNat_natCast, Bool.and_true, cond_true]
    try rfl) (by
    intro k ys
    show laws_toTenantS_l3_step (laws_toTenantS_l3 k) l (l.length : Int) ys = _
    unfold laws_toTenantS_l3_step
    have d1 : decide ((l.length : Int) < (l.length : Int)) = false := decn (by omega)
    simp only [d1, cond_false]
    try rfl) (List.replicate ((l.length : Int).toNat) (Ty.dflt R5)) (by simp)
  have q' : laws_toTenantS_l3 K0 l 0 (List.replicate ((l.length : Int).toNat) (Ty.dflt R5)) = some (l, ()) := q
  simp only [q', Option.bind_some, Bool.and_true, cond_true]
theorem laws_toCluster_ok (p0 : List (ByteArray × Int × Int × Int × Int × Bool × Bool)) (p1 : List (ByteArray × Int × Int × Int × Int × Int × ByteArray × Int)) (p2 : List (Int × Int × Int)) (p3 : Int) (p4 : Int) (h0 : lens (.slice (.pair (.str) (.pair (.int .i64) (.pair (.int .i64) (.pair (.int .i64) (.pair (.int .i64) (.pair (.bool) (.bool)))))))) p0) (h1 : lens (.slice (.pair (.str) (.pair (.int .i64) (.pair (.int .i64) (.pair (.int .i64) (.pair (.int .i64) (.pair (.int .i64) (.pair (.str) (.int .i64))))))))) p1) (h2 : lens (.slice (.pair (.int .i64) (.pair (.int .i64) (.int .i64)))) p2) : laws_toCluster p0 p1 p2 p3 p4 = some (p0, p1, p2, p3, p4, ()) := by
  unfold laws_toCluster
  first | rfl | simp only [laws_toNodeS_ok, laws_toVmS_ok, laws_toTenantS_ok, h0, h1, h2, Option.bind_some]
theorem laws_toAnswer_ok (p0 : Int) (p1 : ByteArray) (p2 : ByteArray) : laws_toAnswer p0 p1 p2 = some (p0, p1, p2, ()) := by
  unfold laws_toAnswer
  first | rfl | simp only [Option.bind_some]
theorem laws_toAnswerS_ok (l : List (Int × ByteArray × ByteArray)) (h : lens (.slice R3) l) : laws_toAnswerS l = some (l, ()) := by
  unfold laws_toAnswerS
  have hl0 := h.1
  rw [decp (show 0 ≤ (l.length : Int) by omega), decp (show (l.length : Int) ≤ (l.length : Int) by omega), roomy_ok (by omega)]
  have q := to_loop (fun k l i ys => laws_toAnswerS_l3 k l (i : Int) ys) l (by omega) (by
    intro k i ys hi hy
    show laws_toAnswerS_l3_step (laws_toAnswerS_l3 k) l (i : Int) ys = _
    unfold laws_toAnswerS_l3_step
    have hl := lens_at h i hi
    have d1 : decide ((i : Int) < (l.length : Int)) = true := decp (by omega)
    have d2 : decide ((0 : Int) ≤ (i : Int)) = true := decp (by omega)
    have d3 : decide ((i : Int) < (ys.length : Int)) = true := decp (by omega)
    have e := laws_toAnswer_ok l[i].1 l[i].2.1 l[i].2.2
    simp only [d1, d2, d3, rd_at R3 l i hi, e, Option.bind_some, wrap_i i l.length hi (by omega), Int.toNat_natCast, Bool.and_true, cond_true]
    try rfl) (by
    intro k ys
    show laws_toAnswerS_l3_step (laws_toAnswerS_l3 k) l (l.length : Int) ys = _
    unfold laws_toAnswerS_l3_step
    have d1 : decide ((l.length : Int) < (l.length : Int)) = false := decn (by omega)
    simp only [d1, cond_false]
    try rfl) (List.replicate ((l.length : Int).toNat) (Ty.dflt R3)) (by simp)
  have q' : laws_toAnswerS_l3 K0 l 0 (List.replicate ((l.length : Int).toNat) (Ty.dflt R3)) = some (l, ()) := q
  simp only [q', Option.bind_some, Bool.and_true, cond_true]
theorem laws_toStringS_ok (l : List ByteArray) (h : lens (.slice (.str)) l) : laws_toStringS l = some (l, ()) := by
  unfold laws_toStringS
  have hl0 := h.1
  rw [decp (show 0 ≤ (l.length : Int) by omega), decp (show (l.length : Int) ≤ (l.length : Int) by omega), roomy_ok (by omega)]
  have q := to_loop (fun k l i ys => laws_toStringS_l3 k l (i : Int) ys) l (by omega) (by
    intro k i ys hi hy
    show laws_toStringS_l3_step (laws_toStringS_l3 k) l (i : Int) ys = _
    unfold laws_toStringS_l3_step
    have hl := lens_at h i hi
    have d1 : decide ((i : Int) < (l.length : Int)) = true := decp (by omega)
    have d2 : decide ((0 : Int) ≤ (i : Int)) = true := decp (by omega)
    have d3 : decide ((i : Int) < (ys.length : Int)) = true := decp (by omega)
    simp only [d1, d2, d3, rd_at (.str) l i hi, Option.bind_some, wrap_i i l.length hi (by omega), Int.toNat_natCast, Bool.and_true, cond_true]
    try rfl) (by
    intro k ys
    show laws_toStringS_l3_step (laws_toStringS_l3 k) l (l.length : Int) ys = _
    unfold laws_toStringS_l3_step
    have d1 : decide ((l.length : Int) < (l.length : Int)) = false := decn (by omega)
    simp only [d1, cond_false]
    try rfl) (List.replicate ((l.length : Int).toNat) (Ty.dflt (.str))) (by simp)
  have q' : laws_toStringS_l3 K0 l 0 (List.replicate ((l.length : Int).toNat) (Ty.dflt (.str))) = some (l, ()) := q
  simp only [q', Option.bind_some, Bool.and_true, cond_true]
theorem laws_toManJob_ok (p0 : Int) (p1 : ByteArray) (p2 : List ByteArray) (p3 : Int) (p4 : Int) (h2 : lens (.slice (.str)) p2) : laws_toManJob p0 p1 p2 p3 p4 = some (p0, p1, p2, p3, p4, ()) := by
  unfold laws_toManJob
  first | rfl | simp only [laws_toStringS_ok, h2, Option.bind_some]
theorem laws_toManJobS_ok (l : List (Int × ByteArray × List ByteArray × Int × Int)) (h : lens (.slice R4) l) : laws_toManJobS l = some (l, ()) := by
  unfold laws_toManJobS
  have hl0 := h.1
  rw [decp (show 0 ≤ (l.length : Int) by omega), decp (show (l.length : Int) ≤ (l.length : Int) by omega), roomy_ok (by omega)]
  have q := to_loop (fun k l i ys => laws_toManJobS_l3 k l (i : Int) ys) l (by omega) (by
    intro k i ys hi hy
    show laws_toManJobS_l3_step (laws_toManJobS_l3 k) l (i : Int) ys = _
    unfold laws_toManJobS_l3_step
    have hl := lens_at h i hi
    have d1 : decide ((i : Int) < (l.length : Int)) = true := decp (by omega)
    have d2 : decide ((0 : Int) ≤ (i : Int)) = true := decp (by omega)
    have d3 : decide ((i : Int) < (ys.length : Int)) = true := decp (by omega)
    have e := laws_toManJob_ok l[i].1 l[i].2.1 l[i].2.2.1 l[i].2.2.2.1 l[i].2.2.2.2 hl.2.2.1
    simp only [d1, d2, d3, rd_at R4 l i hi, e, Option.bind_some, wrap_i i l.length hi (by omega), Int.toNat_natCast, Bool.and_true, cond_true]
    try rfl) (by
    intro k ys
    show laws_toManJobS_l3_step (laws_toManJobS_l3 k) l (l.length : Int) ys = _
    unfold laws_toManJobS_l3_step
    have d1 : decide ((l.length : Int) < (l.length : Int)) = false := decn (by omega)
    simp only [d1, cond_false]
    try rfl) (List.replicate ((l.length : Int).toNat) (Ty.dflt R4)) (by simp)
  have q' : laws_toManJobS_l3 K0 l 0 (List.replicate ((l.length : Int).toNat) (Ty.dflt R4)) = some (l, ()) := q
  simp only [q', Option.bind_some, Bool.and_true, cond_true]
theorem laws_toManager_ok (p0 : List (ByteArray × Int × Int × Int × Int × Bool × Bool)) (p1 : List (ByteArray × Int × Int × Int × Int × Int × ByteArray × Int)) (p2 : List (Int × Int × Int)) (p3 : Int) (p4 : Int) (p5 : List (Int × ByteArray × ByteArray)) (p6 : List (Int × ByteArray × List ByteArray × Int × Int)) (p7 : Int) (h0 : lens (.slice (.pair (.str) (.pair (.int .i64) (.pair (.int .i64) (.pair (.int .i64) (.pair (.int .i64) (.pair (.bool) (.bool)))))))) p0) (h1 : lens (.slice (.pair (.str) (.pair (.int .i64) (.pair (.int .i64) (.pair (.int .i64) (.pair (.int .i64) (.pair (.int .i64) (.pair (.str) (.int .i64))))))))) p1) (h2 : lens (.slice (.pair (.int .i64) (.pair (.int .i64) (.int .i64)))) p2) (h5 : lens (.slice (.pair (.int .i64) (.pair (.str) (.str)))) p5) (h6 : lens (.slice (.pair (.int .i64) (.pair (.str) (.pair (.slice (.str)) (.pair (.int .i64) (.int .i64)))))) p6) : laws_toManager p0 p1 p2 p3 p4 p5 p6 p7 = some (p0, p1, p2, p3, p4, p5, p6, p7, ()) := by
  unfold laws_toManager
  first | rfl | simp only [laws_toCluster_ok, laws_toAnswerS_ok, laws_toManJobS_ok, h0, h1, h2, h5, h6, Option.bind_some]
theorem laws_eqNode_ok (p0 : ByteArray) (p1 : Int) (p2 : Int) (p3 : Int) (p4 : Int) (p5 : Bool) (p6 : Bool) : laws_eqNode p0 p1 p2 p3 p4 p5 p6 p0 p1 p2 p3 p4 p5 p6 = some (true, ()) := by
  unfold laws_eqNode
  simp [seq_self]
theorem laws_eqNodeS_ok (l : List (ByteArray × Int × Int × Int × Int × Bool × Bool)) (h : lens (.slice R1) l) : laws_eqNodeS l l = some (true, ()) := by
  unfold laws_eqNodeS
  have hl0 := h.1
  have q := eq_loop (fun k l l2 i => laws_eqNodeS_l4 k l l2 (i : Int)) l (by omega) (by
    intro k i hi
    show laws_eqNodeS_l4_step (laws_eqNodeS_l4 k) l l (i : Int) = _
    unfold laws_eqNodeS_l4_step
    have hl := lens_at h i hi
    have d1 : decide ((i : Int) < (l.length : Int)) = true := decp (by omega)
    have d2 : decide ((0 : Int) ≤ (i : Int)) = true := decp (by omega)
    have e := laws_eqNode_ok l[i].1 l[i].2.1 l[i].2.2.1 l[i].2.2.2.1 l[i].2.2.2.2.1 l[i].2.2.2.2.2.1 l[i].2.2.2.2.2.2
    simp only [d1, d2, rd_at R1 l i hi, e, Option.bind_some, wrap_i i l.length hi (by omega), Bool.and_true, cond_true, Bool.not_true, cond_false, bne_self_eq_false, seq_ne_self, beq_self_eq_true]
    try rfl) (by
    intro k
    show laws_eqNodeS_l4_step (laws_eqNodeS_l4 k) l l (l.length : Int) = _
    unfold laws_eqNodeS_l4_step
    have d1 : decide ((l.length : Int) < (l.length : Int)) = false := decn (by omega)
    simp only [d1, cond_false]
    try rfl)
  have q' : laws_eqNodeS_l4 K0 l l 0 = some (Sum.inr ()) := q
  simp only [bne_self_eq_false, cond_false, q', Option.bind_some]
theorem laws_eqVm_ok (p0 : ByteArray) (p1 : Int) (p2 : Int) (p3 : Int) (p4 : Int) (p5 : Int) (p6 : ByteArray) (p7 : Int) : laws_eqVm p0 p1 p2 p3 p4 p5 p6 p7 p0 p1 p2 p3 p4 p5 p6 p7 = some (true, ()) := by
  unfold laws_eqVm
  simp [seq_self]
theorem laws_eqVmS_ok (l : List (ByteArray × Int × Int × Int × Int × Int × ByteArray × Int)) (h : lens (.slice R2) l) : laws_eqVmS l l = some (true, ()) := by
  unfold laws_eqVmS
  have hl0 := h.1
  have q := eq_loop (fun k l l2 i => laws_eqVmS_l4 k l l2 (i : Int)) l (by omega) (by
    intro k i hi
    show laws_eqVmS_l4_step (laws_eqVmS_l4 k) l l (i : Int) = _
    unfold laws_eqVmS_l4_step
    have hl := lens_at h i hi
    have d1 : decide ((i : Int) < (l.length : Int)) = true := decp (by omega)
    have d2 : decide ((0 : Int) ≤ (i : Int)) = true := decp (by omega)
    have e := laws_eqVm_ok l[i].1 l[i].2.1 l[i].2.2.1 l[i].2.2.2.1 l[i].2.2.2.2.1 l[i].2.2.2.2.2.1 l[i].2.2.2.2.2.2.1 l[i].2.2.2.2.2.2.2
    simp only [d1, d2, rd_at R2 l i hi, e, Option.bind_some, wrap_i i l.length hi (by omega), Bool.and_true, cond_true, Bool.not_true, cond_false, bne_self_eq_false, seq_ne_self, beq_self_eq_true]
    try rfl) (by
    intro k
    show laws_eqVmS_l4_step (laws_eqVmS_l4 k) l l (l.length : Int) = _
    unfold laws_eqVmS_l4_step
    have d1 : decide ((l.length : Int) < (l.length : Int)) = false := decn (by omega)
    simp only [d1, cond_false]
    try rfl)
  have q' : laws_eqVmS_l4 K0 l l 0 = some (Sum.inr ()) := q
  simp only [bne_self_eq_false, cond_false, q', Option.bind_some]
theorem laws_eqTenant_ok (p0 : Int) (p1 : Int) (p2 : Int) : laws_eqTenant p0 p1 p2 p0 p1 p2 = some (true, ()) := by
  unfold laws_eqTenant
  simp [seq_self]
theorem laws_eqTenantS_ok (l : List (Int × Int × Int)) (h : lens (.slice R5) l) : laws_eqTenantS l l = some (true, ()) := by
  unfold laws_eqTenantS
  have hl0 := h.1
  have q := eq_loop (fun k l l2 i => laws_eqTenantS_l4 k l l2 (i : Int)) l (by omega) (by
    intro k i hi
    show laws_eqTenantS_l4_step (laws_eqTenantS_l4 k) l l (i : Int) = _
    unfold laws_eqTenantS_l4_step
    have hl := lens_at h i hi
    have d1 : decide ((i : Int) < (l.length : Int)) = true := decp (by omega)
    have d2 : decide ((0 : Int) ≤ (i : Int)) = true := decp (by omega)
    have e := laws_eqTenant_ok l[i].1 l[i].2.1 l[i].2.2
    simp only [d1, d2, rd_at R5 l i hi, e, Option.bind_some, wrap_i i l.length hi (by omega), Bool.and_true, cond_true, Bool.not_true, cond_false, bne_self_eq_false, seq_ne_self, beq_self_eq_true]
    try rfl) (by
    intro k
    show laws_eqTenantS_l4_step (laws_eqTenantS_l4 k) l l (l.length : Int) = _
    unfold laws_eqTenantS_l4_step
    have d1 : decide ((l.length : Int) < (l.length : Int)) = false := decn (by omega)
    simp only [d1, cond_false]
    try rfl)
  have q' : laws_eqTenantS_l4 K0 l l 0 = some (Sum.inr ()) := q
  simp only [bne_self_eq_false, cond_false, q', Option.bind_some]
theorem laws_eqCluster_ok (p0 : List (ByteArray × Int × Int × Int × Int × Bool × Bool)) (p1 : List (ByteArray × Int × Int × Int × Int × Int × ByteArray × Int)) (p2 : List (Int × Int × Int)) (p3 : Int) (p4 : Int) (h0 : lens (.slice (.pair (.str) (.pair (.int .i64) (.pair (.int .i64) (.pair (.int .i64) (.pair (.int .i64) (.pair (.bool) (.bool)))))))) p0) (h1 : lens (.slice (.pair (.str) (.pair (.int .i64) (.pair (.int .i64) (.pair (.int .i64) (.pair (.int .i64) (.pair (.int .i64) (.pair (.str) (.int .i64))))))))) p1) (h2 : lens (.slice (.pair (.int .i64) (.pair (.int .i64) (.int .i64)))) p2) : laws_eqCluster p0 p1 p2 p3 p4 p0 p1 p2 p3 p4 = some (true, ()) := by
  unfold laws_eqCluster
  simp [laws_eqNodeS_ok, laws_eqVmS_ok, laws_eqTenantS_ok, h0, h1, h2, seq_self]
theorem laws_eqAnswer_ok (p0 : Int) (p1 : ByteArray) (p2 : ByteArray) : laws_eqAnswer p0 p1 p2 p0 p1 p2 = some (true, ()) := by
  unfold laws_eqAnswer
  simp [seq_self]
theorem laws_eqAnswerS_ok (l : List (Int × ByteArray × ByteArray)) (h : lens (.slice R3) l) : laws_eqAnswerS l l = some (true, ()) := by
  unfold laws_eqAnswerS
  have hl0 := h.1
  have q := eq_loop (fun k l l2 i => laws_eqAnswerS_l4 k l l2 (i : Int)) l (by omega) (by
    intro k i hi
    show laws_eqAnswerS_l4_step (laws_eqAnswerS_l4 k) l l (i : Int) = _
    unfold laws_eqAnswerS_l4_step
    have hl := lens_at h i hi
    have d1 : decide ((i : Int) < (l.length : Int)) = true := decp (by omega)
    have d2 : decide ((0 : Int) ≤ (i : Int)) = true := decp (by omega)
    have e := laws_eqAnswer_ok l[i].1 l[i].2.1 l[i].2.2
    simp only [d1, d2, rd_at R3 l i hi, e, Option.bind_some, wrap_i i l.length hi (by omega), Bool.and_true, cond_true, Bool.not_true, cond_false, bne_self_eq_false, seq_ne_self, beq_self_eq_true]
    try rfl) (by
    intro k
    show laws_eqAnswerS_l4_step (laws_eqAnswerS_l4 k) l l (l.length : Int) = _
    unfold laws_eqAnswerS_l4_step
    have d1 : decide ((l.length : Int) < (l.length : Int)) = false := decn (by omega)
    simp only [d1, cond_false]
    try rfl)
  have q' : laws_eqAnswerS_l4 K0 l l 0 = some (Sum.inr ()) := q
  simp only [bne_self_eq_false, cond_false, q', Option.bind_some]
theorem laws_eqStringS_ok (l : List ByteArray) (h : lens (.slice (.str)) l) : laws_eqStringS l l = some (true, ()) := by
  unfold laws_eqStringS
  have hl0 := h.1
  have q := eq_loop (fun k l l2 i => laws_eqStringS_l4 k l l2 (i : Int)) l (by omega) (by
    intro k i hi
    show laws_eqStringS_l4_step (laws_eqStringS_l4 k) l l (i : Int) = _
    unfold laws_eqStringS_l4_step
    have hl := lens_at h i hi
    have d1 : decide ((i : Int) < (l.length : Int)) = true := decp (by omega)
    have d2 : decide ((0 : Int) ≤ (i : Int)) = true := decp (by omega)
    simp only [d1, d2, rd_at (.str) l i hi, Option.bind_some, wrap_i i l.length hi (by omega), Bool.and_true, cond_true, Bool.not_true, cond_false, bne_self_eq_false, seq_ne_self, beq_self_eq_true]
    try rfl) (by
    intro k
    show laws_eqStringS_l4_step (laws_eqStringS_l4 k) l l (l.length : Int) = _
    unfold laws_eqStringS_l4_step
    have d1 : decide ((l.length : Int) < (l.length : Int)) = false := decn (by omega)
    simp only [d1, cond_false]
    try rfl)
  have q' : laws_eqStringS_l4 K0 l l 0 = some (Sum.inr ()) := q
  simp only [bne_self_eq_false, cond_false, q', Option.bind_some]
theorem laws_eqManJob_ok (p0 : Int) (p1 : ByteArray) (p2 : List ByteArray) (p3 : Int) (p4 : Int) (h2 : lens (.slice (.str)) p2) : laws_eqManJob p0 p1 p2 p3 p4 p0 p1 p2 p3 p4 = some (true, ()) := by
  unfold laws_eqManJob
  simp [laws_eqStringS_ok, h2, seq_self]
theorem laws_eqManJobS_ok (l : List (Int × ByteArray × List ByteArray × Int × Int)) (h : lens (.slice R4) l) : laws_eqManJobS l l = some (true, ()) := by
  unfold laws_eqManJobS
  have hl0 := h.1
  have q := eq_loop (fun k l l2 i => laws_eqManJobS_l4 k l l2 (i : Int)) l (by omega) (by
    intro k i hi
    show laws_eqManJobS_l4_step (laws_eqManJobS_l4 k) l l (i : Int) = _
    unfold laws_eqManJobS_l4_step
    have hl := lens_at h i hi
    have d1 : decide ((i : Int) < (l.length : Int)) = true := decp (by omega)
    have d2 : decide ((0 : Int) ≤ (i : Int)) = true := decp (by omega)
    have e := laws_eqManJob_ok l[i].1 l[i].2.1 l[i].2.2.1 l[i].2.2.2.1 l[i].2.2.2.2 hl.2.2.1
    simp only [d1, d2, rd_at R4 l i hi, e, Option.bind_some, wrap_i i l.length hi (by omega), Bool.and_true, cond_true, Bool.not_true, cond_false, bne_self_eq_false, seq_ne_self, beq_self_eq_true]
    try rfl) (by
    intro k
    show laws_eqManJobS_l4_step (laws_eqManJobS_l4 k) l l (l.length : Int) = _
    unfold laws_eqManJobS_l4_step
    have d1 : decide ((l.length : Int) < (l.length : Int)) = false := decn (by omega)
    simp only [d1, cond_false]
    try rfl)
  have q' : laws_eqManJobS_l4 K0 l l 0 = some (Sum.inr ()) := q
  simp only [bne_self_eq_false, cond_false, q', Option.bind_some]
theorem laws_eqManager_ok (p0 : List (ByteArray × Int × Int × Int × Int × Bool × Bool)) (p1 : List (ByteArray × Int × Int × Int × Int × Int × ByteArray × Int)) (p2 : List (Int × Int × Int)) (p3 : Int) (p4 : Int) (p5 : List (Int × ByteArray × ByteArray)) (p6 : List (Int × ByteArray × List ByteArray × Int × Int)) (p7 : Int) (h0 : lens (.slice (.pair (.str) (.pair (.int .i64) (.pair (.int .i64) (.pair (.int .i64) (.pair (.int .i64) (.pair (.bool) (.bool)))))))) p0) (h1 : lens (.slice (.pair (.str) (.pair (.int .i64) (.pair (.int .i64) (.pair (.int .i64) (.pair (.int .i64) (.pair (.int .i64) (.pair (.str) (.int .i64))))))))) p1) (h2 : lens (.slice (.pair (.int .i64) (.pair (.int .i64) (.int .i64)))) p2) (h5 : lens (.slice (.pair (.int .i64) (.pair (.str) (.str)))) p5) (h6 : lens (.slice (.pair (.int .i64) (.pair (.str) (.pair (.slice (.str)) (.pair (.int .i64) (.int .i64)))))) p6) : laws_eqManager p0 p1 p2 p3 p4 p5 p6 p7 p0 p1 p2 p3 p4 p5 p6 p7 = some (true, ()) := by
  unfold laws_eqManager
  simp [laws_eqCluster_ok, laws_eqAnswerS_ok, laws_eqManJobS_ok, h0, h1, h2, h5, h6, seq_self]
/-- A walk over a row that may end early. -/
def foldE {α S E : Type} (st : S → α → E ⊕ S) : List α → S → E ⊕ S
  | [], s => .inr s
  | x :: l, s => match st s x with
    | .inl e => .inl e
    | .inr s => foldE st l s
theorem foldE_loop {α S E R : Type} (F : Nat → Nat → S → Option R) (l : List α) (st : S → α → E ⊕ S) (ex : E → R) (fin : S → R) (hl : l.length ≤ 9223372036854775807)
    (hF : ∀ (k i : Nat) (s : S) (hi : i < l.length), F (k + 1) i s = match st s l[i] with
      | .inl e => some (ex e)
      | .inr s => F k (i + 1) s)
    (hE : ∀ (k : Nat) (s : S), F (k + 1) l.length s = some (fin s)) (s : S) : F K0 0 s = some (match foldE st l s with
      | .inl e => ex e
      | .inr s => fin s) := by
  have key : ∀ (d k i : Nat) (s : S), i + d = l.length → d < k → F k i s = some (match foldE st (l.drop i) s with
      | .inl e => ex e
      | .inr s => fin s) := by
    intro d
    induction d with
    | zero =>
      intro k i s hi hk
      obtain ⟨k, rfl⟩ : ∃ q, k = q + 1 := ⟨k - 1, by omega⟩
      have : i = l.length := by omega
      subst this
      rw [hE, List.drop_length]
      rfl
    | succ d ih =>
      intro k i s hi hk
      obtain ⟨k, rfl⟩ : ∃ q, k = q + 1 := ⟨k - 1, by omega⟩
      have hlt : i < l.length := by omega
      rw [hF k i s hlt, List.drop_eq_getElem_cons hlt]
      simp only [foldE]
      cases st s l[i] with
      | inl r => rfl
      | inr s' => exact ih k (i + 1) s' (by omega) (by omega)
  have := key l.length K0 0 s (by omega) (by rw [K0_eq]; omega)
  simpa using this
theorem foldE_filter {α S E : Type} (st : S → α → E ⊕ S) (p : α → Bool) : ∀ (l : List α) (s : S), foldE st (l.filter p) s = foldE (fun s x => bif p x then st s x else .inr s) l s
  | [], s => rfl
  | x :: l, s => by
    cases h : p x with
    | false => rw [List.filter_cons_of_neg (by simp [h])]; simp only [foldE, h, cond_false]; exact foldE_filter st p l s
    | true =>
      rw [List.filter_cons_of_pos h]
      simp only [foldE, h, cond_true]
      cases st s x with
      | inl r => rfl
      | inr s' => exact foldE_filter st p l s'
theorem filter_loop {α R : Type} (F : Nat → Nat → List α → Option R) (l : List α) (p : α → Bool) (fin : List α → R) (hl : l.length ≤ 9223372036854775807)
    (hF : ∀ (k i : Nat) (s : List α) (hi : i < l.length), s.length ≤ i → F (k + 1) i s = F k (i + 1) (bif p l[i] then s ++ [l[i]] else s))
    (hE : ∀ (k : Nat) (s : List α), F (k + 1) l.length s = some (fin s)) : F K0 0 [] = some (fin (l.filter p)) := by
  have key : ∀ (d k i : Nat) (s : List α), i + d = l.length → d < k → s.length ≤ i → F k i s = some (fin (s ++ (l.drop i).filter p)) := by
    intro d
    induction d with
    | zero =>
      intro k i s hi hk hs
      obtain ⟨k, rfl⟩ : ∃ q, k = q + 1 := ⟨k - 1, by omega⟩
      have : i = l.length := by omega
      subst this
      rw [hE, List.drop_length]
      simp
    | succ d ih =>
      intro k i s hi hk hs
      obtain ⟨k, rfl⟩ : ∃ q, k = q + 1 := ⟨k - 1, by omega⟩
      have hlt : i < l.length := by omega
      rw [hF k i s hlt hs, List.drop_eq_getElem_cons hlt]
      cases h : p l[i] with
      | true =>
        rw [cond_true, ih k (i + 1) _ (by omega) (by omega) (by simp; omega), List.filter_cons_of_pos h]
        simp
      | false =>
        rw [cond_false, ih k (i + 1) _ (by omega) (by omega) (by omega), List.filter_cons_of_neg (by simp [h])]
  have := key l.length K0 0 [] (by omega) (by rw [K0_eq]; omega) (by simp)
  simpa using this
/-- The first index from i on at which p holds. -/
def findN (p : Nat → Bool) : Nat → Nat → Option Nat
  | 0, _ => none
  | d + 1, i => bif p i then some i else findN p d (i + 1)
theorem find_loop {R : Type} (F : Nat → Nat → Option R) (n : Nat) (p : Nat → Bool) (hit : Nat → R) (miss : R) (hn : n ≤ 9223372036854775807)
    (hF : ∀ (k i : Nat), i < n → F (k + 1) i = bif p i then some (hit i) else F k (i + 1)) (hE : ∀ (k : Nat), F (k + 1) n = some miss) :
    F K0 0 = some (match findN p n 0 with
      | some i => hit i
      | none => miss) := by
  have key : ∀ (d k i : Nat), i + d = n → d < k → F k i = some (match findN p d i with
      | some i => hit i
      | none => miss) := by
    intro d
    induction d with
    | zero =>
      intro k i hi hk
      obtain ⟨k, rfl⟩ : ∃ q, k = q + 1 := ⟨k - 1, by omega⟩
      have : i = n := by omega
      subst this
      rw [hE]
      rfl
    | succ d ih =>
      intro k i hi hk
      obtain ⟨k, rfl⟩ : ∃ q, k = q + 1 := ⟨k - 1, by omega⟩
      rw [hF k i (by omega)]
      simp only [findN]
      cases p i with
      | true => rfl
      | false => exact ih k (i + 1) (by omega) (by omega)
  exact key n K0 0 (by omega) (by rw [K0_eq]; omega)
theorem findN_some {p : Nat → Bool} : ∀ {d i j : Nat}, findN p d i = some j → i ≤ j ∧ j < i + d ∧ p j = true
  | 0, _, _, h => by simp [findN] at h
  | d + 1, i, j, h => by
    simp only [findN] at h
    cases hp : p i with
    | true =>
      rw [hp, cond_true, Option.some.injEq] at h
      subst h
      exact ⟨Nat.le_refl _, by omega, hp⟩
    | false =>
      rw [hp, cond_false] at h
      obtain ⟨h1, h2, h3⟩ := findN_some h
      exact ⟨by omega, by omega, h3⟩
theorem findN_none {p : Nat → Bool} : ∀ {d i : Nat}, findN p d i = none → ∀ j, i ≤ j → j < i + d → p j = false
  | 0, i, _, j, h1, h2 => by omega
  | d + 1, i, h, j, h1, h2 => by
    simp only [findN] at h
    cases hp : p i with
    | true => rw [hp, cond_true] at h; cases h
    | false =>
      rw [hp, cond_false] at h
      by_cases e : j = i
      · rw [e]; exact hp
      · exact findN_none h j (by omega) (by omega)
theorem findN_congr {p q : Nat → Bool} : ∀ {d i : Nat}, (∀ j, i ≤ j → j < i + d → p j = q j) → findN p d i = findN q d i
  | 0, _, _ => rfl
  | d + 1, i, h => by
    simp only [findN]
    rw [h i (Nat.le_refl _) (by omega), findN_congr fun j h1 h2 => h j (by omega) (by omega)]
theorem fold_loop {α S R : Type} (F : Nat → Nat → S → Option R) (l : List α) (f : S → α → S) (fin : S → R) (hl : l.length ≤ 9223372036854775807)
    (hF : ∀ (k i : Nat) (s : S) (hi : i < l.length), F (k + 1) i s = F k (i + 1) (f s l[i])) (hE : ∀ (k : Nat) (s : S), F (k + 1) l.length s = some (fin s)) (s : S) : F K0 0 s = some (fin (l.foldl f s)) := by
  have key : ∀ (d k i : Nat) (s : S), i + d = l.length → d < k → F k i s = some (fin ((l.drop i).foldl f s)) := by
    intro d
    induction d with
    | zero =>
      intro k i s hi hk
      obtain ⟨k, rfl⟩ : ∃ q, k = q + 1 := ⟨k - 1, by omega⟩
      have : i = l.length := by omega
      subst this
      rw [hE, List.drop_length]
      rfl
    | succ d ih =>
      intro k i s hi hk
      obtain ⟨k, rfl⟩ : ∃ q, k = q + 1 := ⟨k - 1, by omega⟩
      have hlt : i < l.length := by omega
      rw [hF k i s hlt, List.drop_eq_getElem_cons hlt, List.foldl_cons]
      exact ih k (i + 1) _ (by omega) (by omega)
  have := key l.length K0 0 s (by omega) (by rw [K0_eq]; omega)
  simpa using this
theorem findN_or (p q : Nat → Bool) : ∀ (d i : Nat), (findN (fun i => p i || q i) d i).isNone = ((findN p d i).isNone && (findN q d i).isNone)
  | 0, _ => rfl
  | d + 1, i => by
    simp only [findN]
    have ih := findN_or p q d (i + 1)
    cases p i with
    | true => rfl
    | false =>
      cases q i with
      | true => simp
      | false => exact ih
def nameBad (s : ByteArray) (i : Nat) : Bool := !((((decide (bt s (i : Int) ≥ 97) && decide (bt s (i : Int) ≤ 122)) || (decide (bt s (i : Int) ≥ 48) && decide (bt s (i : Int) ≤ 57))) || (bt s (i : Int) == 45)))
def nameOk (s : ByteArray) : Bool := !(decide ((s.size : Int) < 1) || decide ((s.size : Int) > 20)) && (findN (nameBad s) s.size 0).isNone
theorem spec_name (s : ByteArray) (h : s.size ≤ 9223372036854775806) : spec_l13Name s = some (nameOk s, ()) := by
  unfold spec_l13Name nameOk
  have e : spec_l13Name_l4 K0 s 0 = _ := find_loop (fun k i => spec_l13Name_l4 k s (i : Int)) s.size (nameBad s) (fun _ => Sum.inl (false, ())) (Sum.inr ()) (by omega) (by
    intro k i hi
    show spec_l13Name_l4_step (spec_l13Name_l4 k) s (i : Int) = _
    unfold spec_l13Name_l4_step nameBad
    simp only [decp (show (i : Int) < (s.size : Int) by omega), decp (show (0 : Int) ≤ (i : Int) by omega), Bool.and_true, cond_true, wrap_i i s.size hi (by omega)]) (by
    intro k
    show spec_l13Name_l4_step (spec_l13Name_l4 k) s (s.size : Int) = _
    unfold spec_l13Name_l4_step
    simp only [decn (show ¬ (s.size : Int) < (s.size : Int) by omega), cond_false])
  dsimp only
  cases hb : (decide ((s.size : Int) < 1) || decide ((s.size : Int) > 20)) with
  | true => rfl
  | false =>
    rw [cond_false, e]
    cases findN (nameBad s) s.size 0 <;> rfl
theorem impl_name (s : ByteArray) (h : s.size ≤ 9223372036854775806) : impl_yisName s = some (nameOk s, ()) := by
  unfold impl_yisName nameOk
  have e : impl_yisName_l2 K0 s (s.size : Int) 0 = _ := find_loop (fun k i => impl_yisName_l2 k s (s.size : Int) (i : Int)) s.size (nameBad s) (fun _ => Sum.inl (false, ())) (Sum.inr (s, ())) (by omega) (by
    intro k i hi
    show impl_yisName_l2_step (impl_yisName_l2 k) s (s.size : Int) (i : Int) = _
    unfold impl_yisName_l2_step nameBad
    simp only [decp (show (i : Int) < (s.size : Int) by omega), decp (show (0 : Int) ≤ (i : Int) by omega), Bool.and_true, cond_true, wrap_i i s.size hi (by omega)]) (by
    intro k
    show impl_yisName_l2_step (impl_yisName_l2 k) s (s.size : Int) (s.size : Int) = _
    unfold impl_yisName_l2_step
    simp only [decn (show ¬ (s.size : Int) < (s.size : Int) by omega), cond_false])
  rw [e]
  have hz : (!(decide ((s.size : Int) < 1) || decide ((s.size : Int) > 20))) = (decide ((s.size : Int) ≥ 1) && decide ((s.size : Int) ≤ 20)) := by
    rw [Bool.eq_iff_iff]; simp
  rw [hz]
  cases findN (nameBad s) s.size 0 with
  | none => simp only [Option.bind_some, Option.isNone_none, Bool.and_true]
  | some j => simp only [Option.bind_some, Option.isNone_some, Bool.and_false]
abbrev Nd := ByteArray × Int × Int × Int × Int × Bool × Bool
abbrev Vm := ByteArray × Int × Int × Int × Int × Int × ByteArray × Int
abbrev Tn := Int × Int × Int
def vmOk (n : ByteArray) (t c m z a : Int) (nt : Int) : Bool := ((((((((nameOk n && decide (t ≥ 0)) && decide (t < nt)) && decide (c ≥ 1)) && decide (c ≤ 64)) && decide (m ≥ 1)) && decide (m ≤ 1000)) && decide (z ≥ 0)) && decide (z ≤ 20)) && decide (a ≥ 0) && decide (a ≤ 20)
theorem spec_vm (n : ByteArray) (t c m z a : Int) (x : ByteArray) (p nt : Int) (h : n.size ≤ 1048576) : spec_l22IsVm n t c m z a x p nt = some (vmOk n t c m z a nt, ()) := by
  unfold spec_l22IsVm vmOk
  rw [spec_name n (by omega)]
  simp only [Option.bind_some, Bool.and_assoc]
theorem impl_vm (n : ByteArray) (t c m z a : Int) (x : ByteArray) (p : Int) (nt : Nat) (h : n.size ≤ 1048576) (hnt : nt ≤ 1048576) : impl_yvmOk n t c m z a x p (nt : Int) = some (vmOk n t c m z a (nt : Int), ()) := by
  unfold impl_yvmOk vmOk
  rw [impl_name n (by omega)]
  have hw : wrap64 ((nt : Int) - 1) = (nt : Int) - 1 := wrap_id (by omega) (by omega)
  simp only [Option.bind_some, yin_eq, Option.getD_some, Option.isSome_some, Bool.or_true, Bool.and_true, cond_true, hw]
  congr 2
  rw [Bool.eq_iff_iff]
  generalize nameOk n = b
  cases b
  · simp
  · simp only [Bool.and_eq_true, decide_eq_true_eq, Bool.true_and, and_assoc]
    constructor
    · intro h; omega
    · intro h; omega
/-- The place of a node's name. -/
def nodeAt (l : List Nd) (s : ByteArray) : Int := match findN (fun i => seq (rd R1 l (i : Int)).1 s) l.length 0 with
  | some i => (i : Int)
  | none => -1
theorem nodeAt_lt (l : List Nd) (s : ByteArray) : nodeAt l s < 0 ∨ (0 ≤ nodeAt l s ∧ nodeAt l s < (l.length : Int)) := by
  unfold nodeAt
  cases h : findN (fun i => seq (rd R1 l (i : Int)).1 s) l.length 0 with
  | none => left; simp
  | some i => right; have := findN_some h; simp only; omega
theorem spec_node (a0 : List Nd) (a1 : List Vm) (a2 : List Tn) (a3 a4 : Int) (s : ByteArray) (h : a0.length ≤ 1048576) : spec_l22Node a0 a1 a2 a3 a4 s = some (nodeAt a0 s, ()) := by
  unfold spec_l22Node
  have e : spec_l22Node_l2 K0 s 0 a0 a1 a2 a3 a4 = _ := find_loop (fun k i => spec_l22Node_l2 k s (i : Int) a0 a1 a2 a3 a4) a0.length (fun i => seq (rd R1 a0 (i : Int)).1 s) (fun i => Sum.inl ((i : Int), ())) (Sum.inr ()) (by omega) (by
    intro k i hi
    show spec_l22Node_l2_step (spec_l22Node_l2 k) s (i : Int) a0 a1 a2 a3 a4 = _
    unfold spec_l22Node_l2_step
    simp only [decp (show (i : Int) < (a0.length : Int) by omega), decp (show (0 : Int) ≤ (i : Int) by omega), Bool.and_true, cond_true, wrap_i i a0.length hi (by omega)]) (by
    intro k
    show spec_l22Node_l2_step (spec_l22Node_l2 k) s (a0.length : Int) a0 a1 a2 a3 a4 = _
    unfold spec_l22Node_l2_step
    simp only [decn (show ¬ (a0.length : Int) < (a0.length : Int) by omega), cond_false])
  rw [e]
  unfold nodeAt
  cases findN (fun i => seq (rd R1 a0 (i : Int)).1 s) a0.length 0 <;> rfl
theorem impl_node (a0 : List Nd) (a1 : List Vm) (a2 : List Tn) (a3 a4 : Int) (s : ByteArray) (h : a0.length ≤ 1048576) : impl_Cluster_ynode a0 a1 a2 a3 a4 s = some (nodeAt a0 s, ()) := by
  unfold impl_Cluster_ynode slices_IndexFunc_Node
  have e : slices_IndexFunc_Node_l2 K0 a0 s (a0.length : Int) 0 = _ := find_loop (fun k i => slices_IndexFunc_Node_l2 k a0 s (a0.length : Int) (i : Int)) a0.length (fun i => seq (rd R1 a0 (i : Int)).1 s) (fun i => Sum.inl ((i : Int), ())) (Sum.inr ()) (by omega) (by
    intro k i hi
    show slices_IndexFunc_Node_l2_step (slices_IndexFunc_Node_l2 k) a0 s (a0.length : Int) (i : Int) = _
    unfold slices_IndexFunc_Node_l2_step impl_Cluster_ynode_1
    simp only [decp (show (i : Int) < (a0.length : Int) by omega), decp (show (0 : Int) ≤ (i : Int) by omega), Option.bind_some, Bool.and_true, cond_true, wrap_i i a0.length hi (by omega)]) (by
    intro k
    show slices_IndexFunc_Node_l2_step (slices_IndexFunc_Node_l2 k) a0 s (a0.length : Int) (a0.length : Int) = _
    unfold slices_IndexFunc_Node_l2_step
    simp only [decn (show ¬ (a0.length : Int) < (a0.length : Int) by omega), cond_false])
  rw [e]
  unfold nodeAt
  cases findN (fun i => seq (rd R1 a0 (i : Int)).1 s) a0.length 0 <;> rfl
/-- The machines on a node but one. -/
def onNode (node name : ByteArray) (x : Vm) : Bool := seq x.2.2.2.2.2.2.1 node && !seq x.1 name
theorem impl_others (a0 : List Nd) (a1 : List Vm) (a2 : List Tn) (a3 a4 : Int) (node name : ByteArray) (h : a1.length ≤ 1048576) : impl_Cluster_yothers a0 a1 a2 a3 a4 node name = some (a1.filter (onNode node name), ()) := by
  unfold impl_Cluster_yothers
  have e : impl_Cluster_yothers_l3 K0 node name a1 (a1.length : Int) 0 [] = _ := filter_loop (fun k i s => impl_Cluster_yothers_l3 k node name a1 (a1.length : Int) (i : Int) s) a1 (onNode node name) (fun s => (s, ())) (by omega) (by
    intro k i s hi hs
    show impl_Cluster_yothers_l3_step (impl_Cluster_yothers_l3 k) node name a1 (a1.length : Int) (i : Int) s = _
    unfold impl_Cluster_yothers_l3_step
    simp only [decp (show (i : Int) < (a1.length : Int) by omega), decp (show (0 : Int) ≤ (i : Int) by omega), rd_at R2 a1 i hi, Bool.and_true, cond_true, Bool.cond_self, wrap_i i a1.length hi (by omega), roomy_ok (show ((s.length : Int) + (([a1[i]] : List Vm).length : Int)) * 80 ≤ 140737488355328 by simp; omega), Bool.or_true]
    rfl) (by
    intro k s
    show impl_Cluster_yothers_l3_step (impl_Cluster_yothers_l3 k) node name a1 (a1.length : Int) (a1.length : Int) s = _
    unfold impl_Cluster_yothers_l3_step
    simp only [decn (show ¬ (a1.length : Int) < (a1.length : Int) by omega), cond_false])
  rw [e]
  rfl
def holdSt (a t : Int) (s : Int × Int) (x : Vm) : Int ⊕ (Int × Int) := bif (((a != 0) && (x.2.1 == t)) && (x.2.2.2.2.2.1 == a)) then .inl 9 else .inr (wrap64 (s.1 + x.2.2.1), wrap64 (s.2 + x.2.2.2.1))
/-- Whether a node may hold a machine. -/
def holdC (n : Nd) (vms : List Vm) (over : Int) (v : Vm) : Int := bif ((v.2.2.2.2.1 != 0) && (v.2.2.2.2.1 != n.2.2.2.1)) then 7 else
  match foldE (holdSt v.2.2.2.2.2.1 v.2.1) (vms.filter (onNode n.1 v.1)) (v.2.2.1, v.2.2.2.1) with
  | .inl c => c
  | .inr s => bif decide (s.2 > n.2.2.1) then 2 else bif decide (wrap64 (s.1 * 100) > wrap64 (n.2.1 * over)) then 8 else 0
theorem impl_hold (a0 : List Nd) (a1 : List Vm) (a2 : List Tn) (a3 a4 : Int) (n : Nd) (v : Vm) (h : a1.length ≤ 1048576) :
    impl_Cluster_yholds a0 a1 a2 a3 a4 n.1 n.2.1 n.2.2.1 n.2.2.2.1 n.2.2.2.2.1 n.2.2.2.2.2.1 n.2.2.2.2.2.2 v.1 v.2.1 v.2.2.1 v.2.2.2.1 v.2.2.2.2.1 v.2.2.2.2.2.1 v.2.2.2.2.2.2.1 v.2.2.2.2.2.2.2 = some (holdC n a1 a3 v, ()) := by
  unfold impl_Cluster_yholds holdC
  rw [impl_others _ _ _ _ _ _ _ h]
  simp only [Option.bind_some]
  cases ((v.2.2.2.2.1 != 0) && (v.2.2.2.2.1 != n.2.2.2.1)) with
  | true => rfl
  | false =>
    simp only [cond_false]
    have hl : (a1.filter (onNode n.1 v.1)).length ≤ 1048576 := Nat.le_trans (List.length_filter_le _ _) h
    generalize a1.filter (onNode n.1 v.1) = l at hl ⊢
    have e : impl_Cluster_yholds_l5 K0 v.2.2.1 v.2.2.2.1 (l.length : Int) 0 a0 a1 a2 a3 a4 n.1 n.2.1 n.2.2.1 n.2.2.2.1 n.2.2.2.2.1 n.2.2.2.2.2.1 n.2.2.2.2.2.2 v.1 v.2.1 v.2.2.1 v.2.2.2.1 v.2.2.2.2.1 v.2.2.2.2.2.1 v.2.2.2.2.2.2.1 v.2.2.2.2.2.2.2 l = _ :=
      foldE_loop (fun k i s => impl_Cluster_yholds_l5 k s.1 s.2 (l.length : Int) (i : Int) a0 a1 a2 a3 a4 n.1 n.2.1 n.2.2.1 n.2.2.2.1 n.2.2.2.2.1 n.2.2.2.2.2.1 n.2.2.2.2.2.2 v.1 v.2.1 v.2.2.1 v.2.2.2.1 v.2.2.2.2.1 v.2.2.2.2.2.1 v.2.2.2.2.2.2.1 v.2.2.2.2.2.2.2 l) l (holdSt v.2.2.2.2.2.1 v.2.1)
        (fun c => Sum.inl (c, ())) (fun s => Sum.inr (s.1, s.2, a0, a1, a2, a3, a4, n.1, n.2.1, n.2.2.1, n.2.2.2.1, n.2.2.2.2.1, n.2.2.2.2.2.1, n.2.2.2.2.2.2, ())) (by omega) (by
        intro k i s hi
        show impl_Cluster_yholds_l5_step (impl_Cluster_yholds_l5 k) s.1 s.2 (l.length : Int) (i : Int) a0 a1 a2 a3 a4 n.1 n.2.1 n.2.2.1 n.2.2.2.1 n.2.2.2.2.1 n.2.2.2.2.2.1 n.2.2.2.2.2.2 v.1 v.2.1 v.2.2.1 v.2.2.2.1 v.2.2.2.2.1 v.2.2.2.2.2.1 v.2.2.2.2.2.2.1 v.2.2.2.2.2.2.2 l = _
        unfold impl_Cluster_yholds_l5_step holdSt
        simp only [decp (show (i : Int) < (l.length : Int) by omega), decp (show (0 : Int) ≤ (i : Int) by omega), rd_at R2 l i hi, Bool.and_true, cond_true, wrap_i i l.length hi (by omega)]
        cases ((v.2.2.2.2.2.1 != 0) && (l[i].2.1 == v.2.1)) && (l[i].2.2.2.2.2.1 == v.2.2.2.2.2.1) <;> rfl) (by
        intro k s
        show impl_Cluster_yholds_l5_step (impl_Cluster_yholds_l5 k) s.1 s.2 (l.length : Int) (l.length : Int) a0 a1 a2 a3 a4 n.1 n.2.1 n.2.2.1 n.2.2.2.1 n.2.2.2.2.1 n.2.2.2.2.2.1 n.2.2.2.2.2.2 v.1 v.2.1 v.2.2.1 v.2.2.2.1 v.2.2.2.2.1 v.2.2.2.2.2.1 v.2.2.2.2.2.2.1 v.2.2.2.2.2.2.2 l = _
        unfold impl_Cluster_yholds_l5_step
        simp only [decn (show ¬ (l.length : Int) < (l.length : Int) by omega), cond_false]) (v.2.2.1, v.2.2.2.1)
    rw [e]
    simp only [Option.bind_some]
    cases foldE (holdSt v.2.2.2.2.2.1 v.2.1) l (v.2.2.1, v.2.2.2.1) with
    | inl c => rfl
    | inr s =>
      simp only
      cases decide (s.2 > n.2.2.1)
      · cases decide (wrap64 (s.1 * 100) > wrap64 (n.2.1 * a3)) <;> rfl
      · rfl
theorem spec_hold (a0 : List Nd) (a1 : List Vm) (a2 : List Tn) (a3 a4 : Int) (j : Int) (v : Vm) (h : a1.length ≤ 1048576) (hj : 0 ≤ j ∧ j < (a0.length : Int)) :
    spec_l22Hold a0 a1 a2 a3 a4 j v.1 v.2.1 v.2.2.1 v.2.2.2.1 v.2.2.2.2.1 v.2.2.2.2.2.1 v.2.2.2.2.2.2.1 v.2.2.2.2.2.2.2 = some (holdC (rd R1 a0 j) a1 a3 v, ()) := by
  unfold spec_l22Hold holdC
  generalize rd R1 a0 j = n
  simp only [decp hj.1, decp hj.2, Bool.and_true, cond_true]
  cases ((v.2.2.2.2.1 != 0) && (v.2.2.2.2.1 != n.2.2.2.1)) with
  | true => rfl
  | false =>
    simp only [cond_false]
    rw [foldE_filter]
    have e : spec_l22Hold_l7 K0 v.2.2.1 v.2.2.2.1 0 a0 a1 a2 a3 a4 v.1 v.2.1 v.2.2.1 v.2.2.2.1 v.2.2.2.2.1 v.2.2.2.2.2.1 v.2.2.2.2.2.2.1 v.2.2.2.2.2.2.2 n.1 n.2.1 n.2.2.1 n.2.2.2.1 n.2.2.2.2.1 n.2.2.2.2.2.1 n.2.2.2.2.2.2 = _ :=
      foldE_loop (fun k i s => spec_l22Hold_l7 k s.1 s.2 (i : Int) a0 a1 a2 a3 a4 v.1 v.2.1 v.2.2.1 v.2.2.2.1 v.2.2.2.2.1 v.2.2.2.2.2.1 v.2.2.2.2.2.2.1 v.2.2.2.2.2.2.2 n.1 n.2.1 n.2.2.1 n.2.2.2.1 n.2.2.2.2.1 n.2.2.2.2.2.1 n.2.2.2.2.2.2) a1 (fun s x => bif onNode n.1 v.1 x then holdSt v.2.2.2.2.2.1 v.2.1 s x else .inr s)
        (fun c => Sum.inl (c, ())) (fun s => Sum.inr (s.1, s.2, a0, a1, a2, a3, a4, n.1, n.2.1, n.2.2.1, n.2.2.2.1, n.2.2.2.2.1, n.2.2.2.2.2.1, n.2.2.2.2.2.2, ())) (by omega) (by
        intro k i s hi
        show spec_l22Hold_l7_step (spec_l22Hold_l7 k) s.1 s.2 (i : Int) a0 a1 a2 a3 a4 v.1 v.2.1 v.2.2.1 v.2.2.2.1 v.2.2.2.2.1 v.2.2.2.2.2.1 v.2.2.2.2.2.2.1 v.2.2.2.2.2.2.2 n.1 n.2.1 n.2.2.1 n.2.2.2.1 n.2.2.2.2.1 n.2.2.2.2.2.1 n.2.2.2.2.2.2 = _
        unfold spec_l22Hold_l7_step onNode holdSt
        simp only [decp (show (i : Int) < (a1.length : Int) by omega), decp (show (0 : Int) ≤ (i : Int) by omega), rd_at R2 a1 i hi, Bool.and_true, cond_true, wrap_i i a1.length hi (by omega)]
        cases seq a1[i].2.2.2.2.2.2.1 n.1 <;> cases seq a1[i].1 v.1 <;> cases ((v.2.2.2.2.2.1 != 0) && (a1[i].2.1 == v.2.1)) && (a1[i].2.2.2.2.2.1 == v.2.2.2.2.2.1) <;> rfl) (by
        intro k s
        show spec_l22Hold_l7_step (spec_l22Hold_l7 k) s.1 s.2 (a1.length : Int) a0 a1 a2 a3 a4 v.1 v.2.1 v.2.2.1 v.2.2.2.1 v.2.2.2.2.1 v.2.2.2.2.2.1 v.2.2.2.2.2.2.1 v.2.2.2.2.2.2.2 n.1 n.2.1 n.2.2.1 n.2.2.2.1 n.2.2.2.2.1 n.2.2.2.2.2.1 n.2.2.2.2.2.2 = _
        unfold spec_l22Hold_l7_step
        simp only [decn (show ¬ (a1.length : Int) < (a1.length : Int) by omega), cond_false]) (v.2.2.1, v.2.2.2.1)
    rw [e]
    simp only [Option.bind_some]
    cases foldE (fun s x => bif onNode n.1 v.1 x then holdSt v.2.2.2.2.2.1 v.2.1 s x else .inr s) a1 (v.2.2.1, v.2.2.2.1) with
    | inl c => rfl
    | inr s =>
      simp only
      cases decide (s.2 > n.2.2.1)
      · cases decide (wrap64 (s.1 * 100) > wrap64 (n.2.1 * a3)) <;> rfl
      · rfl
def usedSt (t : Int) (s : Int × Int) (x : Vm) : Int × Int := (bif (x.2.1 == t) then wrap64 (s.1 + x.2.2.1) else s.1, bif (x.2.1 == t) then wrap64 (s.2 + x.2.2.2.1) else s.2)
def used (l : List Vm) (t : Int) : Int × Int := l.foldl (usedSt t) (0, 0)
theorem impl_used (a0 : List Nd) (a1 : List Vm) (a2 : List Tn) (a3 a4 t : Int) (h : a1.length ≤ 1048576) : impl_Cluster_yused a0 a1 a2 a3 a4 t = some ((used a1 t).1, (used a1 t).2, ()) := by
  unfold impl_Cluster_yused
  have e : impl_Cluster_yused_l3 K0 t 0 0 a1 (a1.length : Int) 0 = _ := fold_loop (fun k i s => impl_Cluster_yused_l3 k t s.1 s.2 a1 (a1.length : Int) (i : Int)) a1 (usedSt t) (fun s => (s.1, s.2, ())) (by omega) (by
    intro k i s hi
    show impl_Cluster_yused_l3_step (impl_Cluster_yused_l3 k) t s.1 s.2 a1 (a1.length : Int) (i : Int) = _
    unfold impl_Cluster_yused_l3_step
    simp only [decp (show (i : Int) < (a1.length : Int) by omega), decp (show (0 : Int) ≤ (i : Int) by omega), rd_at R2 a1 i hi, Bool.and_true, cond_true, Bool.cond_self, wrap_i i a1.length hi (by omega)]
    rfl) (by
    intro k s
    show impl_Cluster_yused_l3_step (impl_Cluster_yused_l3 k) t s.1 s.2 a1 (a1.length : Int) (a1.length : Int) = _
    unfold impl_Cluster_yused_l3_step
    simp only [decn (show ¬ (a1.length : Int) < (a1.length : Int) by omega), cond_false]) (0, 0)
  rw [e]
  rfl
theorem spec_used (a0 : List Nd) (a1 : List Vm) (a2 : List Tn) (a3 a4 t : Int) (h : a1.length ≤ 1048576) : spec_l22Used a0 a1 a2 a3 a4 t = some ((used a1 t).1, (used a1 t).2, ()) := by
  unfold spec_l22Used
  have e : spec_l22Used_l4 K0 t 0 0 0 a0 a1 a2 a3 a4 = _ := fold_loop (fun k i s => spec_l22Used_l4 k t s.1 s.2 (i : Int) a0 a1 a2 a3 a4) a1 (usedSt t) (fun s => (s.1, s.2, ())) (by omega) (by
    intro k i s hi
    show spec_l22Used_l4_step (spec_l22Used_l4 k) t s.1 s.2 (i : Int) a0 a1 a2 a3 a4 = _
    unfold spec_l22Used_l4_step
    simp only [decp (show (i : Int) < (a1.length : Int) by omega), decp (show (0 : Int) ≤ (i : Int) by omega), rd_at R2 a1 i hi, Bool.and_true, Bool.or_true, cond_true, Bool.cond_self, wrap_i i a1.length hi (by omega)]
    rfl) (by
    intro k s
    show spec_l22Used_l4_step (spec_l22Used_l4 k) t s.1 s.2 (a1.length : Int) a0 a1 a2 a3 a4 = _
    unfold spec_l22Used_l4_step
    simp only [decn (show ¬ (a1.length : Int) < (a1.length : Int) by omega), cond_false]) (0, 0)
  rw [e]
  rfl
theorem small_name {l : List Nd} (h : small (.slice R1) l) (i : Nat) (hi : i < l.length) : (rd R1 l (i : Int)).1.size ≤ 1048576 := by
  rw [rd_at R1 l i hi]
  exact (h.2 _ (List.getElem_mem hi)).1
theorem small_vname {l : List Vm} (h : small (.slice R2) l) (i : Nat) (hi : i < l.length) : (rd R2 l (i : Int)).1.size ≤ 1048576 := by
  rw [rd_at R2 l i hi]
  exact (h.2 _ (List.getElem_mem hi)).1
/-- Two ways to say that a number lies between two others. -/
theorem out_in (x a b : Int) : (!decide (a ≤ x ∧ x ≤ b)) = (decide (x < a) || decide (x > b)) := by rw [Bool.eq_iff_iff]; simp
/-- What is wrong with a node. -/
def nodeBad (l : List Nd) (time : Int) (i : Nat) : Bool :=
  let e := rd R1 l (i : Int)
  let p := decide ((i : Int) > 0) && !slt (rd R1 l (wrap64 ((i : Int) - 1))).1 e.1
  ((((!nameOk e.1 || p) || (decide (e.2.1 < 1) || decide (e.2.1 > 64))) || (decide (e.2.2.1 < 1) || decide (e.2.2.1 > 1000))) || (decide (e.2.2.2.1 < 1) || decide (e.2.2.2.1 > 20))) || (decide (e.2.2.2.2.1 < 0) || decide (e.2.2.2.2.1 > time))
theorem back_ok (i n : Nat) (hi : i < n) (h : n ≤ 1048576) (b : Bool) : (!(b && decide ((i : Int) > 0)) || (decide (0 ≤ wrap64 ((i : Int) - 1)) && decide (wrap64 ((i : Int) - 1) < (n : Int)))) = true := by
  by_cases h0 : i = 0
  · subst h0; cases b <;> rfl
  · have hw : wrap64 ((i : Int) - 1) = (i : Int) - 1 := wrap_id (by omega) (by omega)
    rw [hw, decp (show (0 : Int) ≤ (i : Int) - 1 by omega), decp (show (i : Int) - 1 < (n : Int) by omega)]
    simp
theorem spec_nodes (a0 : List Nd) (a1 : List Vm) (a2 : List Tn) (a3 a4 : Int) (h : small (.slice R1) a0) : spec_l22Nodes a0 a1 a2 a3 a4 = some (!decide ((a0.length : Int) > 12) && (findN (nodeBad a0 a4) a0.length 0).isNone, ()) := by
  have hl : a0.length ≤ 1048576 := h.1
  unfold spec_l22Nodes
  have e : spec_l22Nodes_l4 K0 0 a0 a1 a2 a3 a4 = _ := find_loop (fun k i => spec_l22Nodes_l4 k (i : Int) a0 a1 a2 a3 a4) a0.length (nodeBad a0 a4) (fun _ => Sum.inl (false, ())) (Sum.inr ()) (by omega) (by
    intro k i hi
    show spec_l22Nodes_l4_step (spec_l22Nodes_l4 k) (i : Int) a0 a1 a2 a3 a4 = _
    unfold spec_l22Nodes_l4_step nodeBad
    simp only [decp (show (i : Int) < (a0.length : Int) by omega), decp (show (0 : Int) ≤ (i : Int) by omega), spec_name _ (Nat.le_trans (small_name h i hi) (by decide)), Option.getD_some, Option.isSome_some, Bool.true_and, Bool.and_true, back_ok i a0.length hi hl, cond_true, wrap_i i a0.length hi (by omega), Bool.or_assoc]) (by
    intro k
    show spec_l22Nodes_l4_step (spec_l22Nodes_l4 k) (a0.length : Int) a0 a1 a2 a3 a4 = _
    unfold spec_l22Nodes_l4_step
    simp only [decn (show ¬ (a0.length : Int) < (a0.length : Int) by omega), cond_false])
  dsimp only
  cases decide ((a0.length : Int) > 12) with
  | true => rfl
  | false =>
    rw [cond_false, e]
    cases findN (nodeBad a0 a4) a0.length 0 <;> rfl
def vmBad (nodes : List Nd) (l : List Vm) (nt : Int) (over : Int) (i : Nat) : Bool :=
  let e := rd R2 l (i : Int)
  let p := decide ((i : Int) > 0) && !slt (rd R2 l (wrap64 ((i : Int) - 1))).1 e.1
  ((!vmOk e.1 e.2.1 e.2.2.1 e.2.2.2.1 e.2.2.2.2.1 e.2.2.2.2.2.1 nt || p) || (decide (e.2.2.2.2.2.2.2 < 0) || decide (e.2.2.2.2.2.2.2 > 1099511627776))) ||
    (!seq e.2.2.2.2.2.2.1 (⟨#[]⟩ : ByteArray) && (decide (nodeAt nodes e.2.2.2.2.2.2.1 < 0) || (holdC (rd R1 nodes (nodeAt nodes e.2.2.2.2.2.2.1)) l over e != 0)))
def tenBad (l : List Vm) (ts : List Tn) (i : Nat) : Bool :=
  let e := rd R5 ts (i : Int)
  (((decide (e.1 < 0) || decide (e.1 > 10000)) || (decide (e.2.1 < 0) || decide (e.2.1 > 10000))) || (decide (e.2.2 < 0) || decide (e.2.2 > 1152921504606846976)))
def overBad (l : List Vm) (ts : List Tn) (i : Nat) : Bool :=
  let e := rd R5 ts (i : Int)
  decide ((used l (i : Int)).1 > e.1) || decide ((used l (i : Int)).2 > e.2.1)
/-- What is wrong with a cluster. -/
def clBad (a0 : List Nd) (a1 : List Vm) (a2 : List Tn) (a3 a4 : Int) : Bool :=
  ((((decide (a3 < 100) || decide (a3 > 400)) || (decide (a4 < 0) || decide (a4 > 1099511627776))) || (decide ((a0.length : Int) > 12) || !(findN (nodeBad a0 a4) a0.length 0).isNone)) || decide ((a1.length : Int) > 30)) || (decide ((a2.length : Int) < 1) || decide ((a2.length : Int) > 8)) ||
    (!(findN (vmBad a0 a1 (a2.length : Int) a3) a1.length 0).isNone || (!(findN (tenBad a1 a2) a2.length 0).isNone || !(findN (overBad a1 a2) a2.length 0).isNone))
theorem spec_fault (a0 : List Nd) (a1 : List Vm) (a2 : List Tn) (a3 a4 : Int) (h0 : small (.slice R1) a0) (h1 : small (.slice R2) a1) (h2 : a2.length ≤ 1048576) : spec_ClusterFault a0 a1 a2 a3 a4 = some (bif clBad a0 a1 a2 a3 a4 then 1 else 0, ()) := by
  have l0 : a0.length ≤ 1048576 := h0.1
  have l1 : a1.length ≤ 1048576 := h1.1
  unfold spec_ClusterFault clBad
  rw [spec_nodes a0 a1 a2 a3 a4 h0]
  have e1 : spec_ClusterFault_l4 K0 0 a0 a1 a2 a3 a4 = _ := find_loop (fun k i => spec_ClusterFault_l4 k (i : Int) a0 a1 a2 a3 a4) a1.length (vmBad a0 a1 (a2.length : Int) a3) (fun _ => Sum.inl (1, ())) (Sum.inr (a0, a1, a2, a3, a4, ())) (by omega) (by
    intro k i hi
    show spec_ClusterFault_l4_step (spec_ClusterFault_l4 k) (i : Int) a0 a1 a2 a3 a4 = _
    unfold spec_ClusterFault_l4_step vmBad
    have hn := small_vname h1 i hi
    dsimp only
    generalize rd R2 a1 (i : Int) = e at hn ⊢
    generalize (decide ((i : Int) > 0) && !slt (rd R2 a1 (wrap64 ((i : Int) - 1))).1 e.1) = p
    simp only [decp (show (i : Int) < (a1.length : Int) by omega), decp (show (0 : Int) ≤ (i : Int) by omega), spec_vm _ _ _ _ _ _ _ _ _ hn, Option.getD_some, Option.isSome_some, Bool.true_and, Bool.and_true, back_ok i a1.length hi l1, cond_true, wrap_i i a1.length hi (by omega), spec_node _ _ _ _ _ _ l0, Option.bind_some]
    rw [Bool.or_assoc _ (decide (e.2.2.2.2.2.2.2 < 0))]
    cases ((!vmOk e.1 e.2.1 e.2.2.1 e.2.2.2.1 e.2.2.2.2.1 e.2.2.2.2.2.1 (a2.length : Int) || p) || (decide (e.2.2.2.2.2.2.2 < 0) || decide (e.2.2.2.2.2.2.2 > 1099511627776))) with
    | true => rfl
    | false =>
      simp only [cond_false, Bool.false_or]
      cases seq e.2.2.2.2.2.2.1 (⟨#[]⟩ : ByteArray) with
      | true => rfl
      | false =>
        simp only [cond_false, Bool.not_false, Bool.true_and]
        rcases nodeAt_lt a0 e.2.2.2.2.2.2.1 with hj | hj
        · simp only [decp hj, Bool.true_or, Bool.not_true, Bool.not_false, cond_true]
        · rw [spec_hold a0 a1 a2 a3 a4 _ e l1 hj]
          simp only [decn (show ¬ nodeAt a0 e.2.2.2.2.2.2.1 < 0 by omega), Option.getD_some, Option.isSome_some, Bool.or_true, cond_true]) (by
    intro k
    show spec_ClusterFault_l4_step (spec_ClusterFault_l4 k) (a1.length : Int) a0 a1 a2 a3 a4 = _
    unfold spec_ClusterFault_l4_step
    simp only [decn (show ¬ (a1.length : Int) < (a1.length : Int) by omega), cond_false])
  have e2 : spec_ClusterFault_l14 K0 0 a0 a1 a2 a3 a4 = _ := find_loop (fun k i => spec_ClusterFault_l14 k (i : Int) a0 a1 a2 a3 a4) a2.length (fun i => tenBad a1 a2 i || overBad a1 a2 i) (fun _ => Sum.inl (1, ())) (Sum.inr ()) (by omega) (by
    intro k i hi
    show spec_ClusterFault_l14_step (spec_ClusterFault_l14 k) (i : Int) a0 a1 a2 a3 a4 = _
    unfold spec_ClusterFault_l14_step tenBad overBad
    simp only [decp (show (i : Int) < (a2.length : Int) by omega), decp (show (0 : Int) ≤ (i : Int) by omega), Bool.and_true, cond_true, wrap_i i a2.length hi (by omega), spec_used _ _ _ _ _ _ l1, Option.bind_some, Bool.or_assoc]) (by
    intro k
    show spec_ClusterFault_l14_step (spec_ClusterFault_l14 k) (a2.length : Int) a0 a1 a2 a3 a4 = _
    unfold spec_ClusterFault_l14_step
    simp only [decn (show ¬ (a2.length : Int) < (a2.length : Int) by omega), cond_false])
  have e3 : (findN (fun i => tenBad a1 a2 i || overBad a1 a2 i) a2.length 0).isNone = ((findN (tenBad a1 a2) a2.length 0).isNone && (findN (overBad a1 a2) a2.length 0).isNone) := findN_or _ _ _ _
  dsimp only
  rw [e1]
  simp only [Option.getD_some, Option.isSome_some, Bool.or_true, cond_true]
  have eA : ((((decide (a3 < 100) || decide (a3 > 400)) || decide (a4 < 0)) || decide (a4 > 1099511627776)) || !(!decide ((a0.length : Int) > 12) && (findN (nodeBad a0 a4) a0.length 0).isNone)) = (((decide (a3 < 100) || decide (a3 > 400)) || (decide (a4 < 0) || decide (a4 > 1099511627776))) || (decide ((a0.length : Int) > 12) || !(findN (nodeBad a0 a4) a0.length 0).isNone)) := by
    rw [Bool.not_and, Bool.not_not, Bool.or_assoc _ (decide (a4 < 0))]
  rw [eA, Bool.or_assoc _ (decide ((a2.length : Int) < 1))]
  cases (((((decide (a3 < 100) || decide (a3 > 400)) || (decide (a4 < 0) || decide (a4 > 1099511627776))) || (decide ((a0.length : Int) > 12) || !(findN (nodeBad a0 a4) a0.length 0).isNone)) || decide ((a1.length : Int) > 30)) || (decide ((a2.length : Int) < 1) || decide ((a2.length : Int) > 8))) with
  | true => rfl
  | false =>
    simp only [cond_false, Bool.false_or, Option.bind_some]
    cases findN (vmBad a0 a1 (a2.length : Int) a3) a1.length 0 with
    | some j => rfl
    | none =>
      simp only [Option.isNone_none, Bool.not_true, Bool.false_or]
      rw [e2, ← Bool.not_and, ← e3]
      cases findN (fun i => tenBad a1 a2 i || overBad a1 a2 i) a2.length 0 <;> rfl
theorem impl_within (a0 : List Nd) (a1 : List Vm) (a2 : List Tn) (a3 a4 : Int) (i : Nat) (hi : i < a2.length) (h : a1.length ≤ 1048576) : impl_Cluster_ywithin a0 a1 a2 a3 a4 (i : Int) = some (!overBad a1 a2 i, ()) := by
  unfold impl_Cluster_ywithin overBad
  rw [impl_used _ _ _ _ _ _ h]
  simp only [Option.bind_some, decp (show (i : Int) < (a2.length : Int) by omega), decp (show (0 : Int) ≤ (i : Int) by omega), Bool.and_true, Bool.or_true, cond_true]
  congr 2
  rw [Bool.eq_iff_iff]
  simp
theorem impl_fault (a0 : List Nd) (a1 : List Vm) (a2 : List Tn) (a3 a4 : Int) (h0 : small (.slice R1) a0) (h1 : small (.slice R2) a1) (h2 : a2.length ≤ 1048576) : impl_ClusterFault a0 a1 a2 a3 a4 = some (bif clBad a0 a1 a2 a3 a4 then 1 else 0, ()) := by
  have l0 : a0.length ≤ 1048576 := h0.1
  have l1 : a1.length ≤ 1048576 := h1.1
  unfold impl_ClusterFault clBad
  have e0 : impl_ClusterFault_l4 K0 a0 (a0.length : Int) 0 a0 a1 a2 a3 a4 = _ := find_loop (fun k i => impl_ClusterFault_l4 k a0 (a0.length : Int) (i : Int) a0 a1 a2 a3 a4) a0.length (nodeBad a0 a4) (fun _ => Sum.inl (1, ())) (Sum.inr (a0, a1, a2, a3, a4, ())) (by omega) (by
    intro k i hi
    show impl_ClusterFault_l4_step (impl_ClusterFault_l4 k) a0 (a0.length : Int) (i : Int) a0 a1 a2 a3 a4 = _
    unfold impl_ClusterFault_l4_step nodeBad
    simp only [decp (show (i : Int) < (a0.length : Int) by omega), decp (show (0 : Int) ≤ (i : Int) by omega), impl_name _ (Nat.le_trans (small_name h0 i hi) (by decide)), yin_eq, Option.getD_some, Option.isSome_some, Bool.or_true, Bool.true_and, Bool.and_true, back_ok i a0.length hi l0, cond_true, wrap_i i a0.length hi (by omega), out_in]) (by
    intro k
    show impl_ClusterFault_l4_step (impl_ClusterFault_l4 k) a0 (a0.length : Int) (a0.length : Int) a0 a1 a2 a3 a4 = _
    unfold impl_ClusterFault_l4_step
    simp only [decn (show ¬ (a0.length : Int) < (a0.length : Int) by omega), cond_false])
  have e1 : impl_ClusterFault_l10 K0 a2 (a2.length : Int) 0 a0 a1 a2 a3 a4 = _ := find_loop (fun k i => impl_ClusterFault_l10 k a2 (a2.length : Int) (i : Int) a0 a1 a2 a3 a4) a2.length (tenBad a1 a2) (fun _ => Sum.inl (1, ())) (Sum.inr (a0, a1, a2, a3, a4, ())) (by omega) (by
    intro k i hi
    show impl_ClusterFault_l10_step (impl_ClusterFault_l10 k) a2 (a2.length : Int) (i : Int) a0 a1 a2 a3 a4 = _
    unfold impl_ClusterFault_l10_step tenBad
    simp only [decp (show (i : Int) < (a2.length : Int) by omega), decp (show (0 : Int) ≤ (i : Int) by omega), yin_eq, Option.bind_some, Option.getD_some, Option.isSome_some, Bool.or_true, Bool.true_and, Bool.and_true, cond_true, wrap_i i a2.length hi (by omega), out_in]) (by
    intro k
    show impl_ClusterFault_l10_step (impl_ClusterFault_l10 k) a2 (a2.length : Int) (a2.length : Int) a0 a1 a2 a3 a4 = _
    unfold impl_ClusterFault_l10_step
    simp only [decn (show ¬ (a2.length : Int) < (a2.length : Int) by omega), cond_false])
  have e2 : impl_ClusterFault_l16 K0 a1 (a1.length : Int) 0 a0 a1 a2 a3 a4 = _ := find_loop (fun k i => impl_ClusterFault_l16 k a1 (a1.length : Int) (i : Int) a0 a1 a2 a3 a4) a1.length (vmBad a0 a1 (a2.length : Int) a3) (fun _ => Sum.inl (1, ())) (Sum.inr (a0, a1, a2, a3, a4, ())) (by omega) (by
    intro k i hi
    show impl_ClusterFault_l16_step (impl_ClusterFault_l16 k) a1 (a1.length : Int) (i : Int) a0 a1 a2 a3 a4 = _
    unfold impl_ClusterFault_l16_step vmBad
    have hn := small_vname h1 i hi
    dsimp only
    generalize rd R2 a1 (i : Int) = e at hn ⊢
    generalize (decide ((i : Int) > 0) && !slt (rd R2 a1 (wrap64 ((i : Int) - 1))).1 e.1) = p
    simp only [decp (show (i : Int) < (a1.length : Int) by omega), decp (show (0 : Int) ≤ (i : Int) by omega), impl_vm _ _ _ _ _ _ _ _ _ hn h2, yin_eq, Option.getD_some, Option.isSome_some, Bool.true_and, Bool.and_true, Bool.or_true, back_ok i a1.length hi l1, cond_true, wrap_i i a1.length hi (by omega), impl_node _ _ _ _ _ _ l0, Option.bind_some, out_in]
    cases ((!vmOk e.1 e.2.1 e.2.2.1 e.2.2.2.1 e.2.2.2.2.1 e.2.2.2.2.2.1 (a2.length : Int) || p) || (decide (e.2.2.2.2.2.2.2 < 0) || decide (e.2.2.2.2.2.2.2 > 1099511627776))) with
    | true => rfl
    | false =>
      simp only [cond_false, Bool.false_or]
      cases seq e.2.2.2.2.2.2.1 (⟨#[]⟩ : ByteArray) with
      | true => rfl
      | false =>
        simp only [cond_false, Bool.not_false, Bool.true_and]
        rw [impl_hold a0 a1 a2 a3 a4 (rd R1 a0 (nodeAt a0 e.2.2.2.2.2.2.1)) e l1]
        rcases nodeAt_lt a0 e.2.2.2.2.2.2.1 with hj | hj
        · simp only [decp hj, Bool.true_or, Bool.not_true, Bool.not_false, Bool.and_true, Option.isSome_some, Bool.or_true, cond_true]
        · simp only [decn (show ¬ nodeAt a0 e.2.2.2.2.2.2.1 < 0 by omega), decp hj.1, decp hj.2, Option.getD_some, Option.isSome_some, Bool.and_true, Bool.or_true, cond_true]) (by
    intro k
    show impl_ClusterFault_l16_step (impl_ClusterFault_l16 k) a1 (a1.length : Int) (a1.length : Int) a0 a1 a2 a3 a4 = _
    unfold impl_ClusterFault_l16_step
    simp only [decn (show ¬ (a1.length : Int) < (a1.length : Int) by omega), cond_false])
  have e3 : impl_ClusterFault_l26 K0 (a2.length : Int) 0 a0 a1 a2 a3 a4 = _ := find_loop (fun k i => impl_ClusterFault_l26 k (a2.length : Int) (i : Int) a0 a1 a2 a3 a4) a2.length (overBad a1 a2) (fun _ => Sum.inl (1, ())) (Sum.inr ()) (by omega) (by
    intro k i hi
    show impl_ClusterFault_l26_step (impl_ClusterFault_l26 k) (a2.length : Int) (i : Int) a0 a1 a2 a3 a4 = _
    unfold impl_ClusterFault_l26_step
    simp only [decp (show (i : Int) < (a2.length : Int) by omega), impl_within _ _ _ _ _ i hi l1, Option.bind_some, Bool.not_not, cond_true, wrap_i i a2.length hi (by omega)]) (by
    intro k
    show impl_ClusterFault_l26_step (impl_ClusterFault_l26 k) (a2.length : Int) (a2.length : Int) a0 a1 a2 a3 a4 = _
    unfold impl_ClusterFault_l26_step
    simp only [decn (show ¬ (a2.length : Int) < (a2.length : Int) by omega), cond_false])
  dsimp only
  rw [e0]
  simp only [yin_eq, Option.getD_some, Option.isSome_some, Bool.or_true, Bool.and_true, cond_true, out_in]
  have eT : (decide ((a2.length : Int) < 1) || decide ((a2.length : Int) > 8)) = (decide ((a2.length : Int) < 1) || decide ((a2.length : Int) > 8)) := rfl
  generalize (decide ((a2.length : Int) < 1) || decide ((a2.length : Int) > 8)) = bT
  generalize (decide (a3 < 100) || decide (a3 > 400)) = bO
  generalize (decide (a4 < 0) || decide (a4 > 1099511627776)) = bM
  generalize decide ((a0.length : Int) > 12) = bN
  generalize decide ((a1.length : Int) > 30) = bV
  have key : (impl_ClusterFault_l10 K0 a2 (a2.length : Int) 0 a0 a1 a2 a3 a4).bind (fun o25 => match o25 with
        | Sum.inl p26 => some (p26.1, ())
        | Sum.inr p27 =>
          (impl_ClusterFault_l16 K0 p27.2.1 (p27.2.1.length : Int) 0 p27.1 p27.2.1 p27.2.2.1 p27.2.2.2.1 p27.2.2.2.2.1).bind fun o39 =>
          match o39 with
          | Sum.inl p40 => some (p40.1, ())
          | Sum.inr p41 =>
            (impl_ClusterFault_l26 K0 (p41.2.2.1.length : Int) 0 p41.1 p41.2.1 p41.2.2.1 p41.2.2.2.1 p41.2.2.2.2.1).bind fun o43 =>
            match o43 with
            | Sum.inl p44 => some (p44.1, ())
            | Sum.inr p45 => some (0, ())) =
      some (bif (!(findN (vmBad a0 a1 (a2.length : Int) a3) a1.length 0).isNone || (!(findN (tenBad a1 a2) a2.length 0).isNone || !(findN (overBad a1 a2) a2.length 0).isNone)) then (1 : Int) else 0, ()) := by
    rw [e1]
    cases findN (tenBad a1 a2) a2.length 0 with
    | some j => simp
    | none =>
      simp only [Option.bind_some]
      rw [e2]
      cases findN (vmBad a0 a1 (a2.length : Int) a3) a1.length 0 with
      | some j => simp
      | none =>
        simp only [Option.bind_some]
        rw [e3]
        cases findN (overBad a1 a2) a2.length 0 with
        | some j => simp
        | none => simp
  cases bN <;> cases bV <;> cases bT <;> cases bO <;> cases bM <;> cases findN (nodeBad a0 a4) a0.length 0 <;> first | rfl | exact key
abbrev An := Int × ByteArray × ByteArray
abbrev Jb := Int × ByteArray × List ByteArray × Int × Int
theorem findN_split (p : Nat → Bool) : ∀ (a b i : Nat), findN p (a + b) i = match findN p a i with
    | some j => some j
    | none => findN p b (i + a)
  | 0, b, i => by simp [findN]
  | a + 1, b, i => by
    rw [show a + 1 + b = (a + b) + 1 by omega]
    simp only [findN]
    cases p i with
    | true => rfl
    | false => simp only [cond_false]; rw [findN_split p a b (i + 1), show i + 1 + a = i + (a + 1) by omega]
def keptAt (l : List An) (id : Int) : Int := match findN (fun k => (rd R3 l (k : Int)).1 == id) l.length 0 with
  | some i => (i : Int)
  | none => -1
theorem impl_kept (a0 : List Nd) (a1 : List Vm) (a2 : List Tn) (a3 a4 : Int) (a5 : List An) (a6 : List Jb) (a7 id : Int) (h : a5.length ≤ 1048576) : impl_Manager_ykept a0 a1 a2 a3 a4 a5 a6 a7 id = some (keptAt a5 id, ()) := by
  unfold impl_Manager_ykept slices_IndexFunc_Answer
  have e : slices_IndexFunc_Answer_l2 K0 a5 id (a5.length : Int) 0 = _ := find_loop (fun k i => slices_IndexFunc_Answer_l2 k a5 id (a5.length : Int) (i : Int)) a5.length (fun k => (rd R3 a5 (k : Int)).1 == id) (fun i => Sum.inl ((i : Int), ())) (Sum.inr ()) (by omega) (by
    intro k i hi
    show slices_IndexFunc_Answer_l2_step (slices_IndexFunc_Answer_l2 k) a5 id (a5.length : Int) (i : Int) = _
    unfold slices_IndexFunc_Answer_l2_step impl_Manager_ykept_1
    simp only [decp (show (i : Int) < (a5.length : Int) by omega), decp (show (0 : Int) ≤ (i : Int) by omega), Option.bind_some, Bool.and_true, cond_true, wrap_i i a5.length hi (by omega)]) (by
    intro k
    show slices_IndexFunc_Answer_l2_step (slices_IndexFunc_Answer_l2 k) a5 id (a5.length : Int) (a5.length : Int) = _
    unfold slices_IndexFunc_Answer_l2_step
    simp only [decn (show ¬ (a5.length : Int) < (a5.length : Int) by omega), cond_false])
  rw [e]
  unfold keptAt
  cases findN (fun k => (rd R3 a5 (k : Int)).1 == id) a5.length 0 <;> rfl
def dupB (l : List An) (i : Nat) : Bool := (findN (fun k => (rd R3 l (k : Int)).1 == (rd R3 l (i : Int)).1) i 0).isSome
theorem kept_dup (l : List An) (i : Nat) (hi : i < l.length) : (keptAt l (rd R3 l (i : Int)).1 != (i : Int)) = dupB l i := by
  unfold keptAt dupB
  obtain ⟨d, hd⟩ : ∃ d, l.length = i + (d + 1) := ⟨l.length - i - 1, by omega⟩
  rw [hd, findN_split]
  cases hf : findN (fun k => (rd R3 l (k : Int)).1 == (rd R3 l (i : Int)).1) i 0 with
  | none =>
    simp only [findN, Nat.zero_add, beq_self_eq_true, cond_true, Option.isSome_none, bne_self_eq_false]
  | some j =>
    have := findN_some hf
    simp only [Option.isSome_some, bne_iff_ne, ne_eq]
    omega
def keptBad (l : List An) (i : Nat) : Bool :=
  let e := rd R3 l (i : Int)
  (((decide (e.1 < 1) || decide (e.1 > 999999999)) || decide ((e.2.1.size : Int) > 400)) || decide ((e.2.2.size : Int) > 400)) || dupB l i
def namesBad (l : List ByteArray) : Bool := (findN (fun k => !nameOk (rd .str l (k : Int))) l.length 0).isSome
theorem small_at {l : List ByteArray} (h : small (.slice .str) l) (i : Nat) (hi : i < l.length) : (rd .str l (i : Int)).size ≤ 1048576 := by
  rw [rd_at .str l i hi]
  exact h.2 _ (List.getElem_mem hi)
theorem impl_names (l : List ByteArray) (h : small (.slice .str) l) : slices_ContainsFunc_string l = some (namesBad l, ()) := by
  have hl : l.length ≤ 1048576 := h.1
  unfold slices_ContainsFunc_string slices_IndexFunc_string namesBad
  have e : slices_IndexFunc_string_l2 K0 l (l.length : Int) 0 = _ := find_loop (fun k i => slices_IndexFunc_string_l2 k l (l.length : Int) (i : Int)) l.length (fun k => !nameOk (rd .str l (k : Int))) (fun i => Sum.inl ((i : Int), ())) (Sum.inr ()) (by omega) (by
    intro k i hi
    show slices_IndexFunc_string_l2_step (slices_IndexFunc_string_l2 k) l (l.length : Int) (i : Int) = _
    unfold slices_IndexFunc_string_l2_step impl_ManagerFault_1
    simp only [decp (show (i : Int) < (l.length : Int) by omega), decp (show (0 : Int) ≤ (i : Int) by omega), impl_name _ (Nat.le_trans (small_at h i hi) (by decide)), Option.bind_some, Bool.and_true, cond_true, wrap_i i l.length hi (by omega)]) (by
    intro k
    show slices_IndexFunc_string_l2_step (slices_IndexFunc_string_l2 k) l (l.length : Int) (l.length : Int) = _
    unfold slices_IndexFunc_string_l2_step
    simp only [decn (show ¬ (l.length : Int) < (l.length : Int) by omega), cond_false])
  rw [e]
  cases findN (fun k => !nameOk (rd .str l (k : Int))) l.length 0 with
  | none => rfl
  | some j =>
    simp only [Option.bind_some, Option.isSome_some]
    rw [decp (show (j : Int) ≥ 0 by omega)]
def jobB (e : Jb) : Bool := (((((!nameOk e.2.1 || decide ((e.2.2.1.length : Int) > 30)) || decide (e.2.2.2.1 < 0)) || decide (e.2.2.2.1 > 1099511627776)) || decide (e.2.2.2.2 < 0)) || decide (e.2.2.2.2 > 3)) || namesBad e.2.2.1
theorem spec_job (e : Jb) (h : small (.pair .str (.pair (.slice .str) (.pair (.int .i64) (.int .i64)))) e.2) : spec_l23Job e.1 e.2.1 e.2.2.1 e.2.2.2.1 e.2.2.2.2 = some (!jobB e, ()) := by
  have hn : e.2.1.size ≤ 1048576 := h.1
  have hs : small (.slice .str) e.2.2.1 := h.2.1
  have hl : e.2.2.1.length ≤ 1048576 := hs.1
  unfold spec_l23Job jobB namesBad
  rw [spec_name _ (by omega)]
  have e1 : spec_l23Job_l4 K0 0 e.1 e.2.1 e.2.2.1 e.2.2.2.1 e.2.2.2.2 = _ := find_loop (fun k i => spec_l23Job_l4 k (i : Int) e.1 e.2.1 e.2.2.1 e.2.2.2.1 e.2.2.2.2) e.2.2.1.length (fun k => !nameOk (rd .str e.2.2.1 (k : Int))) (fun i => Sum.inl (false, ())) (Sum.inr ()) (by omega) (by
    intro k i hi
    show spec_l23Job_l4_step (spec_l23Job_l4 k) (i : Int) e.1 e.2.1 e.2.2.1 e.2.2.2.1 e.2.2.2.2 = _
    unfold spec_l23Job_l4_step
    simp only [decp (show (i : Int) < (e.2.2.1.length : Int) by omega), decp (show (0 : Int) ≤ (i : Int) by omega), spec_name _ (Nat.le_trans (small_at hs i hi) (by decide)), Option.bind_some, Bool.and_true, cond_true, wrap_i i e.2.2.1.length hi (by omega)]) (by
    intro k
    show spec_l23Job_l4_step (spec_l23Job_l4 k) (e.2.2.1.length : Int) e.1 e.2.1 e.2.2.1 e.2.2.2.1 e.2.2.2.2 = _
    unfold spec_l23Job_l4_step
    simp only [decn (show ¬ (e.2.2.1.length : Int) < (e.2.2.1.length : Int) by omega), cond_false])
  simp only [Option.bind_some]
  cases (((((!nameOk e.2.1 || decide ((e.2.2.1.length : Int) > 30)) || decide (e.2.2.2.1 < 0)) || decide (e.2.2.2.1 > 1099511627776)) || decide (e.2.2.2.2 < 0)) || decide (e.2.2.2.2 > 3)) with
  | true => rfl
  | false =>
    rw [cond_false, e1]
    cases findN (fun k => !nameOk (rd .str e.2.2.1 (k : Int))) e.2.2.1.length 0 <;> rfl
def jobBad (l : List Jb) (next : Int) (i : Nat) : Bool :=
  let e := rd R4 l (i : Int)
  let p := decide ((i : Int) > 0) && decide ((rd R4 l (wrap64 ((i : Int) - 1))).1 ≥ e.1)
  ((jobB e || decide (e.1 < 1)) || decide (e.1 ≥ next)) || p
theorem small_job {l : List Jb} (h : small (.slice R4) l) (i : Nat) (hi : i < l.length) : small (.pair .str (.pair (.slice .str) (.pair (.int .i64) (.int .i64)))) (rd R4 l (i : Int)).2 := by
  rw [rd_at R4 l i hi]
  exact (h.2 _ (List.getElem_mem hi)).2
def manBad (a0 : List Nd) (a1 : List Vm) (a2 : List Tn) (a3 a4 : Int) (a5 : List An) (a6 : List Jb) (a7 : Int) : Bool :=
  (((clBad a0 a1 a2 a3 a4 || decide ((a5.length : Int) > 20)) || decide ((a6.length : Int) > 20)) || (decide (a7 < 1) || decide (a7 > 1099511627776))) || ((findN (keptBad a5) a5.length 0).isSome || (findN (jobBad a6 a7) a6.length 0).isSome)
theorem code_ne (b : Bool) : ((bif b then (1 : Int) else 0) != 0) = b := by cases b <;> rfl
theorem spec_man (a0 : List Nd) (a1 : List Vm) (a2 : List Tn) (a3 a4 : Int) (a5 : List An) (a6 : List Jb) (a7 : Int) (h0 : small (.slice R1) a0) (h1 : small (.slice R2) a1) (h2 : a2.length ≤ 1048576) (h5 : a5.length ≤ 1048576) (h6 : small (.slice R4) a6) :
    spec_ManagerFault a0 a1 a2 a3 a4 a5 a6 a7 = some (bif manBad a0 a1 a2 a3 a4 a5 a6 a7 then 1 else 0, ()) := by
  have l6 : a6.length ≤ 1048576 := h6.1
  unfold spec_ManagerFault manBad
  rw [spec_fault _ _ _ _ _ h0 h1 h2]
  have e1 : spec_ManagerFault_l4 K0 0 a0 a1 a2 a3 a4 a5 a6 a7 = _ := find_loop (fun k i => spec_ManagerFault_l4 k (i : Int) a0 a1 a2 a3 a4 a5 a6 a7) a5.length (keptBad a5) (fun i => Sum.inl (1, ())) (Sum.inr (a0, a1, a2, a3, a4, a5, a6, a7, ())) (by omega) (by
    intro k i hi
    show spec_ManagerFault_l4_step (spec_ManagerFault_l4 k) (i : Int) a0 a1 a2 a3 a4 a5 a6 a7 = _
    unfold spec_ManagerFault_l4_step keptBad dupB
    have e2 : spec_ManagerFault_l10 K0 (i : Int) 0 a0 a1 a2 a3 a4 a5 a6 a7 (rd R3 a5 (i : Int)).1 (rd R3 a5 (i : Int)).2.1 (rd R3 a5 (i : Int)).2.2 = _ := find_loop (fun k j => spec_ManagerFault_l10 k (i : Int) (j : Int) a0 a1 a2 a3 a4 a5 a6 a7 (rd R3 a5 (i : Int)).1 (rd R3 a5 (i : Int)).2.1 (rd R3 a5 (i : Int)).2.2) i (fun k => (rd R3 a5 (k : Int)).1 == (rd R3 a5 (i : Int)).1) (fun _ => Sum.inl (1, ())) (Sum.inr ((i : Int), a0, a1, a2, a3, a4, a5, a6, a7, ())) (by omega) (by
      intro k j hj
      show spec_ManagerFault_l10_step (spec_ManagerFault_l10 k) (i : Int) (j : Int) a0 a1 a2 a3 a4 a5 a6 a7 (rd R3 a5 (i : Int)).1 (rd R3 a5 (i : Int)).2.1 (rd R3 a5 (i : Int)).2.2 = _
      unfold spec_ManagerFault_l10_step
      simp only [decp (show (j : Int) < (i : Int) by omega), decp (show (j : Int) < (a5.length : Int) by omega), decp (show (0 : Int) ≤ (j : Int) by omega), Bool.and_true, cond_true, wrap_i j a5.length (by omega) (by omega)]) (by
      intro k
      show spec_ManagerFault_l10_step (spec_ManagerFault_l10 k) (i : Int) (i : Int) a0 a1 a2 a3 a4 a5 a6 a7 (rd R3 a5 (i : Int)).1 (rd R3 a5 (i : Int)).2.1 (rd R3 a5 (i : Int)).2.2 = _
      unfold spec_ManagerFault_l10_step
      simp only [decn (show ¬ (i : Int) < (i : Int) by omega), cond_false])
    simp only [decp (show (i : Int) < (a5.length : Int) by omega), decp (show (0 : Int) ≤ (i : Int) by omega), Bool.and_true, cond_true]
    cases (((decide ((rd R3 a5 (i : Int)).1 < 1) || decide ((rd R3 a5 (i : Int)).1 > 999999999)) || decide (((rd R3 a5 (i : Int)).2.1.size : Int) > 400)) || decide (((rd R3 a5 (i : Int)).2.2.size : Int) > 400)) with
    | true => rfl
    | false =>
      simp only [cond_false, Bool.false_or]
      rw [e2]
      cases findN (fun k => (rd R3 a5 (k : Int)).1 == (rd R3 a5 (i : Int)).1) i 0 with
      | none => simp only [Option.bind_some, Option.isSome_none, cond_false, wrap_i i a5.length hi (by omega)]
      | some j => rfl) (by
    intro k
    show spec_ManagerFault_l4_step (spec_ManagerFault_l4 k) (a5.length : Int) a0 a1 a2 a3 a4 a5 a6 a7 = _
    unfold spec_ManagerFault_l4_step
    simp only [decn (show ¬ (a5.length : Int) < (a5.length : Int) by omega), cond_false])
  have e3 : spec_ManagerFault_l15 K0 0 a0 a1 a2 a3 a4 a5 a6 a7 = _ := find_loop (fun k i => spec_ManagerFault_l15 k (i : Int) a0 a1 a2 a3 a4 a5 a6 a7) a6.length (jobBad a6 a7) (fun i => Sum.inl (1, ())) (Sum.inr ()) (by omega) (by
    intro k i hi
    show spec_ManagerFault_l15_step (spec_ManagerFault_l15 k) (i : Int) a0 a1 a2 a3 a4 a5 a6 a7 = _
    unfold spec_ManagerFault_l15_step jobBad
    simp only [decp (show (i : Int) < (a6.length : Int) by omega), decp (show (0 : Int) ≤ (i : Int) by omega), spec_job _ (small_job h6 i hi), Option.getD_some, Option.isSome_some, Bool.not_not, Bool.true_and, Bool.and_true, back_ok i a6.length hi l6, cond_true, wrap_i i a6.length hi (by omega)]) (by
    intro k
    show spec_ManagerFault_l15_step (spec_ManagerFault_l15 k) (a6.length : Int) a0 a1 a2 a3 a4 a5 a6 a7 = _
    unfold spec_ManagerFault_l15_step
    simp only [decn (show ¬ (a6.length : Int) < (a6.length : Int) by omega), cond_false])
  simp only [Option.bind_some, code_ne]
  rw [Bool.or_assoc _ (decide (a7 < 1))]
  cases (((clBad a0 a1 a2 a3 a4 || decide ((a5.length : Int) > 20)) || decide ((a6.length : Int) > 20)) || (decide (a7 < 1) || decide (a7 > 1099511627776))) with
  | true => rfl
  | false =>
    rw [cond_false, e1]
    cases findN (keptBad a5) a5.length 0 with
    | some j => rfl
    | none =>
      simp only [Option.bind_some]
      rw [e3]
      cases findN (jobBad a6 a7) a6.length 0 <;> rfl
theorem job_same (bn p bs : Bool) (n next : Int) (len done st : Int) : ((((((!decide (1 ≤ n ∧ n ≤ next - 1) || p) || !bn) || decide (len > 30)) || bs) || !decide (0 ≤ done ∧ done ≤ 1099511627776)) || !decide (0 ≤ st ∧ st ≤ 3)) =
    ((((((((((!bn || decide (len > 30)) || decide (done < 0)) || decide (done > 1099511627776)) || decide (st < 0)) || decide (st > 3)) || bs) || decide (n < 1)) || decide (n ≥ next)) || p)) := by
  rw [out_in, out_in, out_in]
  rw [Bool.eq_iff_iff]
  cases bn <;> cases p <;> cases bs <;> simp only [Bool.not_true, Bool.not_false, Bool.or_eq_true, decide_eq_true_eq, Bool.or_true, Bool.or_false, Bool.true_or, Bool.false_or] <;> omega
theorem impl_man (a0 : List Nd) (a1 : List Vm) (a2 : List Tn) (a3 a4 : Int) (a5 : List An) (a6 : List Jb) (a7 : Int) (h0 : small (.slice R1) a0) (h1 : small (.slice R2) a1) (h2 : a2.length ≤ 1048576) (h5 : a5.length ≤ 1048576) (h6 : small (.slice R4) a6) :
    impl_ManagerFault a0 a1 a2 a3 a4 a5 a6 a7 = some (bif manBad a0 a1 a2 a3 a4 a5 a6 a7 then 1 else 0, ()) := by
  have l6 : a6.length ≤ 1048576 := h6.1
  unfold impl_ManagerFault manBad
  rw [impl_fault _ _ _ _ _ h0 h1 h2]
  have e1 : impl_ManagerFault_l4 K0 a5 (a5.length : Int) 0 a0 a1 a2 a3 a4 a5 a6 a7 = _ := find_loop (fun k i => impl_ManagerFault_l4 k a5 (a5.length : Int) (i : Int) a0 a1 a2 a3 a4 a5 a6 a7) a5.length (keptBad a5) (fun i => Sum.inl (1, ())) (Sum.inr (a0, a1, a2, a3, a4, a5, a6, a7, ())) (by omega) (by
    intro k i hi
    show impl_ManagerFault_l4_step (impl_ManagerFault_l4 k) a5 (a5.length : Int) (i : Int) a0 a1 a2 a3 a4 a5 a6 a7 = _
    unfold impl_ManagerFault_l4_step keptBad
    simp only [decp (show (i : Int) < (a5.length : Int) by omega), decp (show (0 : Int) ≤ (i : Int) by omega), yin_eq, impl_kept _ _ _ _ _ _ _ _ _ h5, Option.bind_some, Option.getD_some, Option.isSome_some, Bool.or_true, Bool.and_true, cond_true, out_in, kept_dup a5 i hi, wrap_i i a5.length hi (by omega)]) (by
    intro k
    show impl_ManagerFault_l4_step (impl_ManagerFault_l4 k) a5 (a5.length : Int) (a5.length : Int) a0 a1 a2 a3 a4 a5 a6 a7 = _
    unfold impl_ManagerFault_l4_step
    simp only [decn (show ¬ (a5.length : Int) < (a5.length : Int) by omega), cond_false])
  simp only [Option.bind_some, code_ne, yin_eq, Option.getD_some, Option.isSome_some, Bool.or_true, cond_true, out_in]
  by_cases h7 : a7 < 1 ∨ a7 > 1099511627776
  · have hb : (decide (a7 < 1) || decide (a7 > 1099511627776)) = true := by simpa using h7
    rw [hb]
    simp only [Bool.or_true, Bool.true_or, cond_true]
  have hb : (decide (a7 < 1) || decide (a7 > 1099511627776)) = false := by
    simp only [Bool.or_eq_false_iff, decide_eq_false_iff_not]; omega
  have hw : wrap64 (a7 - 1) = a7 - 1 := wrap_id (by omega) (by omega)
  have e3 : impl_ManagerFault_l10 K0 a6 (a6.length : Int) 0 a0 a1 a2 a3 a4 a5 a6 a7 = _ := find_loop (fun k i => impl_ManagerFault_l10 k a6 (a6.length : Int) (i : Int) a0 a1 a2 a3 a4 a5 a6 a7) a6.length (jobBad a6 a7) (fun i => Sum.inl (1, ())) (Sum.inr ()) (by omega) (by
    intro k i hi
    show impl_ManagerFault_l10_step (impl_ManagerFault_l10 k) a6 (a6.length : Int) (i : Int) a0 a1 a2 a3 a4 a5 a6 a7 = _
    unfold impl_ManagerFault_l10_step jobBad jobB
    have hs := small_job h6 i hi
    have hn : (rd R4 a6 (i : Int)).2.1.size ≤ 1048576 := hs.1
    simp only [decp (show (i : Int) < (a6.length : Int) by omega), decp (show (0 : Int) ≤ (i : Int) by omega), hw, impl_name _ (Nat.le_trans hn (by decide)), impl_names _ hs.2.1, yin_eq, Option.getD_some, Option.isSome_some, Bool.or_true, Bool.true_and, Bool.and_true, back_ok i a6.length hi l6, cond_true, wrap_i i a6.length hi (by omega), job_same]) (by
    intro k
    show impl_ManagerFault_l10_step (impl_ManagerFault_l10 k) a6 (a6.length : Int) (a6.length : Int) a0 a1 a2 a3 a4 a5 a6 a7 = _
    unfold impl_ManagerFault_l10_step
    simp only [decn (show ¬ (a6.length : Int) < (a6.length : Int) by omega), cond_false])
  rw [hb]
  simp only [Bool.or_false]
  cases ((clBad a0 a1 a2 a3 a4 || decide ((a5.length : Int) > 20)) || decide ((a6.length : Int) > 20)) with
  | true => rfl
  | false =>
    rw [cond_false, e1]
    cases findN (keptBad a5) a5.length 0 with
    | some j => rfl
    | none =>
      simp only [Option.bind_some]
      rw [e3]
      cases findN (jobBad a6 a7) a6.length 0 <;> rfl
theorem FnExactManagerFault : laws_FnExactManagerFault.Pure := by
  intro x0 g0
  unfold laws_FnExactManagerFault
  obtain ⟨n1, e1, l1, m1, s1⟩ := laws_szManager_ok x0.1.1 x0.1.2.1 x0.1.2.2.1 x0.1.2.2.2.1 x0.1.2.2.2.2 x0.2.1 x0.2.2.1 x0.2.2.2 1048576 (by decide) (by decide) g0.1.1 g0.1.2.1 g0.1.2.2.1 g0.2.1 g0.2.2.1
  rw [e1]
  simp only [Option.bind_some]
  by_cases c1 : n1 < 0
  · rw [decp c1]; rfl
  rw [decn c1]
  simp only [cond_false]
  have s := s1 (by omega)
  have t1 := lens_of s
  have a1 := laws_toManager_ok x0.1.1 x0.1.2.1 x0.1.2.2.1 x0.1.2.2.2.1 x0.1.2.2.2.2 x0.2.1 x0.2.2.1 x0.2.2.2 t1.1 t1.2.1 t1.2.2.1 t1.2.2.2.2.2.1 t1.2.2.2.2.2.2.1
  have q1 := laws_eqManager_ok x0.1.1 x0.1.2.1 x0.1.2.2.1 x0.1.2.2.2.1 x0.1.2.2.2.2 x0.2.1 x0.2.2.1 x0.2.2.2 t1.1 t1.2.1 t1.2.2.1 t1.2.2.2.2.2.1 t1.2.2.2.2.2.2.1
  simp only [a1, Option.bind_some, spec_man _ _ _ _ _ _ _ _ s.1 s.2.1 s.2.2.1.1 s.2.2.2.2.2.1.1 s.2.2.2.2.2.2.1, impl_man _ _ _ _ _ _ _ _ s.1 s.2.1 s.2.2.1.1 s.2.2.2.2.2.1.1 s.2.2.2.2.2.2.1, bne_self_eq_false, cond_false, q1, Bool.not_true]
end Go.Ab.FnExactManagerFault.Pure
