/- The plain statement of the law FnSerialBytes. -/
import Derived.Test.YtaopkodopglgeaaAbStFnSerialBytes
import Derived.Laws.BitsLemmas
namespace Go.Ab.FnSerialBytes.Pure
open Go.RowKit Go.Ab
set_option linter.unusedVariables false
set_option linter.unusedSimpArgs false
theorem wrap_id {x : Int} (h0 : -9223372036854775808 ≤ x) (h1 : x ≤ 9223372036854775807) : wrap64 x = x := by unfold wrap64; omega
theorem K0_ge {n : Nat} (h : n ≤ 18446744073709551616) : ∃ k, K0 = k + n := ⟨K0 - n, by rw [K0_eq]; omega⟩
theorem roomy_ok {n b : Int} (h : n * b ≤ 140737488355328) : roomy n b = true := by unfold roomy; rw [M0_eq]; simpa using h
theorem rd_nat (t : Ty) (l : List t.val) (i : Nat) : rd t l (i : Int) = l.getD i t.dflt := by unfold rd; rw [Int.toNat_natCast]
theorem rd_at (t : Ty) (l : List t.val) (i : Nat) (h : i < List.length l) : rd t l (i : Int) = l[i]'h := by rw [rd_nat]; simp [h]
theorem decp {p : Prop} [Decidable p] (h : p) : decide p = true := decide_eq_true h
theorem decn {p : Prop} [Decidable p] (h : ¬ p) : decide p = false := decide_eq_false h
theorem bt_range (m : ByteArray) (a : Int) : 0 ≤ bt m a ∧ bt m a ≤ 255 := by
  unfold bt
  have := (m.data.getD a.toNat 0).toNat_lt
  omega
theorem shl_eq {x s : Int} (n : Nat) (hs : s = (n : Int)) (h : n ≤ 64) (h0 : 0 ≤ x * 2 ^ n) (h1 : x * 2 ^ n ≤ 9223372036854775807) : shl .i64 x s = x * 2 ^ n := by
  subst hs
  unfold shl
  rw [Int.toNat_natCast, show min n IntKind.i64.bits = n from Nat.min_eq_left h, IntKind.wrap_i64]
  omega
theorem wrap_succ (i n : Nat) (h : i < n) (hn : n ≤ 140737488351232) : wrap64 ((i : Int) + 1) = ((i + 1 : Nat) : Int) := by
  unfold wrap64; omega
theorem yin_eq (a b c : Int) : impl_yin a b c = some (decide (b ≤ a ∧ a ≤ c), ()) := by
  unfold impl_yin
  dsimp only
  congr 2
  rw [Bool.eq_iff_iff]
  simp
theorem mod_eq (a b : Int) (hb : 0 < b) : (if a.tmod b < 0 then a.tmod b + b else a.tmod b) = a % b := by
  have h1 := Int.emod_nonneg a (show b ≠ 0 by omega)
  have h2 := Int.emod_lt_of_pos a hb
  rw [Int.tmod_eq_emod]
  by_cases h : 0 ≤ a ∨ b ∣ a
  · rw [if_pos h]; simp; omega
  · rw [if_neg h, if_pos (by omega)]; omega
theorem mod_cond (a b : Int) (hb : 0 < b) (hb2 : b ≤ 4611686018427387904) : (bif decide (a.tmod b < 0) then wrap64 (a.tmod b + b) else a.tmod b) = a % b := by
  rw [← mod_eq a b hb]
  have h1 := Int.emod_nonneg a (show b ≠ 0 by omega)
  have h2 := Int.emod_lt_of_pos a hb
  by_cases h : a.tmod b < 0
  · have h3 : -b < a.tmod b := by
      rw [Int.tmod_eq_emod]; split <;> omega
    rw [decp h, if_pos h]
    exact wrap_id (by omega) (by omega)
  · rw [decn h, if_neg h]; rfl
/-- What is told of sizes once they are counted. -/
def small : (t : Ty) → t.val → Prop
  | .str, x => x.size ≤ 1048576
  | .slice t, l => List.length l ≤ 1048576 ∧ ∀ y ∈ (show List t.val from l), small t y
  | .pair a b, x => small a x.1 ∧ small b x.2
  | _, _ => True
/-- The same of rows alone. -/
def lens : (t : Ty) → t.val → Prop
  | .slice t, l => List.length l ≤ 1048576 ∧ ∀ y ∈ (show List t.val from l), lens t y
  | .pair a b, x => lens a x.1 ∧ lens b x.2
  | _, _ => True
theorem lens_of : ∀ {t : Ty} {x : t.val}, small t x → lens t x
  | .slice t, l, h => ⟨h.1, fun y hy => lens_of (h.2 y hy)⟩
  | .pair a b, x, h => ⟨lens_of h.1, lens_of h.2⟩
  | .str, _, _ => trivial
  | .int _, _, _ => trivial
  | .bool, _, _ => trivial
  | .unit, _, _ => trivial
  | .sum _ _, _, _ => trivial
  | .opq, _, _ => trivial
theorem lens_flat {t : Ty} (h : flat t = true) (x : t.val) : lens t x := by
  induction t with
  | slice t _ => simp [flat] at h
  | pair a b iha ihb => simp only [flat, Bool.and_eq_true] at h; exact ⟨iha h.1 x.1, ihb h.2 x.2⟩
  | _ => trivial
theorem lens_row {t : Ty} (h : flat t = true) {l : List t.val} (hl : l.length ≤ 1048576) : lens (.slice t) l := ⟨hl, fun y _ => lens_flat h y⟩
theorem lens_at {t : Ty} {l : List t.val} (h : lens (.slice t) l) (i : Nat) (hi : i < List.length l) : lens t (l[i]'hi) := h.2 _ (List.getElem_mem hi)
theorem good_at {t : Ty} {l : List t.val} (h : good (.slice t) l) (i : Nat) (hi : i < List.length l) : good t (l[i]'hi) := h.2 _ (List.getElem_mem hi)
theorem small_row {t : Ty} {l : List t.val} (hl : List.length l ≤ 1048576) (h : ∀ i, (hi : i < List.length l) → small t (l[i]'hi)) : small (.slice t) l := ⟨hl, fun y hy => by
  obtain ⟨i, hi, rfl⟩ := List.getElem_of_mem hy
  exact h i hi⟩
theorem maxLen_lt {n : Nat} (h : n ≤ maxLen) : n ≤ 9223372036854775807 := by unfold maxLen at h; omega
theorem wrap_inc (m j : Int) (h0 : 0 ≤ m) (h1 : m ≤ 4000000000000000000) (h2 : 0 ≤ j) (h3 : j ≤ 1000000) : wrap64 (m + j + 1) = m + (j + 1) := by
  unfold wrap64; omega
theorem wrap_i (i n : Nat) (h : i < n) (hn : n ≤ 9223372036854775807) : wrap64 ((i : Int) + 1) = ((i + 1 : Nat) : Int) := by
  unfold wrap64; omega
theorem rd_set (t : Ty) (l : List t.val) (i : Nat) (v : t.val) (h : i < List.length l) : rd t (List.set l i v) (i : Int) = v := by
  rw [rd_at t _ i (by simpa using h)]; simp
theorem b2s_one (n : Int) : (b2s [n]).size = 1 := rfl
theorem bsize_app (a b : ByteArray) : (a ++ b).size = a.size + b.size := ByteArray.size_append
theorem seq_self (s : ByteArray) : seq s s = true := by unfold seq; simp
theorem seq_ne_self (s : ByteArray) : (!seq s s) = false := by rw [seq_self]; rfl
/-- A loop that lays each element as it is. -/
theorem to_loop {α : Type} (F : Nat → List α → Nat → List α → Option (List α × Unit)) (l : List α) (hl : l.length ≤ 9223372036854775807)
    (hF : ∀ (k i : Nat) (ys : List α) (hi : i < l.length), ys.length = l.length → F (k + 1) l i ys = F k l (i + 1) (ys.set i l[i]))
    (hE : ∀ (k : Nat) (ys : List α), F (k + 1) l l.length ys = some (ys, ())) (ys : List α) (hy : ys.length = l.length) : F K0 l 0 ys = some (l, ()) := by
  have key : ∀ (d k i : Nat) (ys : List α), i + d = l.length → d < k → ys.length = l.length → (∀ j, j < i → ys[j]? = l[j]?) → F k l i ys = some (l, ()) := by
    intro d
    induction d with
    | zero =>
      intro k i ys hi hk hy hj
      obtain ⟨k, rfl⟩ : ∃ q, k = q + 1 := ⟨k - 1, by omega⟩
      have : i = l.length := by omega
      subst this
      rw [hE]
      congr 2
      apply List.ext_getElem? 
      intro j
      by_cases h : j < l.length
      · exact hj j h
      · rw [List.getElem?_eq_none (by omega), List.getElem?_eq_none (by omega)]
    | succ d ih =>
      intro k i ys hi hk hy hj
      obtain ⟨k, rfl⟩ : ∃ q, k = q + 1 := ⟨k - 1, by omega⟩
      rw [hF k i ys (by omega) hy]
      refine ih k (i + 1) _ (by omega) (by omega) (by simpa using hy) fun j hjj => ?_
      by_cases h : j = i
      · subst h
        rw [List.getElem?_set_self (by omega), List.getElem?_eq_getElem (by omega)]
      · rw [List.getElem?_set_ne (by omega)]
        exact hj j (by omega)
  exact key l.length K0 0 ys (by omega) (by rw [K0_eq]; omega) hy (fun j hj => by omega)
/-- A loop that takes from what is left, or is at its end. -/
theorem sz_loop {α : Type} (F : Nat → List α → Int → Nat → Option ((Int × Unit) ⊕ (Int × Unit))) (P : α → Prop) (l : List α) (hl : l.length ≤ 9223372036854775807)
    (hF : ∀ (k i : Nat) (left : Int) (hi : i < l.length), 0 ≤ left → left ≤ 1048576 → ∃ n, n ≤ left ∧ -1 ≤ n ∧ (0 ≤ n → P l[i]) ∧ F (k + 1) l left i = bif decide (n < 0) then some (Sum.inl (-1, ())) else F k l n (i + 1))
    (hE : ∀ (k : Nat) (left : Int), F (k + 1) l left l.length = some (Sum.inr (left, ()))) (left : Int) (h0 : 0 ≤ left) (h1 : left ≤ 1048576) :
    F K0 l left 0 = some (Sum.inl (-1, ())) ∨ ∃ n, n ≤ left ∧ 0 ≤ n ∧ (∀ i, (hi : i < l.length) → P l[i]) ∧ F K0 l left 0 = some (Sum.inr (n, ())) := by
  have key : ∀ (d k i : Nat) (left : Int), i + d = l.length → d < k → 0 ≤ left → left ≤ 1048576 → F k l left i = some (Sum.inl (-1, ())) ∨ ∃ n, n ≤ left ∧ 0 ≤ n ∧ (∀ j, i ≤ j → (hj : j < l.length) → P l[j]) ∧ F k l left i = some (Sum.inr (n, ())) := by
    intro d
    induction d with
    | zero =>
      intro k i left hi hk h0 h1
      obtain ⟨k, rfl⟩ : ∃ q, k = q + 1 := ⟨k - 1, by omega⟩
      have : i = l.length := by omega
      subst this
      exact .inr ⟨left, by omega, h0, fun j h1 h2 => by omega, hE k left⟩
    | succ d ih =>
      intro k i left hi hk h0 h1
      obtain ⟨k, rfl⟩ : ∃ q, k = q + 1 := ⟨k - 1, by omega⟩
      obtain ⟨n, n1, n2, hP, e⟩ := hF k i left (by omega) h0 h1
      rw [e]
      by_cases c : n < 0
      · rw [decp c]; exact .inl rfl
      · rw [decn c, cond_false]
        rcases ih k (i + 1) n (by omega) (by omega) (by omega) (by omega) with q | ⟨m, q1, q2, q3, q4⟩
        · exact .inl q
        · refine .inr ⟨m, by omega, q2, fun j h1 h2 => ?_, q4⟩
          by_cases h : j = i
          · subst h; exact hP (by omega)
          · exact q3 j (by omega) h2
  rcases key l.length K0 0 left (by omega) (by rw [K0_eq]; omega) h0 h1 with q | ⟨m, q1, q2, q3, q4⟩
  · exact .inl q
  · exact .inr ⟨m, q1, q2, fun i hi => q3 i (by omega) hi, q4⟩
/-- A loop that holds each element against itself. -/
theorem eq_loop {α : Type} (F : Nat → List α → List α → Nat → Option ((Bool × Unit) ⊕ Unit)) (l : List α) (hl : l.length ≤ 9223372036854775807)
    (hF : ∀ (k i : Nat) (hi : i < l.length), F (k + 1) l l i = F k l l (i + 1))
    (hE : ∀ (k : Nat), F (k + 1) l l l.length = some (Sum.inr ())) : F K0 l l 0 = some (Sum.inr ()) := by
  have key : ∀ (d k i : Nat), i + d = l.length → d < k → F k l l i = some (Sum.inr ()) := by
    intro d
    induction d with
    | zero =>
      intro k i hi hk
      obtain ⟨k, rfl⟩ : ∃ q, k = q + 1 := ⟨k - 1, by omega⟩
      have : i = l.length := by omega
      subst this
      exact hE k
    | succ d ih =>
      intro k i hi hk
      obtain ⟨k, rfl⟩ : ∃ q, k = q + 1 := ⟨k - 1, by omega⟩
      rw [hF k i (by omega)]
      exact ih k (i + 1) (by omega) (by omega)
  exact key l.length K0 0 (by omega) (by rw [K0_eq]; omega)
/-- A loop F that marks each element with running numbers, and a loop G that tells whether the marks stand. -/
theorem mark_loop {α : Type} (F : Nat → List α → Int → Nat → Option (Int × List α × Unit)) (c : Int) (E : Int → α → α) (hc : 0 ≤ c)
    (hF : ∀ (k : Nat) (xs : List α) (m : Int) (i : Nat) (hi : i < xs.length), 0 ≤ m → m ≤ 4000000000000000000 → xs.length ≤ 9223372036854775807 → F (k + 1) xs m i = F k (xs.set i (E m xs[i])) (m + c) (i + 1))
    (hFe : ∀ (k : Nat) (xs : List α) (m : Int), F (k + 1) xs m xs.length = some (m, xs, ())) (xs : List α) (m : Int) (hl : xs.length ≤ 9223372036854775807) (hm : 0 ≤ m) (hb : m + c * (xs.length : Int) ≤ 4000000000000000000) :
      ∃ ys, F K0 xs m 0 = some (m + c * (xs.length : Int), ys, ()) ∧ ys.length = xs.length ∧ ∀ i, (h : i < ys.length) → ∃ a, ys[i] = E (m + c * (i : Int)) a := by
  have key : ∀ (d k i : Nat) (xs : List α) (m : Int), i + d = xs.length → d < k → 0 ≤ m → m + c * d ≤ 4000000000000000000 → xs.length ≤ 9223372036854775807 →
      ∃ ys, F k xs m i = some (m + c * d, ys, ()) ∧ ys.length = xs.length ∧ (∀ j, j < i → ys[j]? = xs[j]?) ∧ ∀ j, i ≤ j → (h : j < ys.length) → ∃ a, ys[j] = E (m + c * ((j : Int) - i)) a := by
    intro d
    induction d with
    | zero =>
      intro k i xs m hi hk hm hb hl
      obtain ⟨k, rfl⟩ : ∃ q, k = q + 1 := ⟨k - 1, by omega⟩
      have : i = xs.length := by omega
      subst this
      exact ⟨xs, by rw [hFe]; simp, rfl, fun _ _ => rfl, fun j h1 h2 => by omega⟩
    | succ d ih =>
      intro k i xs m hi hk hm hb hl
      obtain ⟨k, rfl⟩ : ∃ q, k = q + 1 := ⟨k - 1, by omega⟩
      have hlt : i < xs.length := by omega
      have hcd : 0 ≤ c * (d : Int) := Int.mul_nonneg hc (by omega)
      have hs : c * ((d + 1 : Nat) : Int) = c * (d : Int) + c := by rw [Int.natCast_succ, Int.mul_add, Int.mul_one]
      rw [hs] at hb ⊢
      obtain ⟨ys, e1, e2, e3, e4⟩ := ih k (i + 1) (xs.set i (E m xs[i])) (m + c) (by simp; omega) (by omega) (by omega) (by omega) (by simpa using hl)
      have hy : i < ys.length := by rw [e2]; simpa using hlt
      have hyi : ys[i] = E m xs[i] := by
        have h := e3 i (by omega)
        rw [List.getElem?_eq_getElem hy, List.getElem?_set_self hlt] at h
        exact Option.some.inj h
      refine ⟨ys, ?_, by rw [e2]; simp, ?_, ?_⟩
      · rw [hF k xs m i hlt hm (by omega) hl, e1]
        congr 2
        omega
      · intro j hj
        rw [e3 j (by omega), List.getElem?_set_ne (by omega)]
      · intro j hj h
        by_cases h' : j = i
        · subst h'
          exact ⟨xs[j], by rw [hyi]; congr 1; rw [Int.sub_self, Int.mul_zero, Int.add_zero]⟩
        · obtain ⟨a, ha⟩ := e4 j (by omega) h
          refine ⟨a, by rw [ha]; congr 1; rw [Int.add_assoc]; congr 1; rw [show (j : Int) - (i : Int) = 1 + ((j : Int) - ((i + 1 : Nat) : Int)) by omega, Int.mul_add, Int.mul_one]⟩
  obtain ⟨ys, e1, e2, _, e4⟩ := key xs.length K0 0 xs m (by omega) (by rw [K0_eq]; omega) hm hb hl
  exact ⟨ys, e1, e2, fun i h => by obtain ⟨a, ha⟩ := e4 i (by omega) h; exact ⟨a, by simpa using ha⟩⟩
/-- A loop that tells whether the marks stand. -/
theorem held_loop {α : Type} (G : Nat → List α → Int → Nat → Option ((Int × Unit) ⊕ (Int × Unit))) (c : Int) (E : Int → α → α) (hc : 0 ≤ c)
    (hG : ∀ (k : Nat) (xs : List α) (m : Int) (i : Nat) (hi : i < xs.length) (a : α), 0 ≤ m → m ≤ 4000000000000000000 → xs.length ≤ 9223372036854775807 → xs[i] = E m a → G (k + 1) xs m i = G k xs (m + c) (i + 1))
    (hGe : ∀ (k : Nat) (xs : List α) (m : Int), G (k + 1) xs m xs.length = some (Sum.inr (m, ()))) (ys : List α) (m : Int) (hl : ys.length ≤ 9223372036854775807) (hm : 0 ≤ m) (hb : m + c * (ys.length : Int) ≤ 4000000000000000000)
    (hE : ∀ i, (h : i < ys.length) → ∃ a, ys[i] = E (m + c * (i : Int)) a) : G K0 ys m 0 = some (Sum.inr (m + c * (ys.length : Int), ())) := by
  have key : ∀ (d k i : Nat), i + d = ys.length → d < k → G k ys (m + c * (i : Int)) i = some (Sum.inr (m + c * (ys.length : Int), ())) := by
    intro d
    induction d with
    | zero =>
      intro k i hi hk
      obtain ⟨k, rfl⟩ : ∃ q, k = q + 1 := ⟨k - 1, by omega⟩
      have : i = ys.length := by omega
      subst this
      exact hGe k ys _
    | succ d ih =>
      intro k i hi hk
      obtain ⟨k, rfl⟩ : ∃ q, k = q + 1 := ⟨k - 1, by omega⟩
      obtain ⟨a, ha⟩ := hE i (by omega)
      have hcd : 0 ≤ c * (i : Int) := Int.mul_nonneg hc (by omega)
      have hle : c * (i : Int) ≤ c * (ys.length : Int) := Int.mul_le_mul_of_nonneg_left (by omega) hc
      rw [hG k ys _ i (by omega) a (by omega) (by omega) hl ha]
      have e : m + c * (i : Int) + c = m + c * ((i + 1 : Nat) : Int) := by
        rw [show ((i + 1 : Nat) : Int) = (i : Int) + 1 by omega, Int.mul_add, Int.mul_one]; omega
      rw [e]
      exact ih k (i + 1) (by omega) (by omega)
  have := key ys.length K0 0 (by omega) (by rw [K0_eq]; omega)
  simpa using this
theorem bits_mask (k : Nat) (hk : k ≤ 62) (a : Int) : bits .and .i64 a (((2 : Nat) ^ k - 1 : Nat) : Int) = a % ((2 : Nat) ^ k : Nat) := by
  have hp : (2 : Nat) ^ k ≤ 2 ^ 62 := Nat.pow_le_pow_right (by decide) hk
  have h62 : (2 : Nat) ^ 62 = 4611686018427387904 := rfl
  have hpos : 0 < (2 : Nat) ^ k := Nat.pow_pos (by decide)
  have e1 : (BitVec.ofInt 64 a &&& BitVec.ofInt 64 (((2 : Nat) ^ k - 1 : Nat) : Int)).toNat = (a % ((2 : Nat) ^ k : Nat)).toNat := by
    rw [BitVec.toNat_and, BitVec.toNat_ofInt, BitVec.toNat_ofInt]
    have e2 : ((((2 : Nat) ^ k - 1 : Nat) : Int) % ((2 ^ 64 : Nat) : Int)).toNat = 2 ^ k - 1 := by
      rw [Int.emod_eq_of_lt (by omega) (by omega)]
      simp
    rw [e2, Nat.and_two_pow_sub_one_eq_mod]
    have hdvd : ((2 : Nat) ^ k) ∣ 2 ^ 64 := Nat.pow_dvd_pow 2 (by omega)
    have e3 : a % ((2 : Nat) ^ k : Nat) = (a % ((2 ^ 64 : Nat) : Int)) % ((2 : Nat) ^ k : Nat) := (Int.emod_emod_of_dvd a (Int.natCast_dvd_natCast.2 hdvd)).symm
    rw [e3]
    have hnn : 0 ≤ a % ((2 ^ 64 : Nat) : Int) := Int.emod_nonneg _ (by decide)
    obtain ⟨n, hn⟩ := Int.eq_ofNat_of_zero_le hnn
    rw [hn]
    rw [← Int.natCast_emod, Int.toNat_natCast, Int.toNat_natCast]
  show IntKind.i64.wrap (BitVec.ofInt 64 a &&& BitVec.ofInt 64 (((2 : Nat) ^ k - 1 : Nat) : Int)).toNat = _
  rw [e1, IntKind.wrap_i64]
  have h1 : 0 ≤ a % ((2 : Nat) ^ k : Nat) := Int.emod_nonneg _ (by omega)
  have h2 : a % ((2 : Nat) ^ k : Nat) < ((2 : Nat) ^ k : Nat) := Int.emod_lt_of_pos _ (by omega)
  rw [Int.toNat_of_nonneg h1]
  omega
theorem seq_empty (s : ByteArray) : seq s (⟨#[]⟩ : ByteArray) = decide (s.size = 0) := by
  unfold seq
  have e : (⟨#[]⟩ : ByteArray).toList = [] := by rw [ByteArray.toList_eq]
  rw [e, Bool.eq_iff_iff]
  simp only [beq_iff_eq, decide_eq_true_eq]
  have h : s.toList.length = s.size := by rw [ByteArray.toList_eq]; simp
  constructor
  · intro h0; rw [h0] at h; exact h.symm
  · intro h0; rw [h0] at h; exact List.eq_nil_of_length_eq_zero h
theorem extract_all (s : ByteArray) (n : Nat) (h : s.size ≤ n) : s.extract 0 n = s := by
  rw [show s.extract 0 n = s.extract 0 s.size from ?_]
  · exact ByteArray.extract_zero_size
  · apply ByteArray.ext
    simp
    omega
theorem joins_ok {a b : ByteArray} (ha : a.size ≤ 1099511627776) (hb : b.size ≤ 1099511627776) : joins a b = true := by
  unfold joins; rw [S0_eq]; simp; omega
theorem bits_and3 (a : Int) : bits .and .i64 a 3 = a % 4 := bits_mask 2 (by decide) a
theorem bits_and1 (a : Int) : bits .and .i64 a 1 = a % 2 := bits_mask 1 (by decide) a
/-- What an op does to a serial line. -/
def serStep (i o : ByteArray) (e : Int) (l : Bool) (kind reg num : Int) (t : ByteArray) : ByteArray × ByteArray × Int × Bool × Int × Int :=
  if kind = 1 then (i ++ t.extract 0 (16 - i.size), o, e, l || decide (16 - i.size < t.size), 0, 0)
  else if ¬ (0 ≤ reg ∧ reg ≤ 3) ∨ (kind ≠ 2 ∧ kind ≠ 3) then (i, o, e, l, 1, 0)
  else if kind = 2 then
    if reg = 0 then (if i.size = 0 then (i, o, e, l, 0, 0) else (i.extract 1 i.size, o, e, l, 0, bt i 0))
    else if reg = 1 then (i, o, e, l, 0, (if i.size = 0 then 0 else 1) + 2 + (if l = true then 4 else 0))
    else if reg = 2 then (i, o, e, l, 0, e) else (i, o, e, l, 0, 0)
  else if reg = 0 then (i, if o.size < 65536 then o ++ b2s [IntKind.u8.wrap num] else o, e, l, 0, 0)
  else if reg = 2 then (i, o, num % 4, l, 0, 0)
  else if reg = 3 then (ByteArray.empty, o, e, false, 0, 0)
  else (i, o, e, l, 0, 0)
theorem spec_ser (i o : ByteArray) (e : Int) (l : Bool) (kind reg num : Int) (t : ByteArray) (hi : i.size ≤ 16) (ho : o.size ≤ 65536) (ht : t.size ≤ 1048576) :
    spec_l11Serial i o e l kind reg num t = some (match serStep i o e l kind reg num t with | (i, o, e, l, c, n) => (i, o, e, l, c, n, ())) := by
  unfold spec_l11Serial serStep
  simp only [Bool.cond_self]
  by_cases k1 : kind = 1
  · subst k1
    have w : wrap64 (16 - (i.size : Int)) = 16 - (i.size : Int) := wrap_id (by omega) (by omega)
    rw [w]
    clear w
    have en : (16 - (i.size : Int)).toNat = 16 - i.size := by omega
    rw [en, joins_ok (by omega) (by simp; omega), joins_ok (by omega) (by omega)]
    by_cases c : 16 - i.size < t.size
    · rw [decp (show (t.size : Int) > 16 - (i.size : Int) by omega), decp (show (0 : Int) ≤ 16 - (i.size : Int) by omega), decp (show 16 - (i.size : Int) ≤ (t.size : Int) by omega)]
      simp [c]
    · rw [decn (show ¬ (t.size : Int) > 16 - (i.size : Int) by omega), extract_all t (16 - i.size) (by omega)]
      simp [c]
  · rw [show (kind == 1) = false from beq_false_of_ne k1, if_neg k1]
    simp only [cond_false]
    by_cases kk : ¬ (0 ≤ reg ∧ reg ≤ 3) ∨ (kind ≠ 2 ∧ kind ≠ 3)
    · rw [if_pos kk]
      have : (bif kind != 2 && kind != 3 then kind != 2 && kind != 3 else bif decide (reg < 0) then decide (reg < 0) else decide (reg > 3)) = true := by
        by_cases q : kind ≠ 2 ∧ kind ≠ 3
        · simp [q.1, q.2]
        · have q' : ¬ (0 ≤ reg ∧ reg ≤ 3) := kk.resolve_right q
          have : (kind != 2 && kind != 3) = false := by
            rw [Bool.eq_false_iff]; simp; omega
          rw [this]
          by_cases r : reg < 0
          · simp [r]
          · simp [r]; omega
      rw [this]
      rfl
    · rw [if_neg kk]
      have r0 : 0 ≤ reg := by omega
      have r3 : reg ≤ 3 := by omega
      have kk : kind = 2 ∨ kind = 3 := by omega
      have : (bif kind != 2 && kind != 3 then kind != 2 && kind != 3 else bif decide (reg < 0) then decide (reg < 0) else decide (reg > 3)) = false := by
        rw [decn (show ¬ reg < 0 by omega), decn (show ¬ reg > 3 by omega)]
        rcases kk with rfl | rfl <;> rfl
      rw [this]
      simp only [cond_false, seq_empty]
      have hreg : reg = 0 ∨ reg = 1 ∨ reg = 2 ∨ reg = 3 := by omega
      rcases kk with rfl | rfl
      · rcases hreg with rfl | rfl | rfl | rfl
        · by_cases hz : i.size = 0
          · rw [decp hz, if_pos rfl, if_pos rfl, if_pos hz]
            rfl
          · rw [decn hz, if_pos rfl, if_pos rfl, if_neg hz]
            have hb := bt_range i 0
            have wb : wrap64 (bt i 0) = bt i 0 := wrap_id (by omega) (by omega)
            rw [wb, decp (show (0 : Int) < (i.size : Int) by omega), decp (show (1 : Int) ≤ (i.size : Int) by omega)]
            rfl
        · unfold spec_l01Bool
          by_cases hz : i.size = 0 <;> cases l <;> simp [hz, wrap64]
        · simp
        · simp
      · unfold spec_l01Mod
        simp only [show ((4 : Int) == 0) = false from rfl, Bool.not_false, cond_true, Option.getD_some, Option.isSome_some]
        rw [mod_cond num 4 (by decide) (by decide), joins_ok (by omega) (by rw [b2s_one]; omega)]
        rcases hreg with rfl | rfl | rfl | rfl
        · by_cases hz : o.size < 65536
          · rw [decp (show (o.size : Int) < 65536 by omega)]; simp [hz]
          · rw [decn (show ¬ (o.size : Int) < 65536 by omega)]; simp [hz]
        · simp
        · simp
        · simp; rfl
theorem impl_ser (i o : ByteArray) (e : Int) (l : Bool) (kind reg num : Int) (t : ByteArray) (hi : i.size ≤ 16) (ho : o.size ≤ 65536) (ht : t.size ≤ 1048576) :
    impl_Serial_ydo_v2 i o e l kind reg num t = some (match serStep i o e l kind reg num t with | (i, o, e, l, c, n) => (c, n, i, o, e, l, ())) := by
  unfold impl_Serial_ydo_v2 serStep
  simp only [Bool.cond_self, yin_eq, Option.getD_some, Option.isSome_some, Bool.or_true, cond_true]
  by_cases k1 : kind = 1
  · subst k1
    have w : wrap64 (16 - (i.size : Int)) = 16 - (i.size : Int) := wrap_id (by omega) (by omega)
    simp only [w]
    clear w
    by_cases c : 16 - i.size < t.size
    · rw [decp (show 16 - (i.size : Int) < (t.size : Int) by omega)]
      have en : (16 - (i.size : Int)).toNat = 16 - i.size := by omega
      simp only [cond_true, en]
      rw [joins_ok (by omega) (by simp; omega), decp (show (0 : Int) ≤ 16 - (i.size : Int) by omega), decp (show 16 - (i.size : Int) ≤ (t.size : Int) by omega), decp (show 16 - (i.size : Int) < (t.size : Int) by omega)]
      simp [c]
    · rw [decn (show ¬ 16 - (i.size : Int) < (t.size : Int) by omega)]
      simp only [cond_false, Int.toNat_natCast, ByteArray.extract_zero_size]
      rw [joins_ok (by omega) (by omega), decp (show (0 : Int) ≤ (t.size : Int) by omega), decp (show (t.size : Int) ≤ (t.size : Int) by omega), decn (show ¬ (t.size : Int) < (t.size : Int) by omega), extract_all t (16 - i.size) (by omega)]
      simp [c]
  · rw [show (kind == 1) = false from beq_false_of_ne k1, if_neg k1, show (kind != 1) = true from bne_iff_ne.2 k1]
    simp only [cond_false, Bool.true_and]
    by_cases kr : 0 ≤ reg ∧ reg ≤ 3
    · rw [decp kr]
      simp only [Bool.not_true, cond_false]
      by_cases k23 : kind = 2 ∨ kind = 3
      · rw [if_neg (by omega)]
        have hreg : reg = 0 ∨ reg = 1 ∨ reg = 2 ∨ reg = 3 := by omega
        simp only [seq_empty, bits_and3]
        rcases k23 with rfl | rfl
        · rcases hreg with rfl | rfl | rfl | rfl
          · by_cases hz : i.size = 0
            · rw [decp hz, if_pos rfl, if_pos rfl, if_pos hz]
              rfl
            · rw [decn hz, if_pos rfl, if_pos rfl, if_neg hz]
              have hb := bt_range i 0
              have wb : wrap64 (bt i 0) = bt i 0 := wrap_id (by omega) (by omega)
              rw [wb, decp (show (0 : Int) < (i.size : Int) by omega), decp (show (1 : Int) ≤ (i.size : Int) by omega)]
              rfl
          · have b1 : bits .or .i64 2 1 = 3 := by decide +kernel
            have b2 : bits .or .i64 3 4 = 7 := by decide +kernel
            have b3 : bits .or .i64 2 4 = 6 := by decide +kernel
            by_cases hz : i.size = 0 <;> cases l <;> simp [hz, b1, b2, b3]
          · simp
          · simp
        · rw [joins_ok (by omega) (by rw [b2s_one]; omega)]
          rcases hreg with rfl | rfl | rfl | rfl
          · by_cases hz : o.size < 65536
            · rw [decp (show (o.size : Int) < 65536 by omega)]; simp [hz]
            · rw [decn (show ¬ (o.size : Int) < 65536 by omega)]; simp [hz]
          · simp
          · simp
          · simp; rfl
      · rw [if_pos (by omega)]
        have h2 : (kind == 2) = false := beq_false_of_ne (by omega)
        have h3 : (kind == 3) = false := beq_false_of_ne (by omega)
        simp [h2, h3]
    · rw [decn kr, if_pos (.inl kr)]
      rfl
def serInv (i o : ByteArray) (e : Int) : Prop := i.size ≤ 16 ∧ o.size ≤ 65536 ∧ 0 ≤ e ∧ e ≤ 3
theorem serStep_inv (i o : ByteArray) (e : Int) (l : Bool) (kind reg num : Int) (t : ByteArray) (h : serInv i o e) :
    serInv (serStep i o e l kind reg num t).1 (serStep i o e l kind reg num t).2.1 (serStep i o e l kind reg num t).2.2.1 := by
  obtain ⟨h1, h2, h3, h4⟩ := h
  unfold serStep serInv
  by_cases k1 : kind = 1
  · rw [if_pos k1]
    refine ⟨?_, h2, h3, h4⟩
    simp only [ByteArray.size_append, ByteArray.size_extract]
    omega
  rw [if_neg k1]
  by_cases k2 : ¬ (0 ≤ reg ∧ reg ≤ 3) ∨ (kind ≠ 2 ∧ kind ≠ 3)
  · rw [if_pos k2]; exact ⟨h1, h2, h3, h4⟩
  rw [if_neg k2]
  by_cases k3 : kind = 2
  · rw [if_pos k3]
    by_cases r0 : reg = 0
    · rw [if_pos r0]
      by_cases hz : i.size = 0
      · rw [if_pos hz]; exact ⟨h1, h2, h3, h4⟩
      · rw [if_neg hz]
        refine ⟨?_, h2, h3, h4⟩
        simp only [ByteArray.size_extract]
        omega
    · rw [if_neg r0]
      by_cases r1 : reg = 1
      · rw [if_pos r1]; exact ⟨h1, h2, h3, h4⟩
      · rw [if_neg r1]
        by_cases r2 : reg = 2
        · rw [if_pos r2]; exact ⟨h1, h2, h3, h4⟩
        · rw [if_neg r2]; exact ⟨h1, h2, h3, h4⟩
  · rw [if_neg k3]
    by_cases r0 : reg = 0
    · rw [if_pos r0]
      refine ⟨h1, ?_, h3, h4⟩
      show (if o.size < 65536 then o ++ b2s [IntKind.u8.wrap num] else o).size ≤ 65536
      by_cases c : o.size < 65536
      · rw [if_pos c, bsize_app, b2s_one]; omega
      · rw [if_neg c]; exact h2
    · rw [if_neg r0]
      by_cases r2 : reg = 2
      · rw [if_pos r2]; exact ⟨h1, h2, Int.emod_nonneg _ (by decide), by have := Int.emod_lt_of_pos num (show (0 : Int) < 4 by decide); show num % 4 ≤ 3; omega⟩
      · rw [if_neg r2]
        by_cases r3 : reg = 3
        · rw [if_pos r3]; exact ⟨Nat.zero_le _, h2, h3, h4⟩
        · rw [if_neg r3]; exact ⟨h1, h2, h3, h4⟩
/-- Is the line up? -/
def serLine (i : ByteArray) (e : Int) : Bool := ((Int.tmod e 2 == 1) && !seq i (⟨#[]⟩ : ByteArray)) || decide (e ≥ 2)
theorem impl_line (i : ByteArray) (e : Int) (h0 : 0 ≤ e) (h3 : e ≤ 3) : (((bits .and .i64 e 1 != 0) && !seq i (⟨#[]⟩ : ByteArray)) || (bits .and .i64 e 2 != 0)) = serLine i e := by
  unfold serLine
  have he : e = 0 ∨ e = 1 ∨ e = 2 ∨ e = 3 := by omega
  have a0 : bits .and .i64 0 2 = 0 := by decide +kernel
  have a1 : bits .and .i64 1 2 = 0 := by decide +kernel
  have a2 : bits .and .i64 2 2 = 2 := by decide +kernel
  have a3 : bits .and .i64 3 2 = 2 := by decide +kernel
  rcases he with rfl | rfl | rfl | rfl
  · rw [bits_and1, a0]; rfl
  · rw [bits_and1, a1]; rfl
  · rw [bits_and1, a2]; rfl
  · rw [bits_and1, a3]; cases seq i (⟨#[]⟩ : ByteArray) <;> rfl
abbrev SOp := Int × Int × Int × ByteArray
abbrev SSt := ByteArray × ByteArray × Int × Bool
/-- All ops, one after the other. -/
def serAll : List SOp → SSt → SSt × List (Int × Int × Bool)
  | [], s => (s, [])
  | op :: l, s =>
    let r := serStep s.1 s.2.1 s.2.2.1 s.2.2.2 op.1 op.2.1 op.2.2.1 op.2.2.2
    let q := serAll l (r.1, r.2.1, r.2.2.1, r.2.2.2.1)
    (q.1, (r.2.2.2.2.1, r.2.2.2.2.2, serLine r.1 r.2.2.1) :: q.2)
theorem serAll_len : ∀ (l : List SOp) (s : SSt), (serAll l s).2.length = l.length
  | [], s => rfl
  | op :: l, s => by simp [serAll, serAll_len l]
theorem ser_loop (ops : List SOp) (hops : small (.slice R1) ops) (z : Int) (za zb : ByteArray) (zc : Int) (zd : Bool) : ∀ (d k1 k2 n : Nat) (i o : ByteArray) (e : Int) (l : Bool) (outs : List (Int × Int × Bool)),
    n + d = ops.length → d < k1 → d < k2 → serInv i o e → outs.length + d ≤ 1048576 →
    ∃ q, q = serAll (ops.drop n) (i, o, e, l) ∧ spec_RunSerial_l7 k1 ops (n : Int) i o e l z za zb zc zd outs = some (q.1.1, q.1.2.1, q.1.2.2.1, q.1.2.2.2, z, za, zb, zc, zd, outs ++ q.2, ()) ∧
      impl_RunSerial_l7 k2 ops (ops.length : Int) (n : Int) i o e l z za zb zc zd outs = some (q.1.1, q.1.2.1, q.1.2.2.1, q.1.2.2.2, z, za, zb, zc, zd, outs ++ q.2, ()) := by
  intro d
  induction d with
  | zero =>
    intro k1 k2 n i o e l outs hn h1 h2 hi ho
    obtain ⟨k1, rfl⟩ : ∃ q, k1 = q + 1 := ⟨k1 - 1, by omega⟩
    obtain ⟨k2, rfl⟩ : ∃ q, k2 = q + 1 := ⟨k2 - 1, by omega⟩
    have : n = ops.length := by omega
    subst this
    refine ⟨((i, o, e, l), []), by rw [List.drop_length]; rfl, ?_, ?_⟩
    · show spec_RunSerial_l7_step (spec_RunSerial_l7 k1) ops (ops.length : Int) i o e l z za zb zc zd outs = _
      unfold spec_RunSerial_l7_step
      rw [decn (show ¬ (ops.length : Int) < (ops.length : Int) by omega), List.append_nil]
      rfl
    · show impl_RunSerial_l7_step (impl_RunSerial_l7 k2) ops (ops.length : Int) (ops.length : Int) i o e l z za zb zc zd outs = _
      unfold impl_RunSerial_l7_step
      rw [decn (show ¬ (ops.length : Int) < (ops.length : Int) by omega), List.append_nil]
      rfl
  | succ d ih =>
    intro k1 k2 n i o e l outs hn h1 h2 hi ho
    obtain ⟨k1, rfl⟩ : ∃ q, k1 = q + 1 := ⟨k1 - 1, by omega⟩
    obtain ⟨k2, rfl⟩ : ∃ q, k2 = q + 1 := ⟨k2 - 1, by omega⟩
    have hlt : n < ops.length := by omega
    have hl := hops.1
    have ht : (ops[n].2.2.2 : ByteArray).size ≤ 1048576 := (hops.2 _ (List.getElem_mem hlt)).2.2.2
    have q1 := spec_ser i o e l ops[n].1 ops[n].2.1 ops[n].2.2.1 ops[n].2.2.2 hi.1 hi.2.1 ht
    have q2 := impl_ser i o e l ops[n].1 ops[n].2.1 ops[n].2.2.1 ops[n].2.2.2 hi.1 hi.2.1 ht
    have q3 := serStep_inv i o e l ops[n].1 ops[n].2.1 ops[n].2.2.1 ops[n].2.2.2 hi
    have hd : serAll (ops.drop n) (i, o, e, l) = (let r := serStep i o e l ops[n].1 ops[n].2.1 ops[n].2.2.1 ops[n].2.2.2
      let q := serAll (ops.drop (n + 1)) (r.1, r.2.1, r.2.2.1, r.2.2.2.1)
      (q.1, (r.2.2.2.2.1, r.2.2.2.2.2, serLine r.1 r.2.2.1) :: q.2)) := by
      rw [List.drop_eq_getElem_cons hlt]; rfl
    rw [hd]
    clear hd
    generalize serStep i o e l ops[n].1 ops[n].2.1 ops[n].2.2.1 ops[n].2.2.2 = R at q1 q2 q3
    obtain ⟨i', o', e', l', c, num⟩ := R
    simp only at q1 q2 q3 ⊢
    have rm : roomy ((outs.length : Int) + ([(c, num, serLine i' e')].length : Int)) 24 = true := roomy_ok (by simp; omega)
    obtain ⟨q, g0, g1, g2⟩ := ih k1 k2 (n + 1) i' o' e' l' (outs ++ [(c, num, serLine i' e')]) (by omega) (by omega) (by omega) q3 (by simp; omega)
    have d1 : decide ((n : Int) < (ops.length : Int)) = true := decp (by omega)
    have d2 : decide ((0 : Int) ≤ (n : Int)) = true := decp (by omega)
    have w := wrap_i n ops.length hlt (by omega)
    rw [← g0]
    refine ⟨(q.1, (c, num, serLine i' e') :: q.2), rfl, ?_, ?_⟩
    · show spec_RunSerial_l7_step (spec_RunSerial_l7 k1) ops (n : Int) i o e l z za zb zc zd outs = _
      unfold spec_RunSerial_l7_step
      simp only [d1, d2, rd_at R1 ops n hlt, q1, Option.bind_some, Bool.and_true, cond_true, w, show ((2 : Int) == 0) = false from rfl, Bool.not_false]
      rw [show (((Int.tmod e' 2 == 1) && !seq i' (⟨#[]⟩ : ByteArray)) || decide (e' ≥ 2)) = serLine i' e' from rfl, rm]
      rw [List.append_assoc] at g1
      exact g1
    · show impl_RunSerial_l7_step (impl_RunSerial_l7 k2) ops (ops.length : Int) (n : Int) i o e l z za zb zc zd outs = _
      unfold impl_RunSerial_l7_step
      simp only [d1, d2, rd_at R1 ops n hlt, q2, Option.bind_some, Bool.and_true, cond_true, w, impl_line i' e' q3.2.2.1 q3.2.2.2]
      rw [rm]
      rw [List.append_assoc] at g2
      exact g2
abbrev SerRun := Int × ByteArray × ByteArray × Int × Bool × List (Int × Int × Bool) × Unit
theorem ser_same (i o : ByteArray) (e : Int) (l : Bool) (ops : List SOp) (hops : small (.slice R1) ops) :
    ∃ R : SerRun, (R.1 = 0 → serInv i o e ∧ R = (0, (serAll ops (i, o, e, l)).1.1, (serAll ops (i, o, e, l)).1.2.1, (serAll ops (i, o, e, l)).1.2.2.1, (serAll ops (i, o, e, l)).1.2.2.2, (serAll ops (i, o, e, l)).2, ())) ∧ spec_RunSerial i o e l ops = some R ∧ impl_RunSerial i o e l ops = some R := by
  unfold spec_RunSerial impl_RunSerial
  simp only [yin_eq, Option.getD_some, Option.isSome_some, Bool.or_true, cond_true]
  by_cases c1 : (ops.length : Int) > 1000
  · rw [decp c1]; exact ⟨_, fun h => absurd h (by decide), rfl, rfl⟩
  rw [decn c1]
  simp only [cond_false]
  by_cases c2 : (i.size : Int) > 16
  · rw [decp c2]; exact ⟨_, fun h => absurd h (by decide), rfl, rfl⟩
  by_cases c3 : (o.size : Int) > 65536
  · rw [decn c2, decp c3]; exact ⟨_, fun h => absurd h (by decide), rfl, rfl⟩
  rw [decn c2, decn c3]
  by_cases c4 : 0 ≤ e ∧ e ≤ 3
  · rw [decn (show ¬ e < 0 by omega), decn (show ¬ e > 3 by omega), decp c4]
    obtain ⟨q, g0, g1, g2⟩ := ser_loop ops hops 0 ByteArray.empty ByteArray.empty 0 false ops.length K0 K0 0 i o e l [] (by omega) (by rw [K0_eq]; have := hops.1; omega) (by rw [K0_eq]; have := hops.1; omega) ⟨by omega, by omega, c4⟩ (by simp; exact hops.1)
    rw [List.drop_zero] at g0
    refine ⟨(0, q.1.1, q.1.2.1, q.1.2.2.1, q.1.2.2.2, q.2, ()), fun _ => ⟨⟨by omega, by omega, c4⟩, by rw [g0]⟩, ?_, ?_⟩
    · have g1' : spec_RunSerial_l7 K0 ops 0 i o e l 0 ByteArray.empty ByteArray.empty 0 false [] = _ := g1
      rw [g1']; rfl
    · have g2' : impl_RunSerial_l7 K0 ops (ops.length : Int) 0 i o e l 0 ByteArray.empty ByteArray.empty 0 false [] = _ := g2
      rw [g2']; rfl
  · rw [decn c4]
    refine ⟨(1, ByteArray.empty, ByteArray.empty, 0, false, [], ()), fun h => absurd h (by decide), ?_, rfl⟩
    by_cases c5 : e < 0
    · rw [decp c5]; rfl
    · rw [decn c5, decp (show e > 3 by omega)]; rfl
theorem u64_range (x : Int) : 0 ≤ IntKind.u64.wrap x ∧ IntKind.u64.wrap x < 18446744073709551616 := by
  have e : IntKind.u64.wrap x = x % 18446744073709551616 := rfl
  rw [e]
  omega
theorem u64_id {x : Int} (h0 : 0 ≤ x) (h1 : x < 18446744073709551616) : IntKind.u64.wrap x = x := by
  have e : IntKind.u64.wrap x = x % 18446744073709551616 := rfl
  rw [e]
  omega
/-- A number below k out of a source. -/
theorem src_n (c : List Int) (at_ st size k : Int) (ha : 0 ≤ at_) (hk : k ≤ 4611686018427387904) (hc : c.length ≤ 1048576) : ∃ r at' st', spec_l01Src_n_v2 c at_ st size k = some (r, c, at', st', size, ()) ∧ 0 ≤ r ∧ (1 < k → r < k) ∧ (k ≤ 1 → r = 0) ∧ 0 ≤ at' := by
  unfold spec_l01Src_n_v2
  by_cases h : k ≤ 1
  · rw [decp h]
    exact ⟨0, at_, st, rfl, by omega, by omega, fun _ => rfl, ha⟩
  rw [decn h]
  simp only [cond_false, Bool.cond_self, decp (show (0 : Int) ≤ 13 by decide), decp (show (0 : Int) ≤ 7 by decide), decp (show (0 : Int) ≤ 17 by decide), decp (show (0 : Int) ≤ 20 by decide), cond_true, Bool.true_and]
  have hu : IntKind.u64.wrap k = k := u64_id (by omega) (by omega)
  rw [hu, show (k == 0) = false from beq_false_of_ne (by omega)]
  generalize hx : IntKind.u64.wrap ((bif decide (at_ < (c.length : Int)) then IntKind.u64.wrap (rd (.int .u8) c at_) else 0) + shr .u64 (bits .xor .u64 (bits .xor .u64 (bits .xor .u64 st (shl .u64 st 13)) (shr .u64 (bits .xor .u64 st (shl .u64 st 13)) 7)) (shl .u64 (bits .xor .u64 (bits .xor .u64 st (shl .u64 st 13)) (shr .u64 (bits .xor .u64 st (shl .u64 st 13)) 7)) 17)) 20) = X
  have hX : 0 ≤ X := by rw [← hx]; exact (u64_range _).1
  have h1 : 0 ≤ Int.tmod X k := by rw [Int.tmod_eq_emod_of_nonneg hX]; exact Int.emod_nonneg _ (by omega)
  have h2 : Int.tmod X k < k := by rw [Int.tmod_eq_emod_of_nonneg hX]; exact Int.emod_lt_of_pos _ (by omega)
  have hw : wrap64 (Int.tmod X k) = Int.tmod X k := wrap_id (by omega) (by omega)
  rw [hw]
  clear hx hw
  by_cases hb : at_ < (c.length : Int)
  · rw [decp hb, decp ha]
    refine ⟨_, _, _, rfl, h1, fun _ => h2, fun h' => absurd h' h, ?_⟩
    show 0 ≤ wrap64 (at_ + 1)
    rw [wrap_id (by omega) (by omega)]
    omega
  · rw [decn hb]
    exact ⟨_, _, _, rfl, h1, fun _ => h2, fun h' => absurd h' h, ha⟩
theorem src_one (c : List Int) (at_ st size k : Int) (ha : 0 ≤ at_) (hk : k ≤ 4611686018427387904) (hc : c.length ≤ 1048576) : ∃ b at' st', spec_l01Src_one_v2 c at_ st size k = some (b, c, at', st', size, ()) ∧ 0 ≤ at' := by
  unfold spec_l01Src_one_v2
  obtain ⟨r, at', st', e, _, _, _, h⟩ := src_n c at_ st size k ha hk hc
  rw [e]
  exact ⟨_, _, _, rfl, h⟩
theorem b2s_size (l : List Int) : (b2s l).size = l.length := by unfold b2s; show (List.toArray _).size = _; simp
theorem src_bytes (c : List Int) (at_ st size k : Int) (ha : 0 ≤ at_) (h0 : 0 ≤ k) (hk : k ≤ 1048576) (hc : c.length ≤ 1048576) : ∃ s at' st', spec_l01Src_bytes_v2 c at_ st size k = some (s, c, at', st', size, ()) ∧ s.size = k.toNat ∧ 0 ≤ at' := by
  have key : ∀ (d f : Nat) (i : Int) (at_ st : Int) (out : List Int), i + d = k → 0 ≤ i → d < f → (out.length : Int) = i → 0 ≤ at_ → ∃ out' at' st', spec_l01Src_bytes_v2_l3 f k i c at_ st size out = some (c, at', st', size, out', ()) ∧ (out'.length : Int) = k ∧ 0 ≤ at' := by
    intro d
    induction d with
    | zero =>
      intro f i at_ st out hi h0i hf ho ha
      obtain ⟨f, rfl⟩ : ∃ q, f = q + 1 := ⟨f - 1, by omega⟩
      show ∃ out' at' st', spec_l01Src_bytes_v2_l3_step (spec_l01Src_bytes_v2_l3 f) k i c at_ st size out = _ ∧ _
      unfold spec_l01Src_bytes_v2_l3_step
      rw [decn (show ¬ i < k by omega)]
      exact ⟨out, at_, st, rfl, by omega, ha⟩
    | succ d ih =>
      intro f i at_ st out hi h0i hf ho ha
      obtain ⟨f, rfl⟩ : ∃ q, f = q + 1 := ⟨f - 1, by omega⟩
      show ∃ out' at' st', spec_l01Src_bytes_v2_l3_step (spec_l01Src_bytes_v2_l3 f) k i c at_ st size out = _ ∧ _
      unfold spec_l01Src_bytes_v2_l3_step
      rw [decp (show i < k by omega)]
      obtain ⟨r, at', st', e, _, _, _, h⟩ := src_n c at_ st size 256 ha (by decide) hc
      rw [e]
      simp only [cond_true, Option.bind_some]
      rw [roomy_ok (by simp; omega), wrap_id (by omega) (by omega)]
      simp only [cond_true]
      exact ih f (i + 1) at' st' _ (by omega) (by omega) (by omega) (by simp; omega) h
  unfold spec_l01Src_bytes_v2
  obtain ⟨out', at', st', e, hl, h⟩ := key k.toNat K0 0 at_ st [] (by omega) (by omega) (by rw [K0_eq]; omega) rfl ha
  rw [e]
  exact ⟨_, _, _, rfl, by rw [b2s_size]; show out'.length = _; omega, h⟩
theorem src_source (c : List Int) (hc : c.length ≤ 1048576) : ∃ st size, spec_l01Source_v3 c = some (c, 0, st, size, ()) ∧ 0 ≤ size ∧ size ≤ 12 := by
  have key : ∀ (d f i : Nat) (st : Int), i + d = c.length → d < f → ∃ st', spec_l01Source_v3_l3 f c (i : Int) c 0 st 0 = some (c, c, 0, st', 0, ()) := by
    intro d
    induction d with
    | zero =>
      intro f i st hi hf
      obtain ⟨f, rfl⟩ : ∃ q, f = q + 1 := ⟨f - 1, by omega⟩
      show ∃ st', spec_l01Source_v3_l3_step (spec_l01Source_v3_l3 f) c (i : Int) c 0 st 0 = _
      unfold spec_l01Source_v3_l3_step
      rw [decn (show ¬ (i : Int) < (c.length : Int) by omega)]
      exact ⟨st, rfl⟩
    | succ d ih =>
      intro f i st hi hf
      obtain ⟨f, rfl⟩ : ∃ q, f = q + 1 := ⟨f - 1, by omega⟩
      show ∃ st', spec_l01Source_v3_l3_step (spec_l01Source_v3_l3 f) c (i : Int) c 0 st 0 = _
      unfold spec_l01Source_v3_l3_step
      rw [decp (show (i : Int) < (c.length : Int) by omega), decp (show (0 : Int) ≤ (i : Int) by omega), wrap_i i c.length (by omega) (by omega)]
      by_cases h : (i : Int) < 64
      · rw [decp h]
        exact ih f (i + 1) _ (by omega) (by omega)
      · rw [decn h]
        exact ⟨st, rfl⟩
  unfold spec_l01Source_v3
  obtain ⟨st', e⟩ := key c.length K0 0 88172645463325252 (by omega) (by rw [K0_eq]; omega)
  have e' : spec_l01Source_v3_l3 K0 c 0 c 0 88172645463325252 0 = _ := e
  rw [e']
  simp only [Option.bind_some, Bool.cond_self]
  refine ⟨st', _, rfl, ?_, ?_⟩
  · cases h : decide ((c.length : Int) > 12)
    · show 0 ≤ (c.length : Int); omega
    · show (0 : Int) ≤ 12; decide
  · cases h : decide ((c.length : Int) > 12)
    · have := of_decide_eq_false h
      show (c.length : Int) ≤ 12; omega
    · show (12 : Int) ≤ 12; decide
theorem src_zeros (c : List Int) (a b d k : Int) (h0 : 0 ≤ k) (h1 : k ≤ 100000) : ∃ s, spec_l01Src_zeros c a b d k = some (s, ()) := by
  unfold spec_l01Src_zeros
  rw [decp h0, decp (show k ≤ k by omega), roomy_ok (by omega)]
  exact ⟨_, rfl⟩
theorem cond_le {b : Bool} {x y : Int} (h1 : 0 ≤ x) (h2 : 0 ≤ y) : 0 ≤ (bif b then x else y) := by cases b <;> assumption
theorem draw_ops (c : List Int) (hc : c.length ≤ 1048576) (size : Int) (z1 z2 z5 z6 : ByteArray) (z3 z7 : Int) (z4 z8 : Bool) : ∀ (d f : Nat) (y0 : Int) (ops : List SOp) (at_ st : Int), y0 = (d : Int) → d < f → d ≤ 100 → ops.length + d ≤ 100 → (∀ x ∈ ops, (x.2.2.2 : ByteArray).size ≤ 8) → 0 ≤ at_ →
    ∃ ops', spec_DrawRunSerial_v3_l11 f y0 z1 z2 z3 z4 z5 z6 z7 z8 ops c at_ st size = some (z1, z2, z3, z4, z5, z6, z7, z8, ops', ()) ∧ ops'.length ≤ 100 ∧ ∀ x ∈ ops', (x.2.2.2 : ByteArray).size ≤ 8 := by
  intro d
  induction d with
  | zero =>
    intro f y0 ops at_ st hy hf hd hl ho ha
    obtain ⟨f, rfl⟩ : ∃ q, f = q + 1 := ⟨f - 1, by omega⟩
    show ∃ ops', spec_DrawRunSerial_v3_l11_step (spec_DrawRunSerial_v3_l11 f) y0 z1 z2 z3 z4 z5 z6 z7 z8 ops c at_ st size = _ ∧ _
    unfold spec_DrawRunSerial_v3_l11_step
    rw [decn (show ¬ y0 > 0 by omega)]
    exact ⟨ops, rfl, by omega, ho⟩
  | succ d ih =>
    intro f y0 ops at_ st hy hf hd hl ho ha
    obtain ⟨f, rfl⟩ : ∃ q, f = q + 1 := ⟨f - 1, by omega⟩
    show ∃ ops', spec_DrawRunSerial_v3_l11_step (spec_DrawRunSerial_v3_l11 f) y0 z1 z2 z3 z4 z5 z6 z7 z8 ops c at_ st size = _ ∧ _
    unfold spec_DrawRunSerial_v3_l11_step
    rw [decp (show y0 > 0 by omega)]
    obtain ⟨n1, a1, s1, e1, _, _, _, h1⟩ := src_n c at_ st size 3 ha (by decide) hc
    obtain ⟨n2, a2, s2, e2, _, _, _, h2⟩ := src_n c a1 s1 size 4 h1 (by decide) hc
    obtain ⟨n3, a3, s3, e3, _, _, _, h3⟩ := src_n c a2 s2 size 300 h2 (by decide) hc
    obtain ⟨n4, a4, s4, e4, n4a, n4b, _, h4⟩ := src_n c a3 s3 size 9 h3 (by decide) hc
    obtain ⟨t5, a5, s5, e5, t5s, h5⟩ := src_bytes c a4 s4 size n4 h4 n4a (by have := n4b (by decide); omega) hc
    have t5s' : t5.size ≤ 8 := by have := n4b (by decide); omega
    generalize hB : (wrap64 (1 + n1) == 1) = B
    obtain ⟨b6, a6, s6, e6, h6⟩ := src_one c (bif B then a5 else a3) (bif B then s5 else s3) size 25 (cond_le h5 h3) (by decide) hc
    obtain ⟨n7, a7, s7, e7, _, _, _, h7⟩ := src_n c a6 s6 size 2 h6 (by decide) hc
    obtain ⟨b8, a8, s8, e8, h8⟩ := src_one c (bif b6 then a7 else a6) (bif b6 then s7 else s6) size 25 (cond_le h7 h6) (by decide) hc
    obtain ⟨n9, a9, s9, e9, n9a, n9b, _, h9⟩ := src_n c a8 s8 size 2 h8 (by decide) hc
    have n9c := n9b (by decide)
    simp only [e1, e2, e3, e4, e5, hB, e6, e7, e8, e9, Option.bind_some, Option.getD_some, Option.isSome_some, Bool.cond_self, Bool.or_true, Bool.and_true, cond_true]
    rw [decp n9a, decp (show n9 < (([-1, 4] : List Int).length : Int) from n9c)]
    simp only [Bool.and_true, Bool.or_true, cond_true]
    rw [roomy_ok (by simp; omega), wrap_id (x := y0 - 1) (by omega) (by omega)]
    simp only [cond_true]
    refine ih f (y0 - 1) _ _ _ (by omega) (by omega) (by omega) (by simp; omega) (fun x hx => ?_) (cond_le h9 h8)
    rcases List.mem_append.1 hx with hx | hx
    · exact ho x hx
    · simp only [List.mem_singleton] at hx
      subst hx
      show (bif B then t5 else ByteArray.empty).size ≤ 8
      cases B
      · exact Nat.zero_le _
      · exact t5s'
theorem draw_serial (c : List Int) (hc : c.length ≤ 1048576) : ∃ i o e l ops, spec_DrawRunSerial_v3 c = some (i, o, e, l, ops, ()) ∧ small (.slice R1) ops := by
  unfold spec_DrawRunSerial_v3
  obtain ⟨st, size, e0, z0, z1⟩ := src_source c hc
  obtain ⟨n1, a1, s1, e1, n1a, n1b, _, h1⟩ := src_n c 0 st size 4 (by decide) (by decide) hc
  have n1c := n1b (by decide)
  obtain ⟨t2, a2, s2, e2, _, h2⟩ := src_bytes c a1 s1 size n1 h1 n1a (by omega) hc
  obtain ⟨n3, a3, s3, e3, _, _, _, h3⟩ := src_n c a2 s2 size 4 h2 (by decide) hc
  obtain ⟨b4, a4, s4, e4, h4⟩ := src_one c a3 s3 size 5 h3 (by decide) hc
  obtain ⟨b5, a5, s5, e5, h5⟩ := src_one c a4 s4 size 20 h4 (by decide) hc
  obtain ⟨n6, a6, s6, e6, n6a, n6b, _, h6⟩ := src_n c a5 s5 size 2 h5 (by decide) hc
  have n6c := n6b (by decide)
  have w6 : wrap64 (16 + n6) = 16 + n6 := wrap_id (by omega) (by omega)
  obtain ⟨t7, a7, s7, e7, _, h7⟩ := src_bytes c a6 s6 size (16 + n6) h6 (by clear w6; omega) (by clear w6; omega) hc
  obtain ⟨b8, a8, s8, e8, h8⟩ := src_one c (bif b5 then a7 else a5) (bif b5 then s7 else s5) size 20 (cond_le h7 h5) (by decide) hc
  obtain ⟨n9, a9, s9, e9, n9a, n9b, _, h9⟩ := src_n c a8 s8 size 2 h8 (by decide) hc
  have n9c := n9b (by decide)
  obtain ⟨b10, a10, s10, e10, h10⟩ := src_one c (bif b8 then a9 else a8) (bif b8 then s9 else s8) size 30 (cond_le h9 h8) (by decide) hc
  obtain ⟨n11, a11, s11, e11, n11a, n11b, _, h11⟩ := src_n c a10 s10 size 3 h10 (by decide) hc
  have n11c := n11b (by decide)
  have w11 : wrap64 (65535 + n11) = 65535 + n11 := wrap_id (by clear w6; omega) (by clear w6; omega)
  obtain ⟨t12, e12⟩ := src_zeros c a11 s11 size (65535 + n11) (by clear w6 w11; omega) (by clear w6 w11; omega)
  have w13 : wrap64 (10 + size) = 10 + size := wrap_id (by clear w6 w11; omega) (by clear w6 w11; omega)
  obtain ⟨n14, a14, s14, e14, n14a, n14b, _, h14⟩ := src_n c (bif b10 then a11 else a10) (bif b10 then s11 else s10) size (10 + size) (cond_le h11 h10) (by clear w6 w11 w13; omega) hc
  have n14c := n14b (by clear w6 w11 w13; omega)
  simp only [e0, e1, e2, e3, e4, e5, e6, w6, e7, e8, e9, e10, e11, w11, e12, w13, e14, Option.bind_some, Option.getD_some, Option.isSome_some, Bool.cond_self, Bool.or_true, Bool.and_true, cond_true]
  rw [decp n9a, decp (show n9 < (([-1, 4] : List Int).length : Int) from n9c)]
  simp only [Bool.and_true, Bool.or_true, cond_true]
  clear w6 w11 w13
  obtain ⟨ops, o1, o2, o3⟩ := draw_ops c hc size ByteArray.empty ByteArray.empty (bif b5 then t7 else t2) (bif b10 then t12 else (⟨#[111, 107]⟩ : ByteArray)) 0 (bif b8 then rd (.int .i64) ([-1, 4] : List Int) n9 else n3) (b5 && false) b4 n14.toNat K0 n14 [] a14 s14 (by omega) (by rw [K0_eq]; omega) (by omega) (by simp; omega) (fun x hx => by simp at hx) h14
  rw [o1]
  exact ⟨_, _, _, _, ops, rfl, ⟨by omega, fun y hy => ⟨trivial, trivial, trivial, Nat.le_trans (o3 y hy) (by omega)⟩⟩⟩
theorem bytes_loop (ops : List SOp) (hops : small (.slice R1) ops) (outs : List (Int × Int × Bool)) (hl : outs.length = ops.length) (w1 v1 : Int) (w2 w3 v2 v3 : ByteArray) (w4 v4 : Int) (w5 v5 : Bool) : ∀ (d k n : Nat) (st : SSt),
    n + d = ops.length → d < k → serInv st.1 st.2.1 st.2.2.1 → outs.drop n = (serAll (ops.drop n) st).2 →
    laws_FnSerialBytes_l12 k st.1 (n : Int) w1 w2 w3 w4 w5 outs v1 v2 v3 v4 v5 outs ops = some (Sum.inr ((serAll (ops.drop n) st).1.1, v1, v2, v3, v4, v5, outs, ())) := by
  intro d
  induction d with
  | zero =>
    intro k n st hn hk hi ho
    obtain ⟨k, rfl⟩ : ∃ q, k = q + 1 := ⟨k - 1, by omega⟩
    have : n = ops.length := by omega
    subst this
    show laws_FnSerialBytes_l12_step (laws_FnSerialBytes_l12 k) st.1 (ops.length : Int) w1 w2 w3 w4 w5 outs v1 v2 v3 v4 v5 outs ops = _
    unfold laws_FnSerialBytes_l12_step
    rw [decn (show ¬ (ops.length : Int) < (ops.length : Int) by omega), List.drop_length]
    rfl
  | succ d ih =>
    intro k n st hn hk hi ho
    obtain ⟨k, rfl⟩ : ∃ q, k = q + 1 := ⟨k - 1, by omega⟩
    have hlt : n < ops.length := by omega
    have hlo : n < outs.length := by omega
    have hll := hops.1
    have ht : (ops[n].2.2.2 : ByteArray).size ≤ 1048576 := (hops.2 _ (List.getElem_mem hlt)).2.2.2
    rw [List.drop_eq_getElem_cons hlt, List.drop_eq_getElem_cons hlo] at ho
    simp only [serAll] at ho
    obtain ⟨ho1, ho2⟩ := List.cons.inj ho
    have q3 := serStep_inv st.1 st.2.1 st.2.2.1 st.2.2.2 ops[n].1 ops[n].2.1 ops[n].2.2.1 ops[n].2.2.2 hi
    have IH := ih k (n + 1) ((serStep st.1 st.2.1 st.2.2.1 st.2.2.2 ops[n].1 ops[n].2.1 ops[n].2.2.1 ops[n].2.2.2).1, (serStep st.1 st.2.1 st.2.2.1 st.2.2.2 ops[n].1 ops[n].2.1 ops[n].2.2.1 ops[n].2.2.2).2.1, (serStep st.1 st.2.1 st.2.2.1 st.2.2.2 ops[n].1 ops[n].2.1 ops[n].2.2.1 ops[n].2.2.2).2.2.1, (serStep st.1 st.2.1 st.2.2.1 st.2.2.2 ops[n].1 ops[n].2.1 ops[n].2.2.1 ops[n].2.2.2).2.2.2.1) (by omega) (by omega) q3 ho2
    have hd : (serAll (ops.drop n) st).1.1 = (serAll (ops.drop (n + 1)) ((serStep st.1 st.2.1 st.2.2.1 st.2.2.2 ops[n].1 ops[n].2.1 ops[n].2.2.1 ops[n].2.2.2).1, (serStep st.1 st.2.1 st.2.2.1 st.2.2.2 ops[n].1 ops[n].2.1 ops[n].2.2.1 ops[n].2.2.2).2.1, (serStep st.1 st.2.1 st.2.2.1 st.2.2.2 ops[n].1 ops[n].2.1 ops[n].2.2.1 ops[n].2.2.2).2.2.1, (serStep st.1 st.2.1 st.2.2.1 st.2.2.2 ops[n].1 ops[n].2.1 ops[n].2.2.1 ops[n].2.2.2).2.2.2.1)).1.1 := by
      rw [List.drop_eq_getElem_cons hlt]; rfl
    rw [hd]
    clear hd ho ho2 q3 ih
    obtain ⟨i, o, e, l⟩ := st
    have hi1 : i.size ≤ 16 := hi.1
    simp only at IH ho1 ⊢
    show laws_FnSerialBytes_l12_step (laws_FnSerialBytes_l12 k) i (n : Int) w1 w2 w3 w4 w5 outs v1 v2 v3 v4 v5 outs ops = _
    unfold laws_FnSerialBytes_l12_step
    have d1 : decide ((n : Int) < (ops.length : Int)) = true := decp (by omega)
    have d2 : decide ((0 : Int) ≤ (n : Int)) = true := decp (by omega)
    have d3 : decide ((n : Int) < (outs.length : Int)) = true := decp (by omega)
    have w := wrap_i n ops.length hlt (by omega)
    simp only [d1, d2, d3, rd_at R1 ops n hlt, rd_at R2 outs n hlo, beq_self_eq_true, Bool.and_true, Bool.not_true, cond_true, cond_false, Bool.cond_self, Bool.or_true, w, seq_empty]
    by_cases k1 : ops[n].1 = 1
    · have hs : serStep i o e l ops[n].1 ops[n].2.1 ops[n].2.2.1 ops[n].2.2.2 = (i ++ ops[n].2.2.2.extract 0 (16 - i.size), o, e, l || decide (16 - i.size < ops[n].2.2.2.size), 0, 0) := by unfold serStep; rw [if_pos k1]
      rw [hs] at IH ⊢
      simp only at IH ⊢
      have w16 : wrap64 (16 - (i.size : Int)) = 16 - (i.size : Int) := wrap_id (by omega) (by omega)
      have en : (16 - (i.size : Int)).toNat = 16 - i.size := by omega
      rw [show (ops[n].1 == 1) = true from beq_iff_eq.2 k1, w16]
      clear w16
      simp only [cond_true, en]
      by_cases c : 16 - i.size < ops[n].2.2.2.size
      · rw [decp (show (ops[n].2.2.2.size : Int) > 16 - (i.size : Int) by omega), decp (show (0 : Int) ≤ 16 - (i.size : Int) by omega), decp (show 16 - (i.size : Int) ≤ (ops[n].2.2.2.size : Int) by omega)]
        simp only [Bool.and_true, Bool.or_true, cond_true]
        rw [joins_ok (by omega) (by rw [ByteArray.size_extract]; omega)]
        exact IH
      · rw [decn (show ¬ (ops[n].2.2.2.size : Int) > 16 - (i.size : Int) by omega)]
        simp only [Bool.not_false, Bool.true_or, cond_true, cond_false]
        rw [joins_ok (by omega) (by omega)]
        rw [extract_all ops[n].2.2.2 (16 - i.size) (by omega)] at IH ⊢
        exact IH
    rw [show (ops[n].1 == 1) = false from beq_false_of_ne k1]
    simp only [cond_false]
    by_cases k2 : ops[n].1 = 2 ∧ ops[n].2.1 = 0
    · obtain ⟨k2, k3⟩ := k2
      by_cases hz : i.size = 0
      · have hs : serStep i o e l ops[n].1 ops[n].2.1 ops[n].2.2.1 ops[n].2.2.2 = (i, o, e, l, 0, 0) := by
          unfold serStep; rw [if_neg k1, if_neg (by omega), if_pos k2, if_pos k3, if_pos hz]
        rw [hs] at IH ⊢
        simp only at IH ⊢
        rw [decp hz]
        simp only [k2, show ((2 : Int) == 3) = false from rfl, Bool.not_true, Bool.and_false, Bool.false_and, Bool.not_false, Bool.true_or, cond_true, cond_false]
        exact IH
      · have hs : serStep i o e l ops[n].1 ops[n].2.1 ops[n].2.2.1 ops[n].2.2.2 = (i.extract 1 i.size, o, e, l, 0, bt i 0) := by
          unfold serStep; rw [if_neg k1, if_neg (by omega), if_pos k2, if_pos k3, if_neg hz]
        rw [hs] at IH ho1 ⊢
        simp only at IH ho1 ⊢
        have hb := bt_range i 0
        have wb : wrap64 (bt i 0) = bt i 0 := wrap_id (by omega) (by omega)
        rw [decn hz, ho1, wb, decp (show (0 : Int) < (i.size : Int) by omega), decp (show (1 : Int) ≤ (i.size : Int) by omega)]
        simp only [k2, k3, beq_self_eq_true, Bool.and_true, Bool.not_false, bne_self_eq_false, cond_true, cond_false, decide_true, show decide ((0 : Int) ≤ 0) = true from rfl, show decide ((0 : Int) ≤ 1) = true from rfl]
        exact IH
    have hk2 : ((ops[n].1 == 2) && (ops[n].2.1 == 0)) = false := by
      rw [Bool.eq_false_iff]
      intro h
      simp only [Bool.and_eq_true, beq_iff_eq] at h
      exact k2 h
    rw [hk2]
    simp only [Bool.false_and, cond_false]
    by_cases k4 : ops[n].1 = 3 ∧ ops[n].2.1 = 3
    · obtain ⟨k4, k5⟩ := k4
      have hs : serStep i o e l ops[n].1 ops[n].2.1 ops[n].2.2.1 ops[n].2.2.2 = (ByteArray.empty, o, e, false, 0, 0) := by
        unfold serStep; rw [if_neg k1, if_neg (by omega), if_neg (by omega), if_neg (by omega), if_neg (by omega), if_pos k5]
      rw [hs] at IH ⊢
      simp only at IH ⊢
      simp only [k4, k5, beq_self_eq_true, Bool.and_true, cond_true]
      exact IH
    · have hk4 : ((ops[n].1 == 3) && (ops[n].2.1 == 3)) = false := by
        rw [Bool.eq_false_iff]
        intro h
        simp only [Bool.and_eq_true, beq_iff_eq] at h
        exact k4 h
      rw [hk4]
      simp only [cond_false]
      have hs : (serStep i o e l ops[n].1 ops[n].2.1 ops[n].2.2.1 ops[n].2.2.2).1 = i := by
        unfold serStep
        rw [if_neg k1]
        split
        · rfl
        · rename_i h
          split
          · rename_i h2
            rw [if_neg (fun h0 => k2 ⟨h2, h0⟩)]
            split
            · rfl
            · split <;> rfl
          · split
            · rfl
            · split
              · rfl
              · rename_i h2 _ _
                rw [if_neg (fun h3 => k4 ⟨by omega, h3⟩)]
      rw [hs] at IH
      rw [hs]
      exact IH
theorem FnSerialBytes : laws_FnSerialBytes.Pure := by
  intro c hm
  unfold laws_FnSerialBytes
  by_cases c1 : (List.length (show List Int from c) : Int) > 1048576
  · rw [decp c1]; rfl
  rw [decn c1]
  obtain ⟨i, o, e, l, ops, e1, sm⟩ := draw_serial c (by have h0 : ¬ ((List.length c : Nat) : Int) > 1048576 := c1; omega)
  obtain ⟨R, hR, r1, r2⟩ := ser_same i o e l ops sm
  rw [e1]
  simp only [Option.bind_some, cond_false, r1, r2, seq_self, beq_self_eq_true, bne_self_eq_false, Bool.and_true, Bool.not_true, Bool.or_false, Bool.false_or]
  by_cases h : R.1 = 0
  · obtain ⟨hi, hq⟩ := hR h
    rw [hq]
    have hlen := serAll_len ops (i, o, e, l)
    have hloop := bytes_loop ops sm (serAll ops (i, o, e, l)).2 hlen 0 0 (serAll ops (i, o, e, l)).1.1 (serAll ops (i, o, e, l)).1.2.1 (serAll ops (i, o, e, l)).1.1 (serAll ops (i, o, e, l)).1.2.1 (serAll ops (i, o, e, l)).1.2.2.1 (serAll ops (i, o, e, l)).1.2.2.1 (serAll ops (i, o, e, l)).1.2.2.2 (serAll ops (i, o, e, l)).1.2.2.2 ops.length K0 0 (i, o, e, l) (by omega) (by rw [K0_eq]; have := sm.1; omega) hi (by rw [List.drop_zero, List.drop_zero])
    rw [List.drop_zero] at hloop
    have hloop' : laws_FnSerialBytes_l12 K0 i 0 0 (serAll ops (i, o, e, l)).1.1 (serAll ops (i, o, e, l)).1.2.1 (serAll ops (i, o, e, l)).1.2.2.1 (serAll ops (i, o, e, l)).1.2.2.2 (serAll ops (i, o, e, l)).2 0 (serAll ops (i, o, e, l)).1.1 (serAll ops (i, o, e, l)).1.2.1 (serAll ops (i, o, e, l)).1.2.2.1 (serAll ops (i, o, e, l)).1.2.2.2 (serAll ops (i, o, e, l)).2 ops = _ := hloop
    simp only [hlen, bne_self_eq_false, Bool.or_false, cond_false, hloop', Option.bind_some, seq_self]
  · rw [show (R.1 != 0) = true from bne_iff_ne.2 h]
    simp
end Go.Ab.FnSerialBytes.Pure
