/- The plain statement of the law FnExactSendFrames. -/
import Derived.Test.YtcljoifconichaaAbStFnExactSendFrames
import Derived.Laws.BitsLemmas
namespace Go.Ab.FnExactSendFrames.Pure
open Go.RowKit Go.Ab
set_option linter.unusedVariables false
set_option linter.unusedSimpArgs false
theorem wrap_id {x : Int} (h0 : -9223372036854775808 ≤ x) (h1 : x ≤ 9223372036854775807) : wrap64 x = x := by rw [w64_eq]; unfold RowKit.wrap64; omega
theorem K0_ge {n : Nat} (h : n ≤ 18446744073709551616) : ∃ k, K0 = k + n := ⟨K0 - n, by rw [K0_eq]; omega⟩
theorem roomy_ok {n b : Int} (h : n * b ≤ 140737488355328) : roomy n b = true := by unfold roomy; rw [M0_eq]; simpa using h
theorem rd_nat (t : Ty) (l : List t.val) (i : Nat) : rd t l (i : Int) = l.getD i t.dflt := by unfold rd; rw [Int.toNat_natCast]
theorem rd_at (t : Ty) (l : List t.val) (i : Nat) (h : i < List.length l) : rd t l (i : Int) = l[i]'h := by rw [rd_nat]; simp [h]
theorem decp {p : Prop} [Decidable p] (h : p) : decide p = true := decide_eq_true h
theorem decn {p : Prop} [Decidable p] (h : ¬ p) : decide p = false := decide_eq_false h
theorem bt_range (m : ByteArray) (a : Int) : 0 ≤ bt m a ∧ bt m a ≤ 255 := by
  unfold bt
  have := (m.data.getD a.toNat 0).toNat_lt
  omega
theorem shl_eq {x s : Int} (n : Nat) (hs : s = (n : Int)) (h : n ≤ 64) (h0 : 0 ≤ x * 2 ^ n) (h1 : x * 2 ^ n ≤ 9223372036854775807) : shl .i64 x s = x * 2 ^ n := by
  subst hs
  unfold shl
  rw [Int.toNat_natCast, show min n IntKind.i64.bits = n from Nat.min_eq_left h, IntKind.wrap_i64]
  omega
theorem wrap_succ (i n : Nat) (h : i < n) (hn : n ≤ 140737488351232) : wrap64 ((i : Int) + 1) = ((i + 1 : Nat) : Int) := by
  rw [w64_eq]; unfold RowKit.wrap64; omega
/-- Memory as both want it: whole pages, at least one. -/
noncomputable def memOk (m : ByteArray) : Bool := decide (256 ≤ (m.size : Int) ∧ (m.size : Int) ≤ 65536 ∧ (m.size : Int) % 256 = 0)
theorem impl_memOk (m : ByteArray) : impl_ymemOk m = some (memOk m, ()) := by
  unfold impl_ymemOk memOk
  have e : Int.tmod (m.size : Int) 256 = (m.size : Int) % 256 := Int.tmod_eq_emod_of_nonneg (by omega)
  rw [e]
  simp
  rw [Bool.eq_iff_iff]
  simp
  omega
theorem spec_memOk (m : ByteArray) : spec_MemFault m = some (if memOk m = true then 0 else 1, ()) := by
  unfold spec_MemFault memOk
  have e : Int.tmod (m.size : Int) 256 = (m.size : Int) % 256 := Int.tmod_eq_emod_of_nonneg (by omega)
  rw [e]
  simp
  grind
/-- A place in so many bytes. -/
noncomputable def inB (n a b : Int) : Bool := decide (0 ≤ a ∧ 0 ≤ b ∧ a ≤ n ∧ b ≤ wrap64 (n - a))
theorem spec_in (m : ByteArray) (a b : Int) : spec_l10In m a b = some (inB m.size a b, ()) := by
  unfold spec_l10In inB
  dsimp only
  congr 2
  rw [Bool.eq_iff_iff]
  simp
  omega
theorem impl_in (n a b : Int) : impl_yfits n a b = some (inB n a b, ()) := by
  unfold impl_yfits inB
  dsimp only
  congr 2
  rw [Bool.eq_iff_iff]
  simp
  omega
theorem inB_true {n a b : Int} (h0 : 0 ≤ n) (hn : n ≤ 140737488351232) (h : inB n a b = true) : 0 ≤ a ∧ 0 ≤ b ∧ a + b ≤ n := by
  unfold inB at h
  simp only [decide_eq_true_eq] at h
  obtain ⟨h1, h2, h3, h4⟩ := h
  have e : wrap64 (n - a) = n - a := by rw [w64_eq]; unfold RowKit.wrap64; omega
  rw [e] at h4
  omega
theorem inB_le {n a b : Int} (h : inB n a b = true) : 0 ≤ a ∧ 0 ≤ b := by
  unfold inB at h; simp only [decide_eq_true_eq] at h; exact ⟨h.1, h.2.1⟩
theorem yin_eq (a b c : Int) : impl_yin a b c = some (decide (b ≤ a ∧ a ≤ c), ()) := by
  unfold impl_yin
  dsimp only
  congr 2
  rw [Bool.eq_iff_iff]
  simp
theorem mod_eq (a b : Int) (hb : 0 < b) : (if a.tmod b < 0 then a.tmod b + b else a.tmod b) = a % b := by
  have h1 := Int.emod_nonneg a (show b ≠ 0 by omega)
  have h2 := Int.emod_lt_of_pos a hb
  rw [Int.tmod_eq_emod]
  by_cases h : 0 ≤ a ∨ b ∣ a
  · rw [if_pos h]; simp; omega
  · rw [if_neg h, if_pos (by omega)]; omega
theorem mod_cond (a b : Int) (hb : 0 < b) (hb2 : b ≤ 4611686018427387904) : (bif decide (a.tmod b < 0) then wrap64 (a.tmod b + b) else a.tmod b) = a % b := by
  rw [← mod_eq a b hb]
  have h1 := Int.emod_nonneg a (show b ≠ 0 by omega)
  have h2 := Int.emod_lt_of_pos a hb
  by_cases h : a.tmod b < 0
  · have h3 : -b < a.tmod b := by
      rw [Int.tmod_eq_emod]; split <;> omega
    rw [decp h, if_pos h]
    exact wrap_id (by omega) (by omega)
  · rw [decn h, if_neg h]; rfl
/-- What is told of sizes once they are counted. -/
noncomputable def small : (t : Ty) → t.val → Prop
  | .str, x => x.size ≤ 1048576
  | .slice t, l => List.length l ≤ 1048576 ∧ ∀ y ∈ (show List t.val from l), small t y
  | .pair a b, x => small a x.1 ∧ small b x.2
  | _, _ => True
/-- The same of rows alone. -/
noncomputable def lens : (t : Ty) → t.val → Prop
  | .slice t, l => List.length l ≤ 1048576 ∧ ∀ y ∈ (show List t.val from l), lens t y
  | .pair a b, x => lens a x.1 ∧ lens b x.2
  | _, _ => True
theorem lens_of : ∀ {t : Ty} {x : t.val}, small t x → lens t x
  | .slice t, l, h => ⟨h.1, fun y hy => lens_of (h.2 y hy)⟩
  | .pair a b, x, h => ⟨lens_of h.1, lens_of h.2⟩
  | .str, _, _ => trivial
  | .int _, _, _ => trivial
  | .bool, _, _ => trivial
  | .unit, _, _ => trivial
  | .sum _ _, _, _ => trivial
  | .opq, _, _ => trivial
theorem lens_flat {t : Ty} (h : flat t = true) (x : t.val) : lens t x := by
  induction t with
  | slice t _ => simp [flat] at h
  | pair a b iha ihb => simp only [flat, Bool.and_eq_true] at h; exact ⟨iha h.1 x.1, ihb h.2 x.2⟩
  | _ => trivial
theorem lens_row {t : Ty} (h : flat t = true) {l : List t.val} (hl : l.length ≤ 1048576) : lens (.slice t) l := ⟨hl, fun y _ => lens_flat h y⟩
theorem lens_at {t : Ty} {l : List t.val} (h : lens (.slice t) l) (i : Nat) (hi : i < List.length l) : lens t (l[i]'hi) := h.2 _ (List.getElem_mem hi)
theorem good_at {t : Ty} {l : List t.val} (h : good (.slice t) l) (i : Nat) (hi : i < List.length l) : good t (l[i]'hi) := h.2 _ (List.getElem_mem hi)
theorem small_row {t : Ty} {l : List t.val} (hl : List.length l ≤ 1048576) (h : ∀ i, (hi : i < List.length l) → small t (l[i]'hi)) : small (.slice t) l := ⟨hl, fun y hy => by
  obtain ⟨i, hi, rfl⟩ := List.getElem_of_mem hy
  exact h i hi⟩
theorem maxLen_lt {n : Nat} (h : n ≤ maxLen) : n ≤ 9223372036854775807 := by unfold maxLen at h; omega
theorem wrap_inc (m j : Int) (h0 : 0 ≤ m) (h1 : m ≤ 4000000000000000000) (h2 : 0 ≤ j) (h3 : j ≤ 1000000) : wrap64 (m + j + 1) = m + (j + 1) := by
  rw [w64_eq]; unfold RowKit.wrap64; omega
theorem wrap_i (i n : Nat) (h : i < n) (hn : n ≤ 9223372036854775807) : wrap64 ((i : Int) + 1) = ((i + 1 : Nat) : Int) := by
  rw [w64_eq]; unfold RowKit.wrap64; omega
theorem rd_set (t : Ty) (l : List t.val) (i : Nat) (v : t.val) (h : i < List.length l) : rd t (List.set l i v) (i : Int) = v := by
  rw [rd_at t _ i (by simpa using h)]; simp
theorem b2s_one (n : Int) : (b2s [n]).size = 1 := rfl
theorem bsize_app (a b : ByteArray) : (a ++ b).size = a.size + b.size := ByteArray.size_append
theorem seq_self (s : ByteArray) : seq s s = true := by unfold seq; simp
theorem seq_ne_self (s : ByteArray) : (!seq s s) = false := by rw [seq_self]; rfl
/-- A loop that lays each element as it is. -/
theorem to_loop {α : Type} (F : Nat → List α → Nat → List α → Option (List α × Unit)) (l : List α) (hl : l.length ≤ 9223372036854775807)
    (hF : ∀ (k i : Nat) (ys : List α) (hi : i < l.length), ys.length = l.length → F (k + 1) l i ys = F k l (i + 1) (ys.set i l[i]))
    (hE : ∀ (k : Nat) (ys : List α), F (k + 1) l l.length ys = some (ys, ())) (ys : List α) (hy : ys.length = l.length) : F K0 l 0 ys = some (l, ()) := by
  have key : ∀ (d k i : Nat) (ys : List α), i + d = l.length → d < k → ys.length = l.length → (∀ j, j < i → ys[j]? = l[j]?) → F k l i ys = some (l, ()) := by
    intro d
    induction d with
    | zero =>
      intro k i ys hi hk hy hj
      obtain ⟨k, rfl⟩ : ∃ q, k = q + 1 := ⟨k - 1, by omega⟩
      have : i = l.length := by omega
      subst this
      rw [hE]
      congr 2
      apply List.ext_getElem? 
      intro j
      by_cases h : j < l.length
      · exact hj j h
      · rw [List.getElem?_eq_none (by omega), List.getElem?_eq_none (by omega)]
    | succ d ih =>
      intro k i ys hi hk hy hj
      obtain ⟨k, rfl⟩ : ∃ q, k = q + 1 := ⟨k - 1, by omega⟩
      rw [hF k i ys (by omega) hy]
      refine ih k (i + 1) _ (by omega) (by omega) (by simpa using hy) fun j hjj => ?_
      by_cases h : j = i
      · subst h
        rw [List.getElem?_set_self (by omega), List.getElem?_eq_getElem (by omega)]
      · rw [List.getElem?_set_ne (by omega)]
        exact hj j (by omega)
  exact key l.length K0 0 ys (by omega) (by rw [K0_eq]; omega) hy (fun j hj => by omega)
/-- A loop that takes from what is left, or is at its end. -/
theorem sz_loop {α : Type} (F : Nat → List α → Int → Nat → Option ((Int × Unit) ⊕ (Int × Unit))) (P : α → Prop) (l : List α) (hl : l.length ≤ 9223372036854775807)
    (hF : ∀ (k i : Nat) (left : Int) (hi : i < l.length), 0 ≤ left → left ≤ 1048576 → ∃ n, n ≤ left ∧ -1 ≤ n ∧ (0 ≤ n → P l[i]) ∧ F (k + 1) l left i = bif decide (n < 0) then some (Sum.inl (-1, ())) else F k l n (i + 1))
    (hE : ∀ (k : Nat) (left : Int), F (k + 1) l left l.length = some (Sum.inr (left, ()))) (left : Int) (h0 : 0 ≤ left) (h1 : left ≤ 1048576) :
    F K0 l left 0 = some (Sum.inl (-1, ())) ∨ ∃ n, n ≤ left ∧ 0 ≤ n ∧ (∀ i, (hi : i < l.length) → P l[i]) ∧ F K0 l left 0 = some (Sum.inr (n, ())) := by
  have key : ∀ (d k i : Nat) (left : Int), i + d = l.length → d < k → 0 ≤ left → left ≤ 1048576 → F k l left i = some (Sum.inl (-1, ())) ∨ ∃ n, n ≤ left ∧ 0 ≤ n ∧ (∀ j, i ≤ j → (hj : j < l.length) → P l[j]) ∧ F k l left i = some (Sum.inr (n, ())) := by
    intro d
    induction d with
    | zero =>
      intro k i left hi hk h0 h1
      obtain ⟨k, rfl⟩ : ∃ q, k = q + 1 := ⟨k - 1, by omega⟩
      have : i = l.length := by omega
      subst this
      exact .inr ⟨left, by omega, h0, fun j h1 h2 => by omega, hE k left⟩
    | succ d ih =>
      intro k i left hi hk h0 h1
      obtain ⟨k, rfl⟩ : ∃ q, k = q + 1 := ⟨k - 1, by omega⟩
      obtain ⟨n, n1, n2, hP, e⟩ := hF k i left (by omega) h0 h1
      rw [e]
      by_cases c : n < 0
      · rw [decp c]; exact .inl rfl
      · rw [decn c, cond_false]
        rcases ih k (i + 1) n (by omega) (by omega) (by omega) (by omega) with q | ⟨m, q1, q2, q3, q4⟩
        · exact .inl q
        · refine .inr ⟨m, by omega, q2, fun j h1 h2 => ?_, q4⟩
          by_cases h : j = i
          · subst h; exact hP (by omega)
          · exact q3 j (by omega) h2
  rcases key l.length K0 0 left (by omega) (by rw [K0_eq]; omega) h0 h1 with q | ⟨m, q1, q2, q3, q4⟩
  · exact .inl q
  · exact .inr ⟨m, q1, q2, fun i hi => q3 i (by omega) hi, q4⟩
/-- A loop that holds each element against itself. -/
theorem eq_loop {α : Type} (F : Nat → List α → List α → Nat → Option ((Bool × Unit) ⊕ Unit)) (l : List α) (hl : l.length ≤ 9223372036854775807)
    (hF : ∀ (k i : Nat) (hi : i < l.length), F (k + 1) l l i = F k l l (i + 1))
    (hE : ∀ (k : Nat), F (k + 1) l l l.length = some (Sum.inr ())) : F K0 l l 0 = some (Sum.inr ()) := by
  have key : ∀ (d k i : Nat), i + d = l.length → d < k → F k l l i = some (Sum.inr ()) := by
    intro d
    induction d with
    | zero =>
      intro k i hi hk
      obtain ⟨k, rfl⟩ : ∃ q, k = q + 1 := ⟨k - 1, by omega⟩
      have : i = l.length := by omega
      subst this
      exact hE k
    | succ d ih =>
      intro k i hi hk
      obtain ⟨k, rfl⟩ : ∃ q, k = q + 1 := ⟨k - 1, by omega⟩
      rw [hF k i (by omega)]
      exact ih k (i + 1) (by omega) (by omega)
  exact key l.length K0 0 (by omega) (by rw [K0_eq]; omega)
/-- A loop F that marks each element with running numbers, and a loop G that tells whether the marks stand. -/
theorem mark_loop {α : Type} (F : Nat → List α → Int → Nat → Option (Int × List α × Unit)) (c : Int) (E : Int → α → α) (hc : 0 ≤ c)
    (hF : ∀ (k : Nat) (xs : List α) (m : Int) (i : Nat) (hi : i < xs.length), 0 ≤ m → m ≤ 4000000000000000000 → xs.length ≤ 9223372036854775807 → F (k + 1) xs m i = F k (xs.set i (E m xs[i])) (m + c) (i + 1))
    (hFe : ∀ (k : Nat) (xs : List α) (m : Int), F (k + 1) xs m xs.length = some (m, xs, ())) (xs : List α) (m : Int) (hl : xs.length ≤ 9223372036854775807) (hm : 0 ≤ m) (hb : m + c * (xs.length : Int) ≤ 4000000000000000000) :
      ∃ ys, F K0 xs m 0 = some (m + c * (xs.length : Int), ys, ()) ∧ ys.length = xs.length ∧ ∀ i, (h : i < ys.length) → ∃ a, ys[i] = E (m + c * (i : Int)) a := by
  have key : ∀ (d k i : Nat) (xs : List α) (m : Int), i + d = xs.length → d < k → 0 ≤ m → m + c * d ≤ 4000000000000000000 → xs.length ≤ 9223372036854775807 →
      ∃ ys, F k xs m i = some (m + c * d, ys, ()) ∧ ys.length = xs.length ∧ (∀ j, j < i → ys[j]? = xs[j]?) ∧ ∀ j, i ≤ j → (h : j < ys.length) → ∃ a, ys[j] = E (m + c * ((j : Int) - i)) a := by
    intro d
    induction d with
    | zero =>
      intro k i xs m hi hk hm hb hl
      obtain ⟨k, rfl⟩ : ∃ q, k = q + 1 := ⟨k - 1, by omega⟩
      have : i = xs.length := by omega
      subst this
      exact ⟨xs, by rw [hFe]; simp, rfl, fun _ _ => rfl, fun j h1 h2 => by omega⟩
    | succ d ih =>
      intro k i xs m hi hk hm hb hl
      obtain ⟨k, rfl⟩ : ∃ q, k = q + 1 := ⟨k - 1, by omega⟩
      have hlt : i < xs.length := by omega
      have hcd : 0 ≤ c * (d : Int) := Int.mul_nonneg hc (by omega)
      have hs : c * ((d + 1 : Nat) : Int) = c * (d : Int) + c := by rw [Int.natCast_succ, Int.mul_add, Int.mul_one]
      rw [hs] at hb ⊢
      obtain ⟨ys, e1, e2, e3, e4⟩ := ih k (i + 1) (xs.set i (E m xs[i])) (m + c) (by simp; omega) (by omega) (by omega) (by omega) (by simpa using hl)
      have hy : i < ys.length := by rw [e2]; simpa using hlt
      have hyi : ys[i] = E m xs[i] := by
        have h := e3 i (by omega)
        rw [List.getElem?_eq_getElem hy, List.getElem?_set_self hlt] at h
        exact Option.some.inj h
      refine ⟨ys, ?_, by rw [e2]; simp, ?_, ?_⟩
      · rw [hF k xs m i hlt hm (by omega) hl, e1]
        congr 2
        omega
      · intro j hj
        rw [e3 j (by omega), List.getElem?_set_ne (by omega)]
      · intro j hj h
        by_cases h' : j = i
        · subst h'
          exact ⟨xs[j], by rw [hyi]; congr 1; rw [Int.sub_self, Int.mul_zero, Int.add_zero]⟩
        · obtain ⟨a, ha⟩ := e4 j (by omega) h
          refine ⟨a, by rw [ha]; congr 1; rw [Int.add_assoc]; congr 1; rw [show (j : Int) - (i : Int) = 1 + ((j : Int) - ((i + 1 : Nat) : Int)) by omega, Int.mul_add, Int.mul_one]⟩
  obtain ⟨ys, e1, e2, _, e4⟩ := key xs.length K0 0 xs m (by omega) (by rw [K0_eq]; omega) hm hb hl
  exact ⟨ys, e1, e2, fun i h => by obtain ⟨a, ha⟩ := e4 i (by omega) h; exact ⟨a, by simpa using ha⟩⟩
/-- A loop that tells whether the marks stand. -/
theorem held_loop {α : Type} (G : Nat → List α → Int → Nat → Option ((Int × Unit) ⊕ (Int × Unit))) (c : Int) (E : Int → α → α) (hc : 0 ≤ c)
    (hG : ∀ (k : Nat) (xs : List α) (m : Int) (i : Nat) (hi : i < xs.length) (a : α), 0 ≤ m → m ≤ 4000000000000000000 → xs.length ≤ 9223372036854775807 → xs[i] = E m a → G (k + 1) xs m i = G k xs (m + c) (i + 1))
    (hGe : ∀ (k : Nat) (xs : List α) (m : Int), G (k + 1) xs m xs.length = some (Sum.inr (m, ()))) (ys : List α) (m : Int) (hl : ys.length ≤ 9223372036854775807) (hm : 0 ≤ m) (hb : m + c * (ys.length : Int) ≤ 4000000000000000000)
    (hE : ∀ i, (h : i < ys.length) → ∃ a, ys[i] = E (m + c * (i : Int)) a) : G K0 ys m 0 = some (Sum.inr (m + c * (ys.length : Int), ())) := by
  have key : ∀ (d k i : Nat), i + d = ys.length → d < k → G k ys (m + c * (i : Int)) i = some (Sum.inr (m + c * (ys.length : Int), ())) := by
    intro d
    induction d with
    | zero =>
      intro k i hi hk
      obtain ⟨k, rfl⟩ : ∃ q, k = q + 1 := ⟨k - 1, by omega⟩
      have : i = ys.length := by omega
      subst this
      exact hGe k ys _
    | succ d ih =>
      intro k i hi hk
      obtain ⟨k, rfl⟩ : ∃ q, k = q + 1 := ⟨k - 1, by omega⟩
      obtain ⟨a, ha⟩ := hE i (by omega)
      have hcd : 0 ≤ c * (i : Int) := Int.mul_nonneg hc (by omega)
      have hle : c * (i : Int) ≤ c * (ys.length : Int) := Int.mul_le_mul_of_nonneg_left (by omega) hc
      rw [hG k ys _ i (by omega) a (by omega) (by omega) hl ha]
      have e : m + c * (i : Int) + c = m + c * ((i + 1 : Nat) : Int) := by
        rw [show ((i + 1 : Nat) : Int) = (i : Int) + 1 by omega, Int.mul_add, Int.mul_one]; omega
      rw [e]
      exact ih k (i + 1) (by omega) (by omega)
  have := key ys.length K0 0 (by omega) (by rw [K0_eq]; omega)
  simpa using this
theorem bits_eq (op : BinOp) (k : IntKind) (x y : Int) : Go.Ab.bits op k x y = Go.bits op k x y := by cases op <;> rfl
theorem wraps_i64 (n : Int) (h0 : 0 ≤ n) (h1 : n < 2 ^ 63) : IntKind.i64.wrap n = n := by rw [IntKind.wrap_i64]; omega
theorem or_comm_i64 (x y : Int) : Go.bits .or .i64 x y = Go.bits .or .i64 y x := by
  unfold Go.bits
  simp only [BitVec.or_comm]
theorem or_low (i : Nat) (x y : Int) (hx0 : 0 ≤ x) (hx : x < 2 ^ i) (hy0 : 0 ≤ y) (hy : y % 2 ^ i = 0) (hy1 : y < 2 ^ 63) (hx1 : x < 2 ^ 63) : Go.Ab.bits .or .i64 x y = x + y := by
  rw [bits_eq, or_comm_i64, Int.add_comm]
  exact bits_join .i64 63 (by decide) wraps_i64 i y x hy0 hy hy1 hx0 hx hx1
theorem and_mask (i : Nat) (hi : i ≤ 63) (x : Int) (h0 : 0 ≤ x) (h1 : x < 2 ^ 63) : Go.Ab.bits .and .i64 x (2 ^ i - 1) = x % 2 ^ i := by
  rw [bits_eq]
  exact bits_mask .i64 63 (by decide) wraps_i64 i hi x h0 h1
/-- Four bytes as a number. -/
noncomputable def word (m : ByteArray) (a : Int) : Int := bt m a + bt m (a + 1) * 256 + bt m (a + 2) * 65536 + bt m (a + 3) * 16777216
theorem word_range (m : ByteArray) (a : Int) : 0 ≤ word m a ∧ word m a < 4294967296 := by
  have h0 := bt_range m a; have h1 := bt_range m (a + 1); have h2 := bt_range m (a + 2); have h3 := bt_range m (a + 3)
  unfold word; omega
theorem spec_word (m : ByteArray) (a : Int) (hm : m.size ≤ 140737488351232) (h0 : 0 ≤ a) (h1 : a + 4 ≤ m.size) : spec_l01Word m a = some (word m a, ()) := by
  have b0 := bt_range m a; have b1 := bt_range m (a + 1); have b2 := bt_range m (a + 2); have b3 := bt_range m (a + 3)
  have e1 : wrap64 (a + 1) = a + 1 := wrap_id (by omega) (by omega)
  have e2 : wrap64 (a + 2) = a + 2 := wrap_id (by omega) (by omega)
  have e3 : wrap64 (a + 3) = a + 3 := wrap_id (by omega) (by omega)
  unfold spec_l01Word word
  simp only [e1, e2, e3]
  rw [decp h0, decp (show a < (m.size : Int) by omega), decp (show 0 ≤ a + 1 by omega), decp (show a + 1 < (m.size : Int) by omega), decp (show 0 ≤ a + 2 by omega), decp (show a + 2 < (m.size : Int) by omega), decp (show 0 ≤ a + 3 by omega), decp (show a + 3 < (m.size : Int) by omega)]
  clear e1 e2 e3
  rw [wrap_id (x := bt m a) (by omega) (by omega), wrap_id (x := bt m (a + 1)) (by omega) (by omega), wrap_id (x := bt m (a + 2)) (by omega) (by omega), wrap_id (x := bt m (a + 3)) (by omega) (by omega)]
  rw [shl_eq (x := bt m (a + 1)) 8 (by rfl) (by decide) (by omega) (by omega), shl_eq (x := bt m (a + 2)) 16 (by rfl) (by decide) (by omega) (by omega), shl_eq (x := bt m (a + 3)) 24 (by rfl) (by decide) (by omega) (by omega)]
  rw [wrap_id (x := bt m a + bt m (a + 1) * 2 ^ 8) (by omega) (by omega), wrap_id (x := bt m a + bt m (a + 1) * 2 ^ 8 + bt m (a + 2) * 2 ^ 16) (by omega) (by omega), wrap_id (by omega) (by omega)]
  rfl
theorem impl_word (m : ByteArray) (a : Int) (hm : m.size ≤ 140737488351232) (h0 : 0 ≤ a) (h1 : a + 4 ≤ m.size) : impl_ywordAt m a = some (word m a, ()) := by
  have b0 := bt_range m a; have b1 := bt_range m (a + 1); have b2 := bt_range m (a + 2); have b3 := bt_range m (a + 3)
  have e1 : wrap64 (a + 1) = a + 1 := wrap_id (by omega) (by omega)
  have e2 : wrap64 (a + 2) = a + 2 := wrap_id (by omega) (by omega)
  have e3 : wrap64 (a + 3) = a + 3 := wrap_id (by omega) (by omega)
  unfold impl_ywordAt word
  simp only [e1, e2, e3]
  rw [decp h0, decp (show a < (m.size : Int) by omega), decp (show 0 ≤ a + 1 by omega), decp (show a + 1 < (m.size : Int) by omega), decp (show 0 ≤ a + 2 by omega), decp (show a + 2 < (m.size : Int) by omega), decp (show 0 ≤ a + 3 by omega), decp (show a + 3 < (m.size : Int) by omega)]
  clear e1 e2 e3
  rw [wrap_id (x := bt m a) (by omega) (by omega), wrap_id (x := bt m (a + 1)) (by omega) (by omega), wrap_id (x := bt m (a + 2)) (by omega) (by omega), wrap_id (x := bt m (a + 3)) (by omega) (by omega)]
  rw [shl_eq (x := bt m (a + 1)) 8 (by rfl) (by decide) (by omega) (by omega), shl_eq (x := bt m (a + 2)) 16 (by rfl) (by decide) (by omega) (by omega), shl_eq (x := bt m (a + 3)) 24 (by rfl) (by decide) (by omega) (by omega)]
  rw [or_low 8 (bt m a) (bt m (a + 1) * 2 ^ 8) (by omega) (by omega) (by omega) (by omega) (by omega) (by omega)]
  rw [or_low 16 (bt m a + bt m (a + 1) * 2 ^ 8) (bt m (a + 2) * 2 ^ 16) (by omega) (by omega) (by omega) (by omega) (by omega) (by omega)]
  rw [or_low 24 _ (bt m (a + 3) * 2 ^ 24) (by omega) (by omega) (by omega) (by omega) (by omega) (by omega)]
  rfl
theorem impl_big1 (m : ByteArray) : impl_ybig [m] = some (decide ((m.size : Int) > 65536), ()) := by
  obtain ⟨k, hk⟩ := K0_ge (n := 2) (by decide)
  unfold impl_ybig
  rw [hk]
  simp only [impl_ybig_l2, impl_ybig_l2_step, rd, w64_eq, RowKit.wrap64]
  by_cases h : (m.size : Int) > 65536 <;> simp (config := {decide := true}) [h]
theorem spec_mod (a b : Int) (hb : 0 < b) (hb2 : b ≤ 4611686018427387904) : spec_l01Mod a b = some (a % b, ()) := by
  unfold spec_l01Mod
  dsimp only
  rw [mod_cond a b hb hb2, show (b == 0) = false from beq_false_of_ne (by omega)]
  rfl
noncomputable def placeOk (n a b : Int) : Bool := (Int.tmod a 4 == 0) && inB n a b
theorem impl_place (m : ByteArray) (a b : Int) : impl_yplace m a b = some (placeOk m.size a b, ()) := by
  unfold impl_yplace placeOk
  simp only [impl_in]
  simp
/-- What a packed ring is. -/
noncomputable def packedOk (m : ByteArray) (s r a : Int) : Bool := memOk m && decide (1 ≤ s ∧ s ≤ 16) && placeOk m.size r (wrap64 (16 * s)) && decide (0 ≤ a ∧ a < s)
theorem spec_packed (m : ByteArray) (s r a : Int) (w : Bool) : spec_PackedFault m s r a w = some (if packedOk m s r a = true then 0 else 1, ()) := by
  unfold spec_PackedFault packedOk placeOk
  simp only [spec_memOk, spec_in, Option.bind_some]
  generalize inB m.size r (wrap64 (16 * s)) = P
  simp
  grind
theorem impl_packed (m : ByteArray) (s r a : Int) (w : Bool) : impl_PackedFault m s r a w = some (if packedOk m s r a = true then 0 else 1, ()) := by
  unfold impl_PackedFault packedOk
  simp only [impl_memOk, yin_eq, impl_place, Option.bind_some]
  by_cases c : 1 ≤ s ∧ s ≤ 16
  · have e : wrap64 (s - 1) = s - 1 := wrap_id (by omega) (by omega)
    rw [e]
    clear e
    generalize placeOk m.size r (wrap64 (16 * s)) = P
    have : (0 ≤ a ∧ a ≤ s - 1) ↔ (0 ≤ a ∧ a < s) := by omega
    simp [c, this]
    grind
  · generalize placeOk m.size r (wrap64 (16 * s)) = P
    simp [c]
theorem packed_true {m : ByteArray} {s r a : Int} (h : packedOk m s r a = true) : 256 ≤ m.size ∧ m.size ≤ 65536 ∧ 1 ≤ s ∧ s ≤ 16 ∧ 0 ≤ r ∧ r + 16 * s ≤ m.size ∧ 0 ≤ a ∧ a < s := by
  unfold packedOk memOk placeOk at h
  simp only [Bool.and_eq_true, decide_eq_true_eq] at h
  obtain ⟨⟨⟨⟨h1, h2, _⟩, h3, h4⟩, _, h5⟩, h6, h7⟩ := h
  have e : wrap64 (16 * s) = 16 * s := wrap_id (by omega) (by omega)
  rw [e] at h5
  clear e
  have := inB_true (by omega) (by omega) h5
  omega
theorem packed_move {m m' : ByteArray} {s r a a' : Int} (hz : m'.size = m.size) (h : packedOk m s r a = true) (ha : 0 ≤ a' ∧ a' < s) : packedOk m' s r a' = true := by
  unfold packedOk memOk at h ⊢
  rw [hz]
  simp only [Bool.and_eq_true, decide_eq_true_eq] at h ⊢
  exact ⟨h.1, ha⟩
theorem impl_readDesc (m : ByteArray) (a : Int) (hm : m.size ≤ 140737488351232) (h0 : 0 ≤ a) (h1 : a + 16 ≤ m.size) : impl_yreadDesc m a = some (word m a, word m (a + 4), word m (a + 8), word m (a + 12), ()) := by
  obtain ⟨k, hk⟩ := K0_ge (n := 5) (by decide)
  have w0 : wrap64 (a + wrap64 (4 * 0)) = a := by rw [wrap_id (x := 4 * 0) (by decide) (by decide), wrap_id (by omega) (by omega)]; omega
  have w1 : wrap64 (a + wrap64 (4 * 1)) = a + 4 := by clear w0; rw [wrap_id (x := 4 * 1) (by decide) (by decide), wrap_id (by omega) (by omega)]; omega
  have w2 : wrap64 (a + wrap64 (4 * 2)) = a + 8 := by clear w0 w1; rw [wrap_id (x := 4 * 2) (by decide) (by decide), wrap_id (by omega) (by omega)]; omega
  have w3 : wrap64 (a + wrap64 (4 * 3)) = a + 12 := by clear w0 w1 w2; rw [wrap_id (x := 4 * 3) (by decide) (by decide), wrap_id (by omega) (by omega)]; omega
  have v0 : wrap64 (0 + 1) = 1 := wrap_id (by decide) (by decide)
  have v1 : wrap64 (1 + 1) = 2 := wrap_id (by decide) (by decide)
  have v2 : wrap64 (2 + 1) = 3 := wrap_id (by decide) (by decide)
  have v3 : wrap64 (3 + 1) = 4 := wrap_id (by decide) (by decide)
  have i0 := impl_word m a hm h0 (by clear w0 w1 w2 w3 v0 v1 v2 v3; omega)
  have i1 := impl_word m (a + 4) hm (by clear w0 w1 w2 w3 v0 v1 v2 v3; omega) (by clear w0 w1 w2 w3 v0 v1 v2 v3; omega)
  have i2 := impl_word m (a + 8) hm (by clear w0 w1 w2 w3 v0 v1 v2 v3; omega) (by clear w0 w1 w2 w3 v0 v1 v2 v3; omega)
  have i3 := impl_word m (a + 12) hm (by clear w0 w1 w2 w3 v0 v1 v2 v3; omega) (by clear w0 w1 w2 w3 v0 v1 v2 v3; omega)
  unfold impl_yreadDesc
  rw [hk]
  simp only [impl_yreadDesc_l3, impl_yreadDesc_l3_step, w0, w1, w2, w3, v0, v1, v2, v3, i0, i1, i2, i3, Option.bind_some]
  simp (config := {decide := true})
abbrev Buf := Int × Int × Bool
/-- Is the last one to be written? -/
noncomputable def lastW (bs : List Buf) : Bool := decide (0 < bs.length) && (bs.getD (bs.length - 1) (0, 0, false)).2.2
/-- What putting a buffer behind others answers. -/
noncomputable def bufCode (m : ByteArray) (bs : List Buf) (x y : Int) (wr : Bool) : Int := if inB m.size x y = true then (if (lastW bs && !wr) = true then 6 else 0) else 2
theorem last_at (bs : List Buf) (hb : bs.length ≤ 1048576) (h0 : 0 < bs.length) : wrap64 ((bs.length : Int) - 1) = ((bs.length - 1 : Nat) : Int) := by
  rw [wrap_id (by omega) (by omega)]; omega
theorem lastW_eq (bs : List Buf) (hb : bs.length ≤ 1048576) : (decide ((bs.length : Int) > 0) && (rd R1 bs (wrap64 ((bs.length : Int) - 1))).2.2) = lastW bs ∧ (!decide ((bs.length : Int) > 0) || (decide (0 ≤ wrap64 ((bs.length : Int) - 1)) && decide (wrap64 ((bs.length : Int) - 1) < (bs.length : Int)))) = true := by
  unfold lastW
  by_cases h0 : 0 < bs.length
  · have e := last_at bs hb h0
    rw [e, rd_nat]
    constructor
    · rw [decp (show (bs.length : Int) > 0 by clear e; omega), decp h0]
      rfl
    · rw [decp (show 0 ≤ ((bs.length - 1 : Nat) : Int) by clear e; omega), decp (show ((bs.length - 1 : Nat) : Int) < (bs.length : Int) by clear e; omega)]
      simp
  · rw [decn (show ¬ (bs.length : Int) > 0 by omega), decn h0]
    simp
theorem spec_buf (m : ByteArray) (bs : List Buf) (x y : Int) (wr : Bool) (hb : bs.length ≤ 1048576) : spec_l10Buf m bs x y wr = some (bufCode m bs x y wr, ()) := by
  unfold spec_l10Buf bufCode
  obtain ⟨e1, e2⟩ := lastW_eq bs hb
  simp only [spec_in, Option.bind_some, e1, e2]
  cases inB m.size x y <;> cases lastW bs <;> cases wr <;> rfl
/-- Has f any of x's bits? -/
noncomputable def flag (f x : Int) : Bool := Go.Ab.bits .and .i64 f x != 0
theorem flag_def (f x : Int) : (Go.Ab.bits .and .i64 f x != 0) = flag f x := rfl
theorem flag_not (f x : Int) : (Go.Ab.bits .and .i64 f x == 0) = !flag f x := by unfold flag; cases h : (Go.Ab.bits .and .i64 f x == 0) <;> simp_all [bne]
theorem impl_has (a b c d x : Int) : impl_ydesc_has a b c d x = some (flag c x, ()) := rfl
theorem impl_buf (a b c d : Int) : impl_ydesc_buf a b c d = some (a, b, flag c 2, ()) := rfl
theorem impl_add (m : ByteArray) (bs : List Buf) (a b c d : Int) (hb : bs.length ≤ 1048576) : impl_yadd_v4 m bs a b c d = some (if bufCode m bs a b (flag c 2) = 0 then (bs ++ [(a, b, flag c 2)], 0, ()) else ([], bufCode m bs a b (flag c 2), ())) := by
  unfold impl_yadd_v4 bufCode
  obtain ⟨e1, e2⟩ := lastW_eq bs hb
  simp only [impl_in, Option.bind_some, impl_has, impl_buf, e1, e2, Option.getD_some, Option.isSome_some]
  rw [roomy_ok (by simp; omega)]
  generalize flag c 2 = W
  cases inB m.size a b <;> cases lastW bs <;> cases W <;> simp
abbrev Tk := Int × Int × Int × List Buf × Unit
/-- What is taken, with so many descriptors yet to go and these buffers found. -/
noncomputable def takeGo (m : ByteArray) (s r a : Int) : Nat → List Buf → Tk
  | 0, _ => (9, 0, 0, [], ())
  | n + 1, bs =>
    let d := r + 16 * ((a + (s - ((n + 1 : Nat) : Int))) % s)
    let f := word m (d + 8)
    if flag f 4 = true then (3, 0, 0, [], ()) else
    let code := bufCode m bs (word m d) (word m (d + 4)) (flag f 2)
    if code = 0 then (if flag f 1 = true then takeGo m s r a n (bs ++ [(word m d, word m (d + 4), flag f 2)]) else (0, word m (d + 12) % 65536, s - (n : Int), bs ++ [(word m d, word m (d + 4), flag f 2)], ()))
    else (code, 0, 0, [], ())
/-- Is there nothing? -/
noncomputable def noneB (m : ByteArray) (r a : Int) (w : Bool) : Bool := !(flag (word m (r + 16 * a + 8)) 128 == w) || (flag (word m (r + 16 * a + 8)) 32768 == w)
noncomputable def takeRes (m : ByteArray) (s r a : Int) (w : Bool) : Tk := if noneB m r a w = true then (5, 0, 0, [], ()) else takeGo m s r a s.toNat []
theorem inB_app {m : ByteArray} {bs : List Buf} {x y : Int} {w : Bool} (h : ∀ b ∈ bs, inB m.size b.1 b.2.1 = true) (c : bufCode m bs x y w = 0) : ∀ b ∈ bs ++ [(x, y, w)], inB m.size b.1 b.2.1 = true := fun b hb => by
  rcases List.mem_append.1 hb with hb | hb
  · exact h b hb
  · rw [List.mem_singleton] at hb
    subst hb
    unfold bufCode at c
    cases hi : inB m.size x y with
    | true => rfl
    | false => rw [hi] at c; simp at c
theorem bufCode_ne (m : ByteArray) (bs : List Buf) (x y : Int) (w : Bool) : bufCode m bs x y w ≠ 5 := by
  unfold bufCode
  split
  · split <;> decide
  · decide
theorem takeGo_ok (m : ByteArray) (s r a : Int) : ∀ (n : Nat) (bs : List Buf), (n : Int) ≤ s → bs.length + n ≤ 16 → (∀ b ∈ bs, inB m.size b.1 b.2.1 = true) →
    (takeGo m s r a n bs).1 ≠ 5 ∧ (takeGo m s r a n bs).2.2.2.1.length ≤ 16 ∧ (∀ b ∈ (takeGo m s r a n bs).2.2.2.1, inB m.size b.1 b.2.1 = true) ∧
    ((takeGo m s r a n bs).1 = 0 → (0 ≤ (takeGo m s r a n bs).2.1 ∧ (takeGo m s r a n bs).2.1 ≤ 65535) ∧ 1 ≤ (takeGo m s r a n bs).2.2.1 ∧ (takeGo m s r a n bs).2.2.1 ≤ s) := by
  intro n
  induction n with
  | zero => intro bs hn hb hi; simp [takeGo]
  | succ n ih =>
    intro bs hn hb hi
    rw [takeGo]
    dsimp only
    generalize r + 16 * ((a + (s - ((n + 1 : Nat) : Int))) % s) = d
    by_cases c1 : flag (word m (d + 8)) 4 = true
    · rw [if_pos c1]; simp
    rw [if_neg c1]
    by_cases c2 : bufCode m bs (word m d) (word m (d + 4)) (flag (word m (d + 8)) 2) = 0
    · rw [if_pos c2]
      by_cases c3 : flag (word m (d + 8)) 1 = true
      · rw [if_pos c3]
        exact ih _ (by omega) (by simp; omega) (inB_app hi c2)
      · rw [if_neg c3]
        refine ⟨by simp, by simp; omega, inB_app hi c2, fun _ => ⟨⟨?_, ?_⟩, ?_, ?_⟩⟩
        · exact Int.emod_nonneg _ (by decide)
        · have := Int.emod_lt_of_pos (word m (d + 12)) (show (0 : Int) < 65536 by decide)
          show word m (d + 12) % 65536 ≤ 65535
          omega
        · show 1 ≤ s - (n : Int); omega
        · show s - (n : Int) ≤ s; omega
    · rw [if_neg c2]
      refine ⟨bufCode_ne _ _ _ _ _, by simp, by simp, fun h => absurd h c2⟩
theorem at_range (a c s : Int) (h : 0 < s) : 0 ≤ (a + c) % s ∧ (a + c) % s < s := ⟨Int.emod_nonneg _ (by omega), Int.emod_lt_of_pos _ h⟩
theorem spec_go (m : ByteArray) (s r a : Int) (w : Bool) (hm : m.size ≤ 65536) (hs : 1 ≤ s) (hs1 : s ≤ 16) (hr : 0 ≤ r) (hr1 : r + 16 * s ≤ m.size) (ha : 0 ≤ a) (ha1 : a < s) :
    ∀ (n k : Nat) (bs : List Buf), (n : Int) ≤ s → bs.length + n ≤ 16 → n < k → ((n : Int) = s → noneB m r a w = false) →
      spec_TakePacked_l6 k m s r a w 0 0 0 0 0 (s - (n : Int)) bs = some (takeGo m s r a n bs) := by
  intro n
  induction n with
  | zero =>
    intro k bs hn hb hk hq
    obtain ⟨k, rfl⟩ : ∃ q, k = q + 1 := ⟨k - 1, by omega⟩
    obtain ⟨p0, p1⟩ := at_range a (s - ((0 : Nat) : Int)) s (by omega)
    have am : Int.tmod (wrap64 (a + (s - ((0 : Nat) : Int)))) s = (a + (s - ((0 : Nat) : Int))) % s := by rw [wrap_id (by omega) (by omega), Int.tmod_eq_emod_of_nonneg (by omega)]
    generalize hp : (a + (s - ((0 : Nat) : Int))) % s = p at am p0 p1
    have f1 : wrap64 (16 * p) = 16 * p := wrap_id (by clear am; omega) (by clear am; omega)
    have f2 : wrap64 (r + 16 * p) = r + 16 * p := wrap_id (by clear am f1; omega) (by clear am f1; omega)
    have f3 : wrap64 (r + 16 * p + 8) = r + 16 * p + 8 := wrap_id (by clear am f1 f2; omega) (by clear am f1 f2; omega)
    have q8 := spec_word m (r + 16 * p + 8) (by clear am f1 f2 f3; omega) (by clear am f1 f2 f3; omega) (by clear am f1 f2 f3; omega)
    have e : wrap64 (s - ((0 : Nat) : Int) + 1) = s + 1 := by clear am f1 f2 f3; rw [wrap_id (by omega) (by omega)]; omega
    show spec_TakePacked_l6_step (spec_TakePacked_l6 k) m s r a w 0 0 0 0 0 (s - ((0 : Nat) : Int)) bs = _
    unfold spec_TakePacked_l6_step
    simp only [am, f1, f2, f3, q8, Option.bind_some, e]
    clear am f1 f2 f3 e
    rw [show (s == 0) = false from beq_false_of_ne (by omega), show (s - ((0 : Nat) : Int) == 0) = false from beq_false_of_ne (by omega), decp (show s + 1 > s by omega), takeGo]
    simp only [Bool.not_false, Bool.false_and, cond_true, cond_false]
  | succ n ih =>
    intro k bs hn hb hk hq
    obtain ⟨k, rfl⟩ : ∃ q, k = q + 1 := ⟨k - 1, by omega⟩
    obtain ⟨p0, p1⟩ := at_range a (s - ((n + 1 : Nat) : Int)) s (by omega)
    have am : Int.tmod (wrap64 (a + (s - ((n + 1 : Nat) : Int)))) s = (a + (s - ((n + 1 : Nat) : Int))) % s := by rw [wrap_id (by omega) (by omega), Int.tmod_eq_emod_of_nonneg (by omega)]
    have ha0 : s - ((n + 1 : Nat) : Int) = 0 → (a + (s - ((n + 1 : Nat) : Int))) % s = a := fun h => by rw [h, Int.add_zero, Int.emod_eq_of_lt ha ha1]
    rw [takeGo]
    dsimp only
    generalize (a + (s - ((n + 1 : Nat) : Int))) % s = p at am p0 p1 ha0
    have f1 : wrap64 (16 * p) = 16 * p := wrap_id (by clear am; omega) (by clear am; omega)
    have f2 : wrap64 (r + 16 * p) = r + 16 * p := wrap_id (by clear am f1; omega) (by clear am f1; omega)
    have e : wrap64 (s - ((n + 1 : Nat) : Int) + 1) = s - (n : Int) := by clear am f1 f2; rw [wrap_id (by omega) (by omega)]; omega
    show spec_TakePacked_l6_step (spec_TakePacked_l6 k) m s r a w 0 0 0 0 0 (s - ((n + 1 : Nat) : Int)) bs = _
    unfold spec_TakePacked_l6_step
    simp only [am, f1, f2, e]
    have hnone : ((s - ((n + 1 : Nat) : Int) == 0) && (!(flag (word m (r + 16 * p + 8)) 128 == w) || (flag (word m (r + 16 * p + 8)) 32768 == w))) = false := by
      clear am f1 f2 e
      by_cases h : s - ((n + 1 : Nat) : Int) = 0
      · rw [ha0 h]
        have := hq (by omega)
        unfold noneB at this
        rw [this, Bool.and_false]
      · rw [beq_false_of_ne h, Bool.false_and]
    clear am f1 f2 e
    have d0 : 0 ≤ r + 16 * p := by omega
    have d1 : r + 16 * p + 16 ≤ m.size := by omega
    generalize r + 16 * p = d at d0 d1 hnone
    have q0 := spec_word m d (by omega) d0 (by omega)
    have q4 := spec_word m (d + 4) (by omega) (by omega) (by omega)
    have q8 := spec_word m (d + 8) (by omega) (by omega) (by omega)
    have q12 := spec_word m (d + 12) (by omega) (by omega) (by omega)
    have r12 := word_range m (d + 12)
    have sb := spec_buf m bs (word m d) (word m (d + 4)) (flag (word m (d + 8)) 2) (by omega)
    have rm : roomy ((bs.length : Int) + ([(word m d, word m (d + 4), flag (word m (d + 8)) 2)].length : Int)) 24 = true := roomy_ok (by simp; omega)
    have et : Int.tmod (word m (d + 12)) 65536 = word m (d + 12) % 65536 := Int.tmod_eq_emod_of_nonneg r12.1
    have e4 : wrap64 (d + 4) = d + 4 := wrap_id (by clear et; omega) (by clear et; omega)
    have e8 : wrap64 (d + 8) = d + 8 := wrap_id (by clear et e4; omega) (by clear et e4; omega)
    have e12 : wrap64 (d + 12) = d + 12 := wrap_id (by clear et e4 e8; omega) (by clear et e4 e8; omega)
    rw [e8, q8, Option.bind_some]
    simp only [flag_def, flag_not]
    rw [hnone, q0, Option.bind_some, e4, q4, Option.bind_some, sb, Option.bind_some, rm, e12, q12, Option.bind_some, et]
    clear e4 e8 e12 et
    rw [show (s == 0) = false from beq_false_of_ne (by omega), decn (show ¬ s - (n : Int) > s by omega)]
    have ih' := ih k (bs ++ [(word m d, word m (d + 4), flag (word m (d + 8)) 2)]) (by omega) (by simp; omega) (by omega) (fun h => by omega)
    rw [ih', Bool.not_false, cond_true, cond_false, cond_false, cond_true]
    generalize takeGo m s r a n (bs ++ [(word m d, word m (d + 4), flag (word m (d + 8)) 2)]) = T
    generalize bs ++ [(word m d, word m (d + 4), flag (word m (d + 8)) 2)] = bs'
    generalize bufCode m bs (word m d) (word m (d + 4)) (flag (word m (d + 8)) 2) = code
    generalize flag (word m (d + 8)) 4 = F4
    generalize flag (word m (d + 8)) 1 = F1
    generalize word m (d + 12) % 65536 = id
    clear ih' ih hnone sb rm r12 q0 q4 q8 q12
    cases F4
    · by_cases hc : code = 0
      · subst hc
        cases F1 <;> simp (config := {decide := true})
      · rw [bne_iff_ne.2 hc]
        simp [hc]
    · simp
theorem impl_go (m : ByteArray) (s r a : Int) (w : Bool) (hm : m.size ≤ 65536) (hs : 1 ≤ s) (hs1 : s ≤ 16) (hr : 0 ≤ r) (hr1 : r + 16 * s ≤ m.size) (ha : 0 ≤ a) (ha1 : a < s) :
    ∀ (n k : Nat) (bs : List Buf), (n : Int) ≤ s → bs.length + n ≤ 16 → n < k →
      impl_ytakePacked_l6 k m ((a + (s - (n : Int))) % s) s r a w 0 0 0 (word m (r + 16 * ((a + (s - (n : Int))) % s))) (word m (r + 16 * ((a + (s - (n : Int))) % s) + 4)) (word m (r + 16 * ((a + (s - (n : Int))) % s) + 8)) (word m (r + 16 * ((a + (s - (n : Int))) % s) + 12)) 0 0 (s - (n : Int)) bs = some (takeGo m s r a n bs) := by
  intro n
  induction n with
  | zero =>
    intro k bs hn hb hk
    obtain ⟨k, rfl⟩ : ∃ q, k = q + 1 := ⟨k - 1, by omega⟩
    have e : wrap64 (s - ((0 : Nat) : Int) + 1) = s + 1 := by rw [wrap_id (by omega) (by omega)]; omega
    generalize (a + (s - ((0 : Nat) : Int))) % s = p
    show impl_ytakePacked_l6_step (impl_ytakePacked_l6 k) m p s r a w 0 0 0 _ _ _ _ 0 0 (s - ((0 : Nat) : Int)) bs = _
    unfold impl_ytakePacked_l6_step
    simp only [e]
    clear e
    rw [decp (show s + 1 > s by omega), takeGo]
    simp only [cond_true]
  | succ n ih =>
    intro k bs hn hb hk
    obtain ⟨k, rfl⟩ : ∃ q, k = q + 1 := ⟨k - 1, by omega⟩
    obtain ⟨p0, p1⟩ := at_range a (s - ((n + 1 : Nat) : Int)) s (by omega)
    obtain ⟨p2, p3⟩ := at_range a (s - (n : Int)) s (by omega)
    have hnext : ((a + (s - ((n + 1 : Nat) : Int))) % s + 1) % s = (a + (s - (n : Int))) % s := by
      have z : a + (s - (n : Int)) = (a + (s - ((n + 1 : Nat) : Int))) + 1 := by omega
      rw [z, Int.emod_add_emod]
    have ih' := ih k (bs ++ [(word m (r + 16 * ((a + (s - ((n + 1 : Nat) : Int))) % s)), word m (r + 16 * ((a + (s - ((n + 1 : Nat) : Int))) % s) + 4), flag (word m (r + 16 * ((a + (s - ((n + 1 : Nat) : Int))) % s) + 8)) 2)]) (by omega) (by simp; omega) (by omega)
    rw [takeGo]
    dsimp only
    rw [← hnext] at ih' p2 p3
    generalize (a + (s - ((n + 1 : Nat) : Int))) % s = p at p0 p1 p2 p3 ih'
    have e : wrap64 (s - ((n + 1 : Nat) : Int) + 1) = s - (n : Int) := by rw [wrap_id (by omega) (by omega)]; omega
    have e1 : Int.tmod (wrap64 (p + 1)) s = (p + 1) % s := by rw [wrap_id (by clear e; omega) (by clear e; omega), Int.tmod_eq_emod_of_nonneg (by clear e; omega)]
    generalize (p + 1) % s = q at p2 p3 ih' e1
    have f1 : wrap64 (16 * q) = 16 * q := wrap_id (by clear e e1; omega) (by clear e e1; omega)
    have f2 : wrap64 (r + 16 * q) = r + 16 * q := wrap_id (by clear e e1 f1; omega) (by clear e e1 f1; omega)
    have rd := impl_readDesc m (r + 16 * q) (by clear e e1 f1 f2; omega) (by clear e e1 f1 f2; omega) (by clear e e1 f1 f2; omega)
    have r12 := word_range m (r + 16 * p + 12)
    have ia := impl_add m bs (word m (r + 16 * p)) (word m (r + 16 * p + 4)) (word m (r + 16 * p + 8)) (word m (r + 16 * p + 12)) (by clear e e1 f1 f2; omega)
    have em : Go.Ab.bits .and .i64 (word m (r + 16 * p + 12)) 65535 = word m (r + 16 * p + 12) % 65536 := and_mask 16 (by decide) _ r12.1 (by clear e e1 f1 f2; omega)
    show impl_ytakePacked_l6_step (impl_ytakePacked_l6 k) m p s r a w 0 0 0 _ _ _ _ 0 0 (s - ((n + 1 : Nat) : Int)) bs = _
    unfold impl_ytakePacked_l6_step
    simp only [e, e1, f1, f2, em]
    rw [impl_has, Option.bind_some, ia, Option.bind_some, impl_has, Option.bind_some, rd, Option.bind_some]
    clear e e1 f1 f2 em
    rw [show (s == 0) = false from beq_false_of_ne (by omega), decn (show ¬ s - (n : Int) > s by omega), Bool.not_false, cond_true, cond_false]
    have hX : ∀ z, (if bufCode m bs (word m (r + 16 * p)) (word m (r + 16 * p + 4)) (flag (word m (r + 16 * p + 8)) 2) = 0 then (bs ++ [(word m (r + 16 * p), word m (r + 16 * p + 4), flag (word m (r + 16 * p + 8)) 2)], (0 : Int), ()) else z).1 = if bufCode m bs (word m (r + 16 * p)) (word m (r + 16 * p + 4)) (flag (word m (r + 16 * p + 8)) 2) = 0 then (bs ++ [(word m (r + 16 * p), word m (r + 16 * p + 4), flag (word m (r + 16 * p + 8)) 2)]) else z.1 := fun z => by split <;> rfl
    generalize hT : takeGo m s r a n (bs ++ [(word m (r + 16 * p), word m (r + 16 * p + 4), flag (word m (r + 16 * p + 8)) 2)]) = T at ih' ⊢
    generalize hG : impl_ytakePacked_l6 k m q s r a w 0 0 0 (word m (r + 16 * q)) (word m (r + 16 * q + 4)) (word m (r + 16 * q + 8)) (word m (r + 16 * q + 12)) 0 0 (s - (n : Int)) = G at ih' ⊢
    clear hT hG hX
    generalize bs ++ [(word m (r + 16 * p), word m (r + 16 * p + 4), flag (word m (r + 16 * p + 8)) 2)] = bs' at ih' ⊢
    generalize bufCode m bs (word m (r + 16 * p)) (word m (r + 16 * p + 4)) (flag (word m (r + 16 * p + 8)) 2) = code at *
    generalize flag (word m (r + 16 * p + 8)) 4 = F4
    generalize flag (word m (r + 16 * p + 8)) 1 = F1
    generalize word m (r + 16 * p + 12) % 65536 = id
    clear ih rd r12 ia
    cases F4
    · by_cases hc : code = 0
      · subst hc
        cases F1
        · simp (config := {decide := true})
        · simp (config := {decide := true}) [ih']
      · simp [hc, bne_iff_ne.2 hc]
    · simp
theorem take_same (m : ByteArray) (s r a : Int) (w : Bool) (h : packedOk m s r a = true) : spec_TakePacked m s r a w = some (takeRes m s r a w) ∧ impl_ytakePacked m s r a w = some (takeRes m s r a w) := by
  obtain ⟨h1, h2, h3, h4, h5, h6, h7, h8⟩ := packed_true h
  have hns : s - (s.toNat : Int) = 0 := by omega
  have sg := fun hq => spec_go m s r a w (by omega) h3 h4 h5 h6 h7 h8 s.toNat K0 [] (by omega) (by simp; omega) (by rw [K0_eq]; omega) hq
  have ig := impl_go m s r a w (by omega) h3 h4 h5 h6 h7 h8 s.toNat K0 [] (by omega) (by simp; omega) (by rw [K0_eq]; omega)
  rw [hns, Int.add_zero, Int.emod_eq_of_lt h7 h8] at ig
  rw [hns] at sg
  unfold takeRes
  constructor
  · unfold spec_TakePacked
    rw [decn (show ¬ (m.size : Int) > 65536 by omega), spec_packed, h]
    simp only [cond_false, if_true]
    rw [Option.bind_some, bne_self_eq_false, cond_false]
    cases hn : noneB m r a w with
    | false =>
      rw [sg (fun _ => hn), Option.bind_some, if_neg Bool.false_ne_true]
    | true =>
      obtain ⟨k, hk⟩ := K0_ge (n := 1) (by decide)
      rw [hk]
      have am : Int.tmod (wrap64 (a + 0)) s = a := by rw [wrap_id (by omega) (by omega), Int.tmod_eq_emod_of_nonneg (by omega), Int.add_zero, Int.emod_eq_of_lt h7 h8]
      have f1 : wrap64 (16 * a) = 16 * a := wrap_id (by clear am; omega) (by clear am; omega)
      have f2 : wrap64 (r + 16 * a) = r + 16 * a := wrap_id (by clear am f1; omega) (by clear am f1; omega)
      have f3 : wrap64 (r + 16 * a + 8) = r + 16 * a + 8 := wrap_id (by clear am f1 f2; omega) (by clear am f1 f2; omega)
      have q8 := spec_word m (r + 16 * a + 8) (by clear am f1 f2 f3; omega) (by clear am f1 f2 f3; omega) (by clear am f1 f2 f3; omega)
      have : spec_TakePacked_l6 (k + 1) m s r a w 0 0 0 0 0 0 [] = some (5, 0, 0, [], ()) := by
        show spec_TakePacked_l6_step (spec_TakePacked_l6 k) m s r a w 0 0 0 0 0 0 [] = _
        unfold spec_TakePacked_l6_step
        unfold noneB at hn
        simp only [am, f1, f2]
        rw [f3, q8, Option.bind_some]
        simp only [flag_def]
        rw [hn]
        clear am f1 f2 f3
        rw [show (s == 0) = false from beq_false_of_ne (by omega), Bool.not_false, cond_true, Bool.and_true, show ((0 : Int) == 0) = true from rfl, cond_true]
      rw [this, Option.bind_some, if_pos rfl]
  · unfold impl_ytakePacked
    have f1 : wrap64 (16 * a) = 16 * a := wrap_id (by omega) (by omega)
    have f2 : wrap64 (r + 16 * a) = r + 16 * a := wrap_id (by clear f1; omega) (by clear f1; omega)
    have rd := impl_readDesc m (r + 16 * a) (by clear f1 f2; omega) (by clear f1 f2; omega) (by clear f1 f2; omega)
    simp only [f1, f2]
    rw [rd, Option.bind_some]
    simp only [impl_has]
    rw [ig]
    clear f1 f2 rd ig sg
    generalize takeGo m s r a s.toNat [] = T
    unfold noneB
    generalize flag (word m (r + 16 * a + 8)) 128 = F1
    generalize flag (word m (r + 16 * a + 8)) 32768 = F2
    cases F1 <;> cases F2 <;> cases w <;> rfl
theorem s2b_len (m : ByteArray) : (s2b m).length = m.size := by unfold s2b; simp
theorem s2b_app (a b : ByteArray) : s2b (a ++ b) = s2b a ++ s2b b := by unfold s2b; simp
theorem s2b_ext (m : ByteArray) (i j : Nat) : s2b (m.extract i j) = ((s2b m).drop i).take (j - i) := by
  unfold s2b
  simp [List.map_take, List.map_drop]
theorem b2s_s2b (m : ByteArray) : b2s (s2b m) = m := by
  unfold b2s s2b
  have : (fun n : Int => UInt8.ofNat n.toNat) ∘ (fun b : UInt8 => (b.toNat : Int)) = id := by funext b; simp
  rw [List.map_map, this, List.map_id]
theorem s2b_inj {a b : ByteArray} (h : s2b a = s2b b) : a = b := by rw [← b2s_s2b a, h, b2s_s2b]
theorem bt_s2b (m : ByteArray) (i : Int) : bt m i = (s2b m).getD i.toNat 0 := by
  unfold bt s2b
  rw [Array.getD_eq_getD_getElem?, List.getD_eq_getElem?_getD, List.getElem?_map, Array.getElem?_toList]
  cases m.data[i.toNat]? <;> rfl
/-- A number's four bytes. -/
noncomputable def wb (n : Int) : ByteArray := b2s [IntKind.u8.wrap (n % 4294967296), IntKind.u8.wrap (shr .i64 (n % 4294967296) 8), IntKind.u8.wrap (shr .i64 (n % 4294967296) 16), IntKind.u8.wrap (shr .i64 (n % 4294967296) 24)]
theorem wb_size (n : Int) : (wb n).size = 4 := rfl
theorem u32_mod (n : Int) : IntKind.u32.wrap n = n % 4294967296 := by
  unfold IntKind.wrap
  simp [IntKind.signed, IntKind.bits]
theorem impl_putWord (n : Int) : impl_PutWord n = some (wb n, ()) := by
  unfold impl_PutWord wb
  rw [u32_mod]
  rfl
theorem spec_putWord (n : Int) : spec_PutWord n = some (wb n, ()) := by
  unfold spec_PutWord spec_Word wb
  rw [spec_mod _ _ (by decide) (by decide)]
  rfl
theorem joins_ok {x y : ByteArray} (h : x.size + y.size ≤ 9223372036854775807) : joins x y = true := by
  unfold joins; rw [S0_eq]; simp; omega
/-- A number put into memory. -/
noncomputable def put (m : ByteArray) (a n : Int) : ByteArray := m.extract 0 a.toNat ++ wb n ++ m.extract (a + 4).toNat m.size
theorem put_size (m : ByteArray) (a n : Int) (h0 : 0 ≤ a) (h1 : a + 4 ≤ m.size) : (put m a n).size = m.size := by
  unfold put
  simp only [ByteArray.size_append, ByteArray.size_extract, wb_size]
  omega
theorem impl_splice4 (m : ByteArray) (a n : Int) (hm : m.size ≤ 65536) (h0 : 0 ≤ a) (h1 : a + 4 ≤ m.size) : impl_ysplice m a (wb n) = some (put m a n, ()) := by
  unfold impl_ysplice put
  have e : wrap64 (a + ((wb n).size : Int)) = a + 4 := by rw [wb_size]; exact wrap_id (by omega) (by omega)
  simp only [e]
  rw [decp h0, decp (show a ≤ (m.size : Int) by omega), decp (show 0 ≤ a + 4 by omega), decp (show a + 4 ≤ (m.size : Int) by omega), joins_ok (by simp only [ByteArray.size_extract, wb_size]; omega), joins_ok (by simp only [ByteArray.size_append, ByteArray.size_extract, wb_size]; omega)]
  rfl
theorem spec_setWord (m : ByteArray) (a n : Int) (hm : m.size ≤ 65536) (h0 : 0 ≤ a) (h1 : a + 4 ≤ m.size) : spec_SetWord m a n = some (put m a n, ()) := by
  unfold spec_SetWord spec_GetWord put
  have e : wrap64 ((m.size : Int) - 4) = m.size - 4 := wrap_id (by omega) (by omega)
  have e4 : wrap64 (a + 4) = a + 4 := wrap_id (by clear e; omega) (by clear e; omega)
  simp only [e, e4]
  clear e e4
  rw [decn (show ¬ (m.size : Int) > 65536 by omega), decn (show ¬ a < 0 by omega), decn (show ¬ a > (m.size : Int) - 4 by omega), spec_word m a (by omega) h0 h1]
  simp only [Bool.or_false, cond_false, Option.bind_some, Bool.not_true, spec_putWord]
  rw [decp h0, decp (show a ≤ (m.size : Int) by omega), decp (show 0 ≤ a + 4 by omega), decp (show a + 4 ≤ (m.size : Int) by omega), joins_ok (by simp only [ByteArray.size_extract, wb_size]; omega), joins_ok (by simp only [ByteArray.size_append, ByteArray.size_extract, wb_size]; omega)]
  rfl
theorem impl_yset1 (m : ByteArray) (a n : Int) (hm : m.size ≤ 65536) (h0 : 0 ≤ a) (h1 : a + 4 ≤ m.size) : impl_yset m a [n] = some (put m a n, ()) := by
  obtain ⟨k, hk⟩ := K0_ge (n := 2) (by decide)
  have w0 : wrap64 (a + wrap64 ((4 : Int) * 0)) = a := by rw [wrap_id (x := (4 : Int) * 0) (by decide) (by decide), wrap_id (by omega) (by omega)]; omega
  have v0 : wrap64 (0 + 1) = 1 := wrap_id (by decide) (by decide)
  unfold impl_yset
  rw [hk]
  simp only [impl_yset_l2, impl_yset_l2_step, w0, v0, impl_putWord, Option.bind_some, impl_splice4 m a _ hm h0 h1, show rd (.int .i64) [n] 0 = n from rfl]
  simp (config := {decide := true})
theorem impl_yset2 (m : ByteArray) (a x y : Int) (hm : m.size ≤ 65536) (h0 : 0 ≤ a) (h1 : a + 8 ≤ m.size) : impl_yset m a [x, y] = some (put (put m a x) (a + 4) y, ()) := by
  obtain ⟨k, hk⟩ := K0_ge (n := 3) (by decide)
  have w0 : wrap64 (a + wrap64 ((4 : Int) * 0)) = a := by rw [wrap_id (x := (4 : Int) * 0) (by decide) (by decide), wrap_id (by omega) (by omega)]; omega
  have w1 : wrap64 (a + wrap64 ((4 : Int) * 1)) = a + 4 := by clear w0; rw [wrap_id (x := (4 : Int) * 1) (by decide) (by decide), wrap_id (by omega) (by omega)]; omega
  have v0 : wrap64 (0 + 1) = 1 := wrap_id (by decide) (by decide)
  have v1 : wrap64 (1 + 1) = 2 := wrap_id (by decide) (by decide)
  have hp : (put m a x).size = m.size := put_size m a x h0 (by clear w0 w1 v0 v1; omega)
  have s1 := impl_splice4 m a x hm h0 (by clear w0 w1 v0 v1; omega)
  have s2 := impl_splice4 (put m a x) (a + 4) y (by clear w0 w1 v0 v1; omega) (by clear w0 w1 v0 v1; omega) (by clear w0 w1 v0 v1; omega)
  unfold impl_yset
  rw [hk]
  simp only [impl_yset_l2, impl_yset_l2_step, w0, w1, v0, v1, impl_putWord, Option.bind_some, s1, s2, show rd (.int .i64) [x, y] 0 = x from rfl, show rd (.int .i64) [x, y] 1 = y from rfl]
  simp (config := {decide := true})
theorem s2b_put (m : ByteArray) (a n : Int) (h0 : 0 ≤ a) (h1 : a + 4 ≤ m.size) : s2b (put m a n) = (s2b m).take a.toNat ++ s2b (wb n) ++ (s2b m).drop (a.toNat + 4) := by
  unfold put
  rw [s2b_app, s2b_app, s2b_ext, s2b_ext, List.drop_zero, Nat.sub_zero, show (a + 4).toNat = a.toNat + 4 by omega]
  rw [List.take_of_length_le (l := (s2b m).drop (a.toNat + 4)) (by rw [List.length_drop, s2b_len]; omega)]
theorem wb_len (n : Int) : (s2b (wb n)).length = 4 := by rw [s2b_len]; rfl
theorem getD_three (L X : List Int) (k i : Nat) (hX : X.length = 4) (hk : k + 4 ≤ L.length) : (L.take k ++ X ++ L.drop (k + 4)).getD i 0 = if k ≤ i ∧ i < k + 4 then X.getD (i - k) 0 else L.getD i 0 := by
  have ht : (L.take k).length = k := by rw [List.length_take]; omega
  simp only [List.getD_eq_getElem?_getD]
  by_cases c1 : i < k
  · rw [if_neg (by omega), List.append_assoc, List.getElem?_append_left (by omega), List.getElem?_take_of_lt c1]
  · by_cases c2 : i < k + 4
    · rw [if_pos ⟨by omega, c2⟩, List.append_assoc, List.getElem?_append_right (by omega), List.getElem?_append_left (by omega), ht]
    · rw [if_neg (by omega), List.getElem?_append_right (by rw [List.length_append]; omega), List.getElem?_drop, List.length_append, ht, hX, show k + 4 + (i - (k + 4)) = i by omega]
theorem bt_put (m : ByteArray) (a n b : Int) (h0 : 0 ≤ a) (h1 : a + 4 ≤ m.size) (hb : 0 ≤ b) : bt (put m a n) b = if a ≤ b ∧ b < a + 4 then (s2b (wb n)).getD (b - a).toNat 0 else bt m b := by
  rw [bt_s2b, bt_s2b, s2b_put m a n h0 h1, getD_three _ _ _ _ (wb_len n) (by rw [s2b_len]; omega)]
  by_cases c : a ≤ b ∧ b < a + 4
  · rw [if_pos c, if_pos (by omega), show b.toNat - a.toNat = (b - a).toNat by omega]
  · rw [if_neg c, if_neg (by omega)]
theorem word_other (m : ByteArray) (a n b : Int) (h0 : 0 ≤ a) (h1 : a + 4 ≤ m.size) (hb : 0 ≤ b) (h : b + 4 ≤ a ∨ a + 4 ≤ b) : word (put m a n) b = word m b := by
  unfold word
  rw [bt_put m a n b h0 h1 hb, bt_put m a n (b + 1) h0 h1 (by omega), bt_put m a n (b + 2) h0 h1 (by omega), bt_put m a n (b + 3) h0 h1 (by omega)]
  rw [if_neg (by omega), if_neg (by omega), if_neg (by omega), if_neg (by omega)]
theorem word_put (m : ByteArray) (a n : Int) (h0 : 0 ≤ a) (h1 : a + 4 ≤ m.size) : word (put m a n) a = (s2b (wb n)).getD 0 0 + (s2b (wb n)).getD 1 0 * 256 + (s2b (wb n)).getD 2 0 * 65536 + (s2b (wb n)).getD 3 0 * 16777216 := by
  unfold word
  rw [bt_put m a n a h0 h1 h0, bt_put m a n (a + 1) h0 h1 (by omega), bt_put m a n (a + 2) h0 h1 (by omega), bt_put m a n (a + 3) h0 h1 (by omega)]
  rw [if_pos (by omega), if_pos (by omega), if_pos (by omega), if_pos (by omega)]
  rw [show (a - a).toNat = 0 by omega, show (a + 1 - a).toNat = 1 by omega, show (a + 2 - a).toNat = 2 by omega, show (a + 3 - a).toNat = 3 by omega]
/-- Is a descriptor neither new nor old, whichever way the ring goes? -/
noncomputable def deadW (f : Int) : Bool := flag f 128 == flag f 32768
theorem dead_none (m : ByteArray) (r a : Int) (w : Bool) (h : noneB m r a w = false) : deadW (word m (r + 16 * a + 8)) = false := by
  unfold noneB at h
  unfold deadW
  generalize flag (word m (r + 16 * a + 8)) 128 = x at h
  generalize flag (word m (r + 16 * a + 8)) 32768 = y at h
  cases x <;> cases y <;> cases w <;> simp_all
theorem dead_put (m : ByteArray) (a : Int) (w : Bool) (h0 : 0 ≤ a) (h1 : a + 4 ≤ m.size) : deadW (word (put m a (bif w then 32896 else 0)) a) = true := by
  rw [word_put m a _ h0 h1]
  unfold deadW flag
  rw [bits_eq, bits_eq]
  cases w <;> decide +kernel
theorem impl_yset4 (m : ByteArray) (a x y u v : Int) (hm : m.size ≤ 65536) (h0 : 0 ≤ a) (h1 : a + 16 ≤ m.size) : impl_yset m a [x, y, u, v] = some (put (put (put (put m a x) (a + 4) y) (a + 8) u) (a + 12) v, ()) := by
  obtain ⟨k, hk⟩ := K0_ge (n := 5) (by decide)
  have w0 : wrap64 (a + wrap64 ((4 : Int) * 0)) = a := by rw [wrap_id (x := (4 : Int) * 0) (by decide) (by decide), wrap_id (by omega) (by omega)]; omega
  have w1 : wrap64 (a + wrap64 ((4 : Int) * 1)) = a + 4 := by clear w0; rw [wrap_id (x := (4 : Int) * 1) (by decide) (by decide), wrap_id (by omega) (by omega)]; omega
  have w2 : wrap64 (a + wrap64 ((4 : Int) * 2)) = a + 8 := by clear w0 w1; rw [wrap_id (x := (4 : Int) * 2) (by decide) (by decide), wrap_id (by omega) (by omega)]; omega
  have w3 : wrap64 (a + wrap64 ((4 : Int) * 3)) = a + 12 := by clear w0 w1 w2; rw [wrap_id (x := (4 : Int) * 3) (by decide) (by decide), wrap_id (by omega) (by omega)]; omega
  have v0 : wrap64 (0 + 1) = 1 := wrap_id (by decide) (by decide)
  have v1 : wrap64 (1 + 1) = 2 := wrap_id (by decide) (by decide)
  have v2 : wrap64 (2 + 1) = 3 := wrap_id (by decide) (by decide)
  have v3 : wrap64 (3 + 1) = 4 := wrap_id (by decide) (by decide)
  have p1 : (put m a x).size = m.size := put_size m a x h0 (by clear w0 w1 w2 w3 v0 v1 v2 v3; omega)
  have s1 := impl_splice4 m a x hm h0 (by clear w0 w1 w2 w3 v0 v1 v2 v3; omega)
  generalize put m a x = m1 at p1 s1
  have p2 : (put m1 (a + 4) y).size = m1.size := put_size m1 (a + 4) y (by clear w0 w1 w2 w3 v0 v1 v2 v3; omega) (by clear w0 w1 w2 w3 v0 v1 v2 v3; omega)
  have s2 := impl_splice4 m1 (a + 4) y (by clear w0 w1 w2 w3 v0 v1 v2 v3; omega) (by clear w0 w1 w2 w3 v0 v1 v2 v3; omega) (by clear w0 w1 w2 w3 v0 v1 v2 v3; omega)
  generalize put m1 (a + 4) y = m2 at p2 s2
  have p3 : (put m2 (a + 8) u).size = m2.size := put_size m2 (a + 8) u (by clear w0 w1 w2 w3 v0 v1 v2 v3; omega) (by clear w0 w1 w2 w3 v0 v1 v2 v3; omega)
  have s3 := impl_splice4 m2 (a + 8) u (by clear w0 w1 w2 w3 v0 v1 v2 v3; omega) (by clear w0 w1 w2 w3 v0 v1 v2 v3; omega) (by clear w0 w1 w2 w3 v0 v1 v2 v3; omega)
  generalize put m2 (a + 8) u = m3 at p3 s3
  have s4 := impl_splice4 m3 (a + 12) v (by clear w0 w1 w2 w3 v0 v1 v2 v3; omega) (by clear w0 w1 w2 w3 v0 v1 v2 v3; omega) (by clear w0 w1 w2 w3 v0 v1 v2 v3; omega)
  unfold impl_yset
  rw [hk]
  simp only [impl_yset_l2, impl_yset_l2_step, w0, w1, w2, w3, v0, v1, v2, v3, impl_putWord, Option.bind_some, s1, s2, s3, s4, show rd (.int .i64) [x, y, u, v] 0 = x from rfl, show rd (.int .i64) [x, y, u, v] 1 = y from rfl, show rd (.int .i64) [x, y, u, v] 2 = u from rfl, show rd (.int .i64) [x, y, u, v] 3 = v from rfl]
  simp (config := {decide := true})
/-- Memory behind a giving back. -/
noncomputable def gaveM (m : ByteArray) (d : Int) (w : Bool) (id : Int) : ByteArray := put (put (put (put m d 0) (d + 4) 0) (d + 8) (bif w then 32896 else 0)) (d + 12) id
theorem gave_size (m : ByteArray) (d : Int) (w : Bool) (id : Int) (h0 : 0 ≤ d) (h1 : d + 16 ≤ m.size) : (gaveM m d w id).size = m.size := by
  unfold gaveM
  have p1 := put_size m d 0 h0 (by omega)
  have p2 := put_size (put m d 0) (d + 4) 0 (by omega) (by omega)
  have p3 := put_size (put (put m d 0) (d + 4) 0) (d + 8) (bif w then 32896 else 0) (by omega) (by omega)
  rw [put_size _ _ _ (by omega) (by omega), p3, p2, p1]
theorem gave_other (m : ByteArray) (d : Int) (w : Bool) (id b : Int) (h0 : 0 ≤ d) (h1 : d + 16 ≤ m.size) (hb : 0 ≤ b) (h : b + 4 ≤ d ∨ d + 16 ≤ b) : word (gaveM m d w id) b = word m b := by
  unfold gaveM
  have p1 := put_size m d 0 h0 (by omega)
  have p2 := put_size (put m d 0) (d + 4) 0 (by omega) (by omega)
  have p3 := put_size (put (put m d 0) (d + 4) 0) (d + 8) (bif w then 32896 else 0) (by omega) (by omega)
  rw [word_other _ _ _ _ (by omega) (by omega) hb (by omega), word_other _ _ _ _ (by omega) (by omega) hb (by omega), word_other _ _ _ _ (by omega) (by omega) hb (by omega), word_other _ _ _ _ (by omega) (by omega) hb (by omega)]
theorem gave_dead (m : ByteArray) (d : Int) (w : Bool) (id : Int) (h0 : 0 ≤ d) (h1 : d + 16 ≤ m.size) : deadW (word (gaveM m d w id) (d + 8)) = true := by
  unfold gaveM
  have p1 := put_size m d 0 h0 (by omega)
  have p2 := put_size (put m d 0) (d + 4) 0 (by omega) (by omega)
  have p3 := put_size (put (put m d 0) (d + 4) 0) (d + 8) (bif w then 32896 else 0) (by omega) (by omega)
  rw [word_other _ _ _ _ (by omega) (by omega) (by omega) (by omega)]
  exact dead_put _ _ _ (by omega) (by omega)
noncomputable def nextA (s a c : Int) : Int := bif decide (a + c ≥ s) then a + c - s else a + c
noncomputable def nextW (s a c : Int) (w : Bool) : Bool := bif decide (a + c ≥ s) then !w else w
theorem nextA_range {s a c : Int} (h1 : 0 ≤ a) (h2 : a < s) (h3 : 1 ≤ c) (h4 : c ≤ s) : 0 ≤ nextA s a c ∧ nextA s a c < s := by
  unfold nextA
  by_cases h : a + c ≥ s
  · rw [decp h]; simp only [cond_true]; omega
  · rw [decn h]; simp only [cond_false]; omega
theorem give_same (m : ByteArray) (s r a : Int) (w : Bool) (id c : Int) (h : packedOk m s r a = true) (hi : 0 ≤ id ∧ id ≤ 65535) (hc : 1 ≤ c ∧ c ≤ s) :
    spec_GivePacked m s r a w id 0 c = some (0, gaveM m (r + 16 * a) w id, s, r, nextA s a c, nextW s a c w, ()) ∧ impl_ygivePacked m s r a w id 0 c = some (gaveM m (r + 16 * a) w id, s, r, nextA s a c, nextW s a c w, ()) := by
  obtain ⟨h1, h2, h3, h4, h5, h6, h7, h8⟩ := packed_true h
  have f1 : wrap64 (16 * a) = 16 * a := wrap_id (by omega) (by omega)
  have f2 : wrap64 (r + 16 * a) = r + 16 * a := wrap_id (by clear f1; omega) (by clear f1; omega)
  have e1 : wrap64 (a + c) = a + c := wrap_id (by clear f1 f2; omega) (by clear f1 f2; omega)
  have e2 : wrap64 (a + c - s) = a + c - s := wrap_id (by clear f1 f2 e1; omega) (by clear f1 f2 e1; omega)
  constructor
  · unfold spec_GivePacked spec_l01IsWord
    rw [decn (show ¬ (m.size : Int) > 65536 by clear f1 f2 e1 e2; omega), spec_packed, h]
    simp only [f1, f2, e1, e2, Bool.cond_self, cond_false, if_true, Option.bind_some, Option.getD_some, Option.isSome_some, Bool.or_true, cond_true]
    clear f1 f2 e1 e2
    have d0 : 0 ≤ r + 16 * a := by omega
    have d1 : r + 16 * a + 16 ≤ m.size := by omega
    rw [decn (show ¬ id < 0 by omega), decn (show ¬ id > 65535 by omega), decn (show ¬ c < 1 by omega), decn (show ¬ c > s by omega)]
    generalize r + 16 * a = d at d0 d1
    have e4 : wrap64 (d + 4) = d + 4 := wrap_id (by omega) (by omega)
    have e8 : wrap64 (d + 8) = d + 8 := wrap_id (by clear e4; omega) (by clear e4; omega)
    have e12 : wrap64 (d + 12) = d + 12 := wrap_id (by clear e4 e8; omega) (by clear e4 e8; omega)
    simp only [e4, e8, e12]
    clear e4 e8 e12
    have p1 := put_size m d 0 d0 (by omega)
    have p2 := put_size (put m d 0) (d + 4) 0 (by omega) (by omega)
    have p3 := put_size (put (put m d 0) (d + 4) 0) (d + 8) (bif w then 32896 else 0) (by omega) (by omega)
    rw [spec_setWord m d 0 (by omega) (by omega) (by omega)]
    simp only [Option.bind_some]
    rw [spec_setWord _ (d + 4) 0 (by omega) (by omega) (by omega)]
    simp only [Option.bind_some]
    rw [spec_setWord _ (d + 8) _ (by omega) (by omega) (by omega)]
    simp only [Option.bind_some]
    rw [spec_setWord _ (d + 12) _ (by omega) (by omega) (by omega)]
    simp (config := {decide := true}) only [Option.bind_some, bne_self_eq_false, Bool.or_false, Bool.not_false, Bool.false_or, Bool.or_self, Bool.not_true, cond_false, cond_true, gaveM, nextA, nextW, decide_true, Bool.and_true, Bool.and_self]
  · unfold impl_ygivePacked
    simp only [f1, f2, e1, e2, Bool.cond_self]
    clear f1 f2 e1 e2
    rw [impl_yset4 m (r + 16 * a) 0 0 _ id (by omega) (by omega) (by omega)]
    rfl
/-- A walk over a row that may end early. -/
noncomputable def foldE {α S E : Type} (st : S → α → E ⊕ S) : List α → S → E ⊕ S
  | [], s => .inr s
  | x :: l, s => match st s x with
    | .inl e => .inl e
    | .inr s => foldE st l s
theorem foldE_loop {α S E R : Type} (F : Nat → Nat → S → Option R) (l : List α) (st : S → α → E ⊕ S) (ex : E → R) (fin : S → R) (hl : l.length ≤ 9223372036854775807)
    (hF : ∀ (k i : Nat) (s : S) (hi : i < l.length), F (k + 1) i s = match st s l[i] with
      | .inl e => some (ex e)
      | .inr s => F k (i + 1) s)
    (hE : ∀ (k : Nat) (s : S), F (k + 1) l.length s = some (fin s)) (s : S) : F K0 0 s = some (match foldE st l s with
      | .inl e => ex e
      | .inr s => fin s) := by
  have key : ∀ (d k i : Nat) (s : S), i + d = l.length → d < k → F k i s = some (match foldE st (l.drop i) s with
      | .inl e => ex e
      | .inr s => fin s) := by
    intro d
    induction d with
    | zero =>
      intro k i s hi hk
      obtain ⟨k, rfl⟩ : ∃ q, k = q + 1 := ⟨k - 1, by omega⟩
      have : i = l.length := by omega
      subst this
      rw [hE, List.drop_length]
      rfl
    | succ d ih =>
      intro k i s hi hk
      obtain ⟨k, rfl⟩ : ∃ q, k = q + 1 := ⟨k - 1, by omega⟩
      have hlt : i < l.length := by omega
      rw [hF k i s hlt, List.drop_eq_getElem_cons hlt]
      simp only [foldE]
      cases st s l[i] with
      | inl r => rfl
      | inr s' => exact ih k (i + 1) s' (by omega) (by omega)
  have := key l.length K0 0 s (by omega) (by rw [K0_eq]; omega)
  simpa using this
theorem foldE_filter {α S E : Type} (st : S → α → E ⊕ S) (p : α → Bool) : ∀ (l : List α) (s : S), foldE st (l.filter p) s = foldE (fun s x => bif p x then st s x else .inr s) l s
  | [], s => rfl
  | x :: l, s => by
    cases h : p x with
    | false => rw [List.filter_cons_of_neg (by simp [h])]; simp only [foldE, h, cond_false]; exact foldE_filter st p l s
    | true =>
      rw [List.filter_cons_of_pos h]
      simp only [foldE, h, cond_true]
      cases st s x with
      | inl r => rfl
      | inr s' => exact foldE_filter st p l s'
theorem filter_loop {α R : Type} (F : Nat → Nat → List α → Option R) (l : List α) (p : α → Bool) (fin : List α → R) (hl : l.length ≤ 9223372036854775807)
    (hF : ∀ (k i : Nat) (s : List α) (hi : i < l.length), s.length ≤ i → F (k + 1) i s = F k (i + 1) (bif p l[i] then s ++ [l[i]] else s))
    (hE : ∀ (k : Nat) (s : List α), F (k + 1) l.length s = some (fin s)) : F K0 0 [] = some (fin (l.filter p)) := by
  have key : ∀ (d k i : Nat) (s : List α), i + d = l.length → d < k → s.length ≤ i → F k i s = some (fin (s ++ (l.drop i).filter p)) := by
    intro d
    induction d with
    | zero =>
      intro k i s hi hk hs
      obtain ⟨k, rfl⟩ : ∃ q, k = q + 1 := ⟨k - 1, by omega⟩
      have : i = l.length := by omega
      subst this
      rw [hE, List.drop_length]
      simp
    | succ d ih =>
      intro k i s hi hk hs
      obtain ⟨k, rfl⟩ : ∃ q, k = q + 1 := ⟨k - 1, by omega⟩
      have hlt : i < l.length := by omega
      rw [hF k i s hlt hs, List.drop_eq_getElem_cons hlt]
      cases h : p l[i] with
      | true =>
        rw [cond_true, ih k (i + 1) _ (by omega) (by omega) (by simp; omega), List.filter_cons_of_pos h]
        simp
      | false =>
        rw [cond_false, ih k (i + 1) _ (by omega) (by omega) (by omega), List.filter_cons_of_neg (by simp [h])]
  have := key l.length K0 0 [] (by omega) (by rw [K0_eq]; omega) (by simp)
  simpa using this
/-- The first index from i on at which p holds. -/
noncomputable def findN (p : Nat → Bool) : Nat → Nat → Option Nat
  | 0, _ => none
  | d + 1, i => bif p i then some i else findN p d (i + 1)
theorem find_loop {R : Type} (F : Nat → Nat → Option R) (n : Nat) (p : Nat → Bool) (hit : Nat → R) (miss : R) (hn : n ≤ 9223372036854775807)
    (hF : ∀ (k i : Nat), i < n → F (k + 1) i = bif p i then some (hit i) else F k (i + 1)) (hE : ∀ (k : Nat), F (k + 1) n = some miss) :
    F K0 0 = some (match findN p n 0 with
      | some i => hit i
      | none => miss) := by
  have key : ∀ (d k i : Nat), i + d = n → d < k → F k i = some (match findN p d i with
      | some i => hit i
      | none => miss) := by
    intro d
    induction d with
    | zero =>
      intro k i hi hk
      obtain ⟨k, rfl⟩ : ∃ q, k = q + 1 := ⟨k - 1, by omega⟩
      have : i = n := by omega
      subst this
      rw [hE]
      rfl
    | succ d ih =>
      intro k i hi hk
      obtain ⟨k, rfl⟩ : ∃ q, k = q + 1 := ⟨k - 1, by omega⟩
      rw [hF k i (by omega)]
      simp only [findN]
      cases p i with
      | true => rfl
      | false => exact ih k (i + 1) (by omega) (by omega)
  exact key n K0 0 (by omega) (by rw [K0_eq]; omega)
theorem findN_some {p : Nat → Bool} : ∀ {d i j : Nat}, findN p d i = some j → i ≤ j ∧ j < i + d ∧ p j = true
  | 0, _, _, h => by simp [findN] at h
  | d + 1, i, j, h => by
    simp only [findN] at h
    cases hp : p i with
    | true =>
      rw [hp, cond_true, Option.some.injEq] at h
      subst h
      exact ⟨Nat.le_refl _, by omega, hp⟩
    | false =>
      rw [hp, cond_false] at h
      obtain ⟨h1, h2, h3⟩ := findN_some h
      exact ⟨by omega, by omega, h3⟩
theorem findN_none {p : Nat → Bool} : ∀ {d i : Nat}, findN p d i = none → ∀ j, i ≤ j → j < i + d → p j = false
  | 0, i, _, j, h1, h2 => by omega
  | d + 1, i, h, j, h1, h2 => by
    simp only [findN] at h
    cases hp : p i with
    | true => rw [hp, cond_true] at h; cases h
    | false =>
      rw [hp, cond_false] at h
      by_cases e : j = i
      · rw [e]; exact hp
      · exact findN_none h j (by omega) (by omega)
theorem findN_congr {p q : Nat → Bool} : ∀ {d i : Nat}, (∀ j, i ≤ j → j < i + d → p j = q j) → findN p d i = findN q d i
  | 0, _, _ => rfl
  | d + 1, i, h => by
    simp only [findN]
    rw [h i (Nat.le_refl _) (by omega), findN_congr fun j h1 h2 => h j (by omega) (by omega)]
theorem fold_loop {α S R : Type} (F : Nat → Nat → S → Option R) (l : List α) (f : S → α → S) (fin : S → R) (hl : l.length ≤ 9223372036854775807)
    (hF : ∀ (k i : Nat) (s : S) (hi : i < l.length), F (k + 1) i s = F k (i + 1) (f s l[i])) (hE : ∀ (k : Nat) (s : S), F (k + 1) l.length s = some (fin s)) (s : S) : F K0 0 s = some (fin (l.foldl f s)) := by
  have key : ∀ (d k i : Nat) (s : S), i + d = l.length → d < k → F k i s = some (fin ((l.drop i).foldl f s)) := by
    intro d
    induction d with
    | zero =>
      intro k i s hi hk
      obtain ⟨k, rfl⟩ : ∃ q, k = q + 1 := ⟨k - 1, by omega⟩
      have : i = l.length := by omega
      subst this
      rw [hE, List.drop_length]
      rfl
    | succ d ih =>
      intro k i s hi hk
      obtain ⟨k, rfl⟩ : ∃ q, k = q + 1 := ⟨k - 1, by omega⟩
      have hlt : i < l.length := by omega
      rw [hF k i s hlt, List.drop_eq_getElem_cons hlt, List.foldl_cons]
      exact ih k (i + 1) _ (by omega) (by omega)
  have := key l.length K0 0 s (by omega) (by rw [K0_eq]; omega)
  simpa using this
theorem findN_or (p q : Nat → Bool) : ∀ (d i : Nat), (findN (fun i => p i || q i) d i).isNone = ((findN p d i).isNone && (findN q d i).isNone)
  | 0, _ => rfl
  | d + 1, i => by
    simp only [findN]
    have ih := findN_or p q d (i + 1)
    cases p i with
    | true => rfl
    | false =>
      cases q i with
      | true => simp
      | false => exact ih
/-- What a buffer that is read from adds. -/
noncomputable def gSt (m : ByteArray) (s : ByteArray) (x : Buf) : ByteArray := bif !x.2.2 then s ++ m.extract x.1.toNat (x.1 + x.2.1).toNat else s
noncomputable def totSt (s : Int) (x : Buf) : Int := bif !x.2.2 then wrap64 (s + x.2.1) else s
theorem gSt_size (m s : ByteArray) (x : Buf) (hx : 0 ≤ x.1 ∧ 0 ≤ x.2.1 ∧ x.1 + x.2.1 ≤ (m.size : Int)) : ((gSt m s x).size : Int) = s.size + (bif !x.2.2 then x.2.1 else 0) := by
  unfold gSt
  cases x.2.2 with
  | true => simp
  | false =>
    simp only [Bool.not_false, cond_true, bsize_app, ByteArray.size_extract]
    omega
theorem gAll_le (m : ByteArray) (l : List Buf) (hb : ∀ b ∈ l, 0 ≤ b.1 ∧ 0 ≤ b.2.1 ∧ b.1 + b.2.1 ≤ (m.size : Int)) (s : ByteArray) : s.size ≤ (l.foldl (gSt m) s).size := by
  induction l generalizing s with
  | nil => exact Nat.le_refl _
  | cons x l ih =>
    have h := hb x (by simp)
    have h1 := gSt_size m s x h
    have h2 := ih (fun b hb' => hb b (by simp [hb'])) (gSt m s x)
    rw [List.foldl_cons]
    cases hx : x.2.2 <;> rw [hx] at h1 <;> simp at h1 <;> omega
theorem tot_eq (m : ByteArray) (hm : m.size ≤ 65536) (l : List Buf) (hb : ∀ b ∈ l, 0 ≤ b.1 ∧ 0 ≤ b.2.1 ∧ b.1 + b.2.1 ≤ (m.size : Int)) (s : ByteArray) (hs : s.size + 65536 * l.length ≤ 1000000000) : l.foldl totSt (s.size : Int) = ((l.foldl (gSt m) s).size : Int) := by
  induction l generalizing s with
  | nil => rfl
  | cons x l ih =>
    have h := hb x (by simp)
    have h1 := gSt_size m s x h
    rw [List.foldl_cons, List.foldl_cons]
    simp only [List.length_cons] at hs
    have e : totSt (s.size : Int) x = ((gSt m s x).size : Int) := by
      rw [h1]
      unfold totSt
      cases x.2.2 with
      | true => simp
      | false =>
        simp only [Bool.not_false, cond_true]
        exact wrap_id (by omega) (by omega)
    rw [e]
    refine ih (fun b hb' => hb b (by simp [hb'])) (gSt m s x) ?_
    cases hx : x.2.2 <;> rw [hx] at h1 <;> simp at h1 <;> omega
theorem spec_told (l : List Buf) (hl : l.length ≤ 1048576) : spec_l11Told l = some (l.foldl totSt 0, ()) := by
  unfold spec_l11Told
  have e : spec_l11Told_l3 K0 l 0 0 = _ := fold_loop (fun k i s => spec_l11Told_l3 k l s (i : Int)) l totSt (fun s => (s, ())) (by omega) (by
    intro k i s hi
    show spec_l11Told_l3_step (spec_l11Told_l3 k) l s (i : Int) = _
    unfold spec_l11Told_l3_step
    simp only [decp (show (i : Int) < (l.length : Int) by omega), decp (show (0 : Int) ≤ (i : Int) by omega), rd_at R1 l i hi, Bool.and_true, Bool.or_true, cond_true, Bool.cond_self, wrap_i i l.length hi (by omega)]
    rfl) (by
    intro k s
    show spec_l11Told_l3_step (spec_l11Told_l3 k) l s (l.length : Int) = _
    unfold spec_l11Told_l3_step
    simp only [decn (show ¬ (l.length : Int) < (l.length : Int) by omega), cond_false]) 0
  rw [e]
  rfl
theorem impl_size (l : List Buf) (hl : l.length ≤ 1048576) : impl_ysize l false = some (l.foldl totSt 0, ()) := by
  unfold impl_ysize
  have e : impl_ysize_l3 K0 false 0 l (l.length : Int) 0 = _ := fold_loop (fun k i s => impl_ysize_l3 k false s l (l.length : Int) (i : Int)) l totSt (fun s => (s, ())) (by omega) (by
    intro k i s hi
    show impl_ysize_l3_step (impl_ysize_l3 k) false s l (l.length : Int) (i : Int) = _
    unfold impl_ysize_l3_step totSt
    simp only [decp (show (i : Int) < (l.length : Int) by omega), decp (show (0 : Int) ≤ (i : Int) by omega), rd_at R1 l i hi, Bool.and_true, cond_true, Bool.cond_self, wrap_i i l.length hi (by omega)]
    cases l[i].2.2 <;> rfl) (by
    intro k s
    show impl_ysize_l3_step (impl_ysize_l3 k) false s l (l.length : Int) (l.length : Int) = _
    unfold impl_ysize_l3_step
    simp only [decn (show ¬ (l.length : Int) < (l.length : Int) by omega), cond_false]) 0
  rw [e]
  rfl
theorem spec_bufs (m : ByteArray) (l : List Buf) (hl : l.length ≤ 1000) (hmem : memOk m = true) (hb : ∀ b ∈ l, inB m.size b.1 b.2.1 = true) : spec_l10Bufs m l = some (true, ()) := by
  unfold spec_l10Bufs
  rw [spec_memOk, hmem]
  have e : spec_l10Bufs_l4 K0 m l 0 = _ := find_loop (fun k i => spec_l10Bufs_l4 k m l (i : Int)) l.length (fun _ => false) (fun _ => Sum.inl (false, ())) (Sum.inr ()) (by omega) (by
    intro k i hi
    show spec_l10Bufs_l4_step (spec_l10Bufs_l4 k) m l (i : Int) = _
    unfold spec_l10Bufs_l4_step
    have h := hb _ (List.getElem_mem hi)
    simp only [decp (show (i : Int) < (l.length : Int) by omega), decp (show (0 : Int) ≤ (i : Int) by omega), rd_at R1 l i hi, spec_in, h, Option.bind_some, Bool.and_true, Bool.not_true, cond_true, cond_false, wrap_i i l.length hi (by omega)]) (by
    intro k
    show spec_l10Bufs_l4_step (spec_l10Bufs_l4 k) m l (l.length : Int) = _
    unfold spec_l10Bufs_l4_step
    simp only [decn (show ¬ (l.length : Int) < (l.length : Int) by omega), cond_false])
  have hn : findN (fun _ => false) l.length 0 = none := by
    cases hf : findN (fun _ => false) l.length 0 with
    | none => rfl
    | some j => have := (findN_some hf).2.2; cases this
  simp only [if_true, Option.bind_some, decn (show ¬ (l.length : Int) > 1000 by omega), e, hn]
  rfl
theorem spec_gather (m : ByteArray) (hm : m.size ≤ 65536) (l : List Buf) (hl : l.length ≤ 40) (hmem : memOk m = true) (hb : ∀ b ∈ l, inB m.size b.1 b.2.1 = true) :
    spec_GatherBufs m l = some (bif decide (((l.foldl (gSt m) ByteArray.empty).size : Int) > 65536) then ByteArray.empty else l.foldl (gSt m) ByteArray.empty, ()) := by
  have hb' : ∀ b ∈ l, 0 ≤ b.1 ∧ 0 ≤ b.2.1 ∧ b.1 + b.2.1 ≤ (m.size : Int) := fun b h => inB_true (by omega) (by omega) (hb b h)
  have key : ∀ (d k i : Nat) (s : ByteArray), i + d = l.length → d < k → s.size ≤ 65536 →
      spec_GatherBufs_l5 k m l s (i : Int) = some (bif decide ((((l.drop i).foldl (gSt m) s).size : Int) > 65536) then Sum.inl (ByteArray.empty, ()) else Sum.inr ((l.drop i).foldl (gSt m) s, ())) := by
    intro d
    induction d with
    | zero =>
      intro k i s hi hk hs
      obtain ⟨k, rfl⟩ : ∃ q, k = q + 1 := ⟨k - 1, by omega⟩
      have : i = l.length := by omega
      subst this
      show spec_GatherBufs_l5_step (spec_GatherBufs_l5 k) m l s (l.length : Int) = _
      unfold spec_GatherBufs_l5_step
      rw [List.drop_length, List.foldl_nil]
      simp only [decn (show ¬ (l.length : Int) < (l.length : Int) by omega), cond_false, decn (show ¬ (s.size : Int) > 65536 by omega)]
    | succ d ih =>
      intro k i s hi hk hs
      obtain ⟨k, rfl⟩ : ∃ q, k = q + 1 := ⟨k - 1, by omega⟩
      have hlt : i < l.length := by omega
      have hx := hb' _ (List.getElem_mem hlt)
      have hz := gSt_size m s l[i] hx
      have hle := gAll_le m (l.drop (i + 1)) (fun b h => hb' b (List.mem_of_mem_drop h)) (gSt m s l[i])
      have hw : wrap64 (l[i].1 + l[i].2.1) = l[i].1 + l[i].2.1 := wrap_id (by omega) (by omega)
      rw [List.drop_eq_getElem_cons hlt, List.foldl_cons]
      show spec_GatherBufs_l5_step (spec_GatherBufs_l5 k) m l s (i : Int) = _
      unfold spec_GatherBufs_l5_step
      simp only [decp (show (i : Int) < (l.length : Int) by omega), decp (show (0 : Int) ≤ (i : Int) by omega), rd_at R1 l i hlt, Bool.and_true, Bool.or_true, Bool.true_and, cond_true, Bool.cond_self, wrap_i i l.length hlt (by omega), hw]
      clear hw
      have hg : (bif !l[i].2.2 then s ++ m.extract l[i].1.toNat (l[i].1 + l[i].2.1).toNat else s) = gSt m s l[i] := rfl
      rw [hg, decp (show 0 ≤ l[i].1 + l[i].2.1 by omega), decp (show l[i].1 + l[i].2.1 ≤ (m.size : Int) by omega), decp (show 0 ≤ l[i].1 by omega), decp (show l[i].1 ≤ l[i].1 + l[i].2.1 by omega), joins_ok (by simp only [ByteArray.size_extract]; omega)]
      simp only [Bool.and_true, Bool.or_true, cond_true]
      by_cases c : ((gSt m s l[i]).size : Int) > 65536
      · rw [decp c, decp (show (((l.drop (i + 1)).foldl (gSt m) (gSt m s l[i])).size : Int) > 65536 by omega)]
        rfl
      · rw [decn c]
        exact ih k (i + 1) _ (by omega) (by omega) (by omega)
  have e := key l.length K0 0 ByteArray.empty (by omega) (by rw [K0_eq]; omega) (by decide)
  have e' : spec_GatherBufs_l5 K0 m l (⟨#[]⟩ : ByteArray) 0 = _ := e
  unfold spec_GatherBufs
  rw [spec_bufs m l (by omega) hmem hb]
  simp only [Option.bind_some, Bool.not_true, cond_false, e', List.drop_zero]
  cases decide (((l.foldl (gSt m) ByteArray.empty).size : Int) > 65536) <;> rfl
theorem impl_gather (m : ByteArray) (hm : m.size ≤ 65536) (l : List Buf) (hl : l.length ≤ 40) (hb : ∀ b ∈ l, inB m.size b.1 b.2.1 = true) : impl_ygather m l = some (l.foldl (gSt m) ByteArray.empty, ()) := by
  have hb' : ∀ b ∈ l, 0 ≤ b.1 ∧ 0 ≤ b.2.1 ∧ b.1 + b.2.1 ≤ (m.size : Int) := fun b h => inB_true (by omega) (by omega) (hb b h)
  have key : ∀ (d k i : Nat) (s : ByteArray), i + d = l.length → d < k → s.size + 65536 * d ≤ 1000000000 →
      impl_ygather_l3 k m l (l.length : Int) (i : Int) (s2b s) = some (s2b ((l.drop i).foldl (gSt m) s), ()) := by
    intro d
    induction d with
    | zero =>
      intro k i s hi hk hs
      obtain ⟨k, rfl⟩ : ∃ q, k = q + 1 := ⟨k - 1, by omega⟩
      have : i = l.length := by omega
      subst this
      show impl_ygather_l3_step (impl_ygather_l3 k) m l (l.length : Int) (l.length : Int) (s2b s) = _
      unfold impl_ygather_l3_step
      rw [List.drop_length, List.foldl_nil]
      simp only [decn (show ¬ (l.length : Int) < (l.length : Int) by omega), cond_false]
    | succ d ih =>
      intro k i s hi hk hs
      obtain ⟨k, rfl⟩ : ∃ q, k = q + 1 := ⟨k - 1, by omega⟩
      have hlt : i < l.length := by omega
      have hx := hb' _ (List.getElem_mem hlt)
      have hz := gSt_size m s l[i] hx
      have hw : wrap64 (l[i].1 + l[i].2.1) = l[i].1 + l[i].2.1 := wrap_id (by omega) (by omega)
      rw [List.drop_eq_getElem_cons hlt, List.foldl_cons]
      show impl_ygather_l3_step (impl_ygather_l3 k) m l (l.length : Int) (i : Int) (s2b s) = _
      unfold impl_ygather_l3_step
      simp only [decp (show (i : Int) < (l.length : Int) by omega), decp (show (0 : Int) ≤ (i : Int) by omega), rd_at R1 l i hlt, Bool.and_true, Bool.or_true, Bool.true_and, cond_true, Bool.cond_self, wrap_i i l.length hlt (by omega), hw]
      clear hw
      have hg : (bif !l[i].2.2 then s2b s ++ s2b (m.extract l[i].1.toNat (l[i].1 + l[i].2.1).toNat) else s2b s) = s2b (gSt m s l[i]) := by
        unfold gSt
        cases l[i].2.2 with
        | true => rfl
        | false => simp only [Bool.not_false, cond_true, s2b_app]
      rw [hg, decp (show 0 ≤ l[i].1 + l[i].2.1 by omega), decp (show l[i].1 + l[i].2.1 ≤ (m.size : Int) by omega), decp (show 0 ≤ l[i].1 by omega), decp (show l[i].1 ≤ l[i].1 + l[i].2.1 by omega), roomy_ok (by rw [s2b_len, s2b_len, ByteArray.size_extract]; omega)]
      simp only [Bool.and_true, Bool.or_true, cond_true]
      refine ih k (i + 1) _ (by omega) (by omega) ?_
      cases hxx : l[i].2.2 <;> rw [hxx] at hz <;> simp at hz <;> omega
  have e := key l.length K0 0 ByteArray.empty (by omega) (by rw [K0_eq]; omega) (by simp; omega)
  have e' : impl_ygather_l3 K0 m l (l.length : Int) 0 [] = _ := e
  unfold impl_ygather
  rw [e']
  simp only [Option.bind_some, b2s_s2b, List.drop_zero]
theorem countP_lt {α : Type} {p q : α → Bool} : ∀ {l : List α} {a : α}, (∀ x ∈ l, p x = true → q x = true) → a ∈ l → p a = false → q a = true → l.countP p < l.countP q
  | [], _, _, h, _, _ => by simp at h
  | x :: l, a, hpq, ha, hp, hq => by
    rw [List.countP_cons, List.countP_cons]
    have hle : l.countP p ≤ l.countP q := List.countP_mono_left fun y hy => hpq y (by simp [hy])
    rcases List.mem_cons.1 ha with rfl | ha
    · rw [hp, hq]; simp; omega
    · have ih := countP_lt (fun y hy => hpq y (by simp [hy])) ha hp hq
      have hx := hpq x (by simp)
      cases hpx : p x with
      | false => cases q x <;> simp <;> omega
      | true => rw [hx hpx]; simp; omega
noncomputable def deadAt (m : ByteArray) (r : Int) (v : Nat) : Bool := deadW (word m (r + 16 * (v : Int) + 8))
noncomputable def deadN (m : ByteArray) (s r : Int) : Nat := (List.range s.toNat).countP (deadAt m r)
theorem deadN_le (m : ByteArray) (s r : Int) : deadN m s r ≤ s.toNat := by
  have := List.countP_le_length (p := deadAt m r) (l := List.range s.toNat)
  unfold deadN
  simpa using this
theorem deadN_gave (m : ByteArray) (s r a : Int) (w : Bool) (id : Int) (h : packedOk m s r a = true) (hn : noneB m r a w = false) : deadN m s r < deadN (gaveM m (r + 16 * a) w id) s r := by
  obtain ⟨h1, h2, h3, h4, h5, h6, h7, h8⟩ := packed_true h
  have ea : ((a.toNat : Nat) : Int) = a := by omega
  refine countP_lt (a := a.toNat) (fun v hv hp => ?_) (by simp; omega) ?_ ?_
  · have hv' : v < s.toNat := by simpa using hv
    unfold deadAt at hp ⊢
    by_cases c : (v : Int) = a
    · rw [c]; exact gave_dead m _ w id (by omega) (by omega)
    · rw [gave_other m _ w id _ (by omega) (by omega) (by omega) (by omega)]
      exact hp
  · unfold deadAt
    rw [ea]
    exact dead_none m r a w hn
  · unfold deadAt
    rw [ea]
    exact gave_dead m _ w id (by omega) (by omega)
abbrev Sent := Int × ByteArray × Int × Int × Int × Bool × List ByteArray × Unit
theorem send_same (s r : Int) : ∀ (μ n1 n2 : Nat) (m : ByteArray) (a : Int) (w : Bool) (fs : List ByteArray), packedOk m s r a = true → s.toNat < deadN m s r + μ → μ ≤ n1 → μ ≤ n2 → fs.length ≤ deadN m s r →
    ∃ R : Sent, R.2.2.2.2.2.2.1.length ≤ 16 ∧ spec_SendFrames_l6 n1 0 ByteArray.empty 0 0 0 false 0 m s r a w fs = some (Sum.inl R) ∧ impl_SendFrames_l5 n2 0 ByteArray.empty 0 0 0 false 0 m s r a w fs = some R := by
  intro μ
  induction μ with
  | zero => intro n1 n2 m a w fs h hmu; have := deadN_le m s r; omega
  | succ μ ih =>
    intro n1 n2 m a w fs h hmu h1 h2 hf
    obtain ⟨n1, rfl⟩ : ∃ q, n1 = q + 1 := ⟨n1 - 1, by omega⟩
    obtain ⟨n2, rfl⟩ : ∃ q, n2 = q + 1 := ⟨n2 - 1, by omega⟩
    obtain ⟨p1, p2, p3, p4, p5, p6, p7, p8⟩ := packed_true h
    have hd := deadN_le m s r
    have hmem : memOk m = true := by unfold packedOk at h; simp only [Bool.and_eq_true] at h; exact h.1.1.1
    obtain ⟨t1, t2⟩ := take_same m s r a w h
    have c1000 : decide ((fs.length : Int) < 1000) = true := decp (by omega)
    show ∃ R : Sent, R.2.2.2.2.2.2.1.length ≤ 16 ∧ spec_SendFrames_l6_step (spec_SendFrames_l6 n1) 0 ByteArray.empty 0 0 0 false 0 m s r a w fs = some (Sum.inl R) ∧ impl_SendFrames_l5_step (impl_SendFrames_l5 n2) 0 ByteArray.empty 0 0 0 false 0 m s r a w fs = some R
    unfold takeRes at t1 t2
    cases hn : noneB m r a w with
    | true =>
      rw [hn, if_pos rfl] at t1 t2
      refine ⟨(0, m, s, r, a, w, fs, ()), by show fs.length ≤ 16; omega, ?_, ?_⟩
      · unfold spec_SendFrames_l6_step
        dsimp only
        rw [c1000, cond_true, t1, Option.bind_some, show ((5 : Int) == 5) = true from rfl, cond_true]
      · unfold impl_SendFrames_l5_step
        dsimp only
        rw [t2, Option.bind_some, show ((5 : Int) == 5) = true from rfl, cond_true]
    | false =>
      rw [hn, if_neg Bool.false_ne_true] at t1 t2
      obtain ⟨k1, k2, k3, k4⟩ := takeGo_ok m s r a s.toNat [] (by omega) (by simp; omega) (by simp)
      generalize takeGo m s r a s.toNat [] = R at k1 k2 k3 k4 t1 t2
      have g1 := spec_gather m (by omega) R.2.2.2.1 (by omega) hmem k3
      have g2 := impl_gather m (by omega) R.2.2.2.1 (by omega) k3
      have g3 := spec_told R.2.2.2.1 (by omega)
      have g4 := impl_size R.2.2.2.1 (by omega)
      have g5 : R.2.2.2.1.foldl totSt 0 = (((R.2.2.2.1.foldl (gSt m) ByteArray.empty).size : Nat) : Int) := tot_eq m (by omega) R.2.2.2.1 (fun b hb => inB_true (by omega) (by omega) (k3 b hb)) ByteArray.empty (by simp; omega)
      rw [g5] at g3 g4
      clear g5
      generalize R.2.2.2.1.foldl (gSt m) ByteArray.empty = G at g1 g2 g3 g4
      have k1' := beq_false_of_ne k1
      have hi : impl_SendFrames_l5_step (impl_SendFrames_l5 n2) 0 ByteArray.empty 0 0 0 false 0 m s r a w fs = bif (R.1 != 0) || decide ((G.size : Int) > 1500) then some (6, m, s, r, a, w, fs, ()) else
          bif roomy ((fs.length : Int) + ([G].length : Int)) 16 then (impl_ygivePacked m s r a w R.2.1 0 R.2.2.1).bind fun r11 => impl_SendFrames_l5 n2 0 ByteArray.empty 0 0 0 false 0 r11.1 r11.2.1 r11.2.2.1 r11.2.2.2.1 r11.2.2.2.2.1 (fs ++ [G]) else none := by
        unfold impl_SendFrames_l5_step
        dsimp only
        rw [t2, Option.bind_some, k1', cond_false, g4, Option.getD_some, Option.isSome_some, Bool.or_true, cond_true, g2, Option.bind_some]
      have hs : spec_SendFrames_l6_step (spec_SendFrames_l6 n1) 0 ByteArray.empty 0 0 0 false 0 m s r a w fs = bif ((R.1 != 0) || decide (((bif decide ((G.size : Int) > 65536) then ByteArray.empty else G).size : Int) > 1500)) || (((bif decide ((G.size : Int) > 65536) then ByteArray.empty else G).size : Int) != (G.size : Int)) then some (Sum.inl (6, m, s, r, a, w, fs, ())) else
          bif roomy ((fs.length : Int) + ([bif decide ((G.size : Int) > 65536) then ByteArray.empty else G].length : Int)) 16 then (spec_GivePacked m s r a w R.2.1 0 R.2.2.1).bind fun r18 => spec_SendFrames_l6 n1 0 ByteArray.empty 0 0 0 false 0 r18.2.1 r18.2.2.1 r18.2.2.2.1 r18.2.2.2.2.1 r18.2.2.2.2.2.1 (fs ++ [bif decide ((G.size : Int) > 65536) then ByteArray.empty else G]) else none := by
        unfold spec_SendFrames_l6_step
        dsimp only
        rw [c1000, cond_true, t1, Option.bind_some, k1', cond_false, g1, Option.bind_some, g3, Option.getD_some, Option.isSome_some, Bool.or_true, cond_true]
      rw [hi, hs]
      clear hi hs g1 g2 g3 g4 t1 t2 k1'
      by_cases c0 : R.1 = 0
      · obtain ⟨i1, i2, i3⟩ := k4 c0
        rw [c0, bne_self_eq_false, Bool.false_or, Bool.false_or]
        by_cases c1 : (G.size : Int) > 65536
        · have e0 : ((ByteArray.empty.size : Nat) : Int) = 0 := rfl
          rw [decp c1, decp (show (G.size : Int) > 1500 by omega), cond_true, cond_true, e0, show ((0 : Int) != (G.size : Int)) = true from bne_iff_ne.2 (by omega), Bool.or_true, cond_true]
          exact ⟨(6, m, s, r, a, w, fs, ()), by show fs.length ≤ 16; omega, rfl, rfl⟩
        · rw [decn c1, cond_false, bne_self_eq_false, Bool.or_false]
          by_cases c2 : (G.size : Int) > 1500
          · rw [decp c2, cond_true, cond_true]
            exact ⟨(6, m, s, r, a, w, fs, ()), by show fs.length ≤ 16; omega, rfl, rfl⟩
          · obtain ⟨v1, v2⟩ := give_same m s r a w R.2.1 R.2.2.1 h i1 ⟨i2, i3⟩
            rw [decn c2, cond_false, cond_false, roomy_ok (by simp; omega), cond_true, cond_true, v1, v2, Option.bind_some, Option.bind_some]
            have hs := gave_size m (r + 16 * a) w R.2.1 (by omega) (by omega)
            have hl := deadN_gave m s r a w R.2.1 h hn
            exact ih n1 n2 (gaveM m (r + 16 * a) w R.2.1) (nextA s a R.2.2.1) (nextW s a R.2.2.1 w) (fs ++ [G]) (packed_move hs h (nextA_range p7 p8 i2 i3)) (by omega) (by omega) (by omega) (by rw [List.length_append]; simp; omega)
      · rw [bne_iff_ne.2 c0, Bool.true_or, Bool.true_or, Bool.true_or, cond_true, cond_true]
        exact ⟨(6, m, s, r, a, w, fs, ()), by show fs.length ≤ 16; omega, rfl, rfl⟩
theorem laws_toPacked_ok (p0 : Int) (p1 : Int) (p2 : Int) (p3 : Bool) : laws_toPacked p0 p1 p2 p3 = some (p0, p1, p2, p3, ()) := by
  unfold laws_toPacked
  first | rfl | simp only [Option.bind_some]
theorem laws_eqPacked_ok (p0 : Int) (p1 : Int) (p2 : Int) (p3 : Bool) : laws_eqPacked p0 p1 p2 p3 p0 p1 p2 p3 = some (true, ()) := by
  unfold laws_eqPacked
  simp [seq_self]
theorem laws_eqStringS_ok (l : List ByteArray) (h : lens (.slice (.str)) l) : laws_eqStringS l l = some (true, ()) := by
  unfold laws_eqStringS
  have hl0 := h.1
  have q := eq_loop (fun k l l2 i => laws_eqStringS_l4 k l l2 (i : Int)) l (by omega) (by
    intro k i hi
    show laws_eqStringS_l4_step (laws_eqStringS_l4 k) l l (i : Int) = _
    unfold laws_eqStringS_l4_step
    have hl := lens_at h i hi
    have d1 : decide ((i : Int) < (l.length : Int)) = true := decp (by omega)
    have d2 : decide ((0 : Int) ≤ (i : Int)) = true := decp (by omega)
    simp only [d1, d2, rd_at (.str) l i hi, Option.bind_some, wrap_i i l.length hi (by omega), Bool.and_true, cond_true, Bool.not_true, cond_false, bne_self_eq_false, seq_ne_self, beq_self_eq_true]
    try rfl) (by
    intro k
    show laws_eqStringS_l4_step (laws_eqStringS_l4 k) l l (l.length : Int) = _
    unfold laws_eqStringS_l4_step
    have d1 : decide ((l.length : Int) < (l.length : Int)) = false := decn (by omega)
    simp only [d1, cond_false]
    try rfl)
  have q' : laws_eqStringS_l4 K0 l l 0 = some (Sum.inr ()) := q
  simp only [bne_self_eq_false, cond_false, q', Option.bind_some]
theorem laws_eqSentFrames_ok (p0 : Int) (p1 : ByteArray) (p2 : Int) (p3 : Int) (p4 : Int) (p5 : Bool) (p6 : List ByteArray) (h6 : lens (.slice (.str)) p6) : laws_eqSentFrames p0 p1 p2 p3 p4 p5 p6 p0 p1 p2 p3 p4 p5 p6 = some (true, ()) := by
  unfold laws_eqSentFrames
  simp [laws_eqPacked_ok, laws_eqStringS_ok, h6, seq_self]
/-- What a mark is as a text. -/
noncomputable def mt (k : Int) : ByteArray := ((laws_markText k).getD (ByteArray.empty, ())).1
theorem laws_markText_l4_some : ∀ (d k : Nat) (n : Int) (s : ByteArray), n < 10 ^ d → n ≤ 9223372036854775807 → d < k → s.size + d ≤ 100 → ∃ r, laws_markText_l4 k n s = some (r, ()) ∧ r.size ≤ 100 := by
  intro d
  induction d with
  | zero =>
    intro k n s hn hn2 hk hs
    obtain ⟨k, rfl⟩ : ∃ q, k = q + 1 := ⟨k - 1, by omega⟩
    show ∃ r, laws_markText_l4_step (laws_markText_l4 k) n s = some (r, ()) ∧ r.size ≤ 100
    unfold laws_markText_l4_step
    rw [decn (show ¬ n > 0 by omega)]
    exact ⟨s, rfl, by omega⟩
  | succ d ih =>
    intro k n s hn hn2 hk hs
    obtain ⟨k, rfl⟩ : ∃ q, k = q + 1 := ⟨k - 1, by omega⟩
    show ∃ r, laws_markText_l4_step (laws_markText_l4 k) n s = some (r, ()) ∧ r.size ≤ 100
    unfold laws_markText_l4_step
    by_cases h : n > 0
    · rw [decp h]
      simp only [cond_true]
      have hj : joins (b2s [IntKind.u8.wrap (wrap64 (48 + Int.tmod n 10))]) s = true := by
        unfold joins
        rw [S0_eq, b2s_one]
        simp
        omega
      rw [hj]
      simp only [show ((10 : Int) == 0) = false from rfl, Bool.not_false, Bool.and_true, cond_true]
      have e : wrap64 (Int.tdiv n 10) = n / 10 := by
        rw [Int.tdiv_eq_ediv_of_nonneg (by omega)]
        exact wrap_id (by omega) (by omega)
      rw [e]
      refine ih k (n / 10) _ ?_ (by clear e; omega) (by omega) ?_
      · rw [Int.pow_succ] at hn
        clear e
        omega
      · rw [bsize_app, b2s_one]; omega
    · rw [decn h]
      exact ⟨s, rfl, by omega⟩
theorem markText_ok (m : Int) (h : m ≤ 4000000000001000000) : laws_markText m = some (mt m, ()) := by
  have : ∃ r, laws_markText m = some (r, ()) := by
    unfold laws_markText
    by_cases c : m ≤ 0
    · rw [decp c]; exact ⟨_, rfl⟩
    · rw [decn c]
      obtain ⟨r, hr, hs⟩ := laws_markText_l4_some 19 K0 m (⟨#[]⟩ : ByteArray) (by have : (10 : Int) ^ 19 = 10000000000000000000 := rfl; omega) (by omega) (by rw [K0_eq]; omega) (by decide)
      simp only [cond_false, hr, Option.bind_some]
      have hj : joins (⟨#[109]⟩ : ByteArray) r = true := by
        unfold joins
        rw [S0_eq]
        have : (⟨#[109]⟩ : ByteArray).size = 1 := rfl
        simp [this]
        omega
      rw [hj]
      exact ⟨_, rfl⟩
  obtain ⟨r, hr⟩ := this
  unfold mt
  rw [hr]
  rfl
noncomputable def mark__str_ (m : Int) (_ : ByteArray) : ByteArray := (mt (m))
theorem laws_markStringS_v2_ok (xs : List ByteArray) (m : Int) (h : lens (.slice (.str)) xs) (h0 : 0 ≤ m) (h1 : m ≤ 1000000000000000) : ∃ ys, laws_markStringS_v2 xs m = some (m + 1 * (xs.length : Int), ys, ()) ∧ ys.length = xs.length ∧ ∀ i, (h : i < ys.length) → ∃ a, ys[i] = mark__str_ (m + 1 * (i : Int)) a := by
  have hl0 := h.1
  have hl1 : (1 : Int) * (xs.length : Int) ≤ 1000000000000 := by omega
  obtain ⟨ys, e1, e2, e3⟩ := mark_loop (fun k xs m i => laws_markStringS_v2_l2 k m (i : Int) xs) 1 mark__str_ (by decide) (by
    intro k xs m i hi h0 hm hl
    show laws_markStringS_v2_l2_step (laws_markStringS_v2_l2 k) m (i : Int) xs = _
    unfold laws_markStringS_v2_l2_step
    have t0 : laws_markText (m) = some (mt (m), ()) := markText_ok _ (by omega)
    have w0 : wrap64 (m + 1) = m + 1 := by have := wrap_inc m 0 h0 hm (by decide) (by decide); simpa using this
    have d1 : decide ((i : Int) < (xs.length : Int)) = true := decp (by omega)
    have d2 : decide ((0 : Int) ≤ (i : Int)) = true := decp (by omega)
    have r0 := fun (l : List ByteArray) (hl : l.length = xs.length) (v : ByteArray) => rd_set (.str) l i v (by rw [hl]; exact hi)
    simp only [d1, d2, w0, t0, rd_at (.str) xs i hi, Int.toNat_natCast, List.length_set, Option.bind_some, wrap_i i xs.length hi hl, Bool.and_true, cond_true, r0, List.set_set, show ((3 : Int) == 0) = false from rfl, Bool.not_false]
    try rfl) (by
    intro k xs m
    show laws_markStringS_v2_l2_step (laws_markStringS_v2_l2 k) m (xs.length : Int) xs = _
    unfold laws_markStringS_v2_l2_step
    have d1 : decide ((xs.length : Int) < (xs.length : Int)) = false := decn (by omega)
    simp only [d1, cond_false]
    try rfl) xs m (by omega) h0 (by omega)
  have e1' : laws_markStringS_v2_l2 K0 m 0 xs = some (m + 1 * (xs.length : Int), ys, ()) := e1
  refine ⟨ys, ?_, e2, e3⟩
  unfold laws_markStringS_v2
  rw [e1']
  rfl
theorem laws_heldStringS_ok (xs : List ByteArray) (m : Int) (hl0 : xs.length ≤ 1048576) (h0 : 0 ≤ m) (h1 : m ≤ 1000000000000000) (hE : ∀ i, (h : i < xs.length) → ∃ a, xs[i] = mark__str_ (m + 1 * (i : Int)) a) : laws_heldStringS xs m = some (m + 1 * (xs.length : Int), ()) := by
  have hl1 : (1 : Int) * (xs.length : Int) ≤ 1000000000000 := by omega
  have e1 := held_loop (fun k xs m i => laws_heldStringS_l2 k xs m (i : Int)) 1 mark__str_ (by decide) (by
    intro k xs m i hi a h0 hm hl hx
    show laws_heldStringS_l2_step (laws_heldStringS_l2 k) xs m (i : Int) = _
    unfold laws_heldStringS_l2_step
    have t0 : laws_markText (m) = some (mt (m), ()) := markText_ok _ (by omega)
    have w0 : wrap64 (m + 1) = m + 1 := by have := wrap_inc m 0 h0 hm (by decide) (by decide); simpa using this
    have d1 : decide ((i : Int) < (xs.length : Int)) = true := decp (by omega)
    have d2 : decide ((0 : Int) ≤ (i : Int)) = true := decp (by omega)
    simp only [d1, d2, w0, t0, rd_at (.str) xs i hi, hx, mark__str_, Option.bind_some, wrap_i i xs.length hi hl, Bool.and_true, cond_true, cond_false, bne_self_eq_false, seq_ne_self, beq_self_eq_true, Bool.not_true, show ((3 : Int) == 0) = false from rfl, Bool.not_false]
    try rfl) (by
    intro k xs m
    show laws_heldStringS_l2_step (laws_heldStringS_l2 k) xs m (xs.length : Int) = _
    unfold laws_heldStringS_l2_step
    have d1 : decide ((xs.length : Int) < (xs.length : Int)) = false := decn (by omega)
    simp only [d1, cond_false]
    try rfl) xs m (by omega) h0 (by omega) hE
  have e1' : laws_heldStringS_l2 K0 xs m 0 = some (Sum.inr (m + 1 * (xs.length : Int), ())) := e1
  unfold laws_heldStringS
  rw [e1']
  rfl
theorem FnExactSendFrames : laws_FnExactSendFrames.Pure := by
  intro m p hm hp
  unfold laws_FnExactSendFrames laws_toPacked
  dsimp only [Option.bind_some]
  by_cases hb : (m.size : Int) > 1048576
  · rw [decp hb]; rfl
  rw [decn hb, cond_false]
  have key : ∃ R : Sent, R.2.2.2.2.2.2.1.length ≤ 16 ∧ spec_SendFrames m p.1 p.2.1 p.2.2.1 p.2.2.2 = some R ∧ impl_SendFrames m p.1 p.2.1 p.2.2.1 p.2.2.2 = some R := by
    unfold spec_SendFrames impl_SendFrames impl_ymemPacked
    rw [impl_big1]
    simp only [Option.bind_some]
    by_cases hb : (m.size : Int) > 65536
    · rw [decp hb]; exact ⟨(2, ByteArray.empty, 0, 0, 0, false, [], ()), by simp, rfl, rfl⟩
    rw [decn hb]
    simp only [cond_false, spec_packed, impl_packed, Option.bind_some]
    cases hq : packedOk m p.1 p.2.1 p.2.2.1 with
    | false => exact ⟨(1, ByteArray.empty, 0, 0, 0, false, [], ()), by simp, rfl, rfl⟩
    | true =>
      obtain ⟨R, r1, r2, r3⟩ := send_same p.1 p.2.1 (p.1.toNat + 1) K0 K0 m p.2.2.1 p.2.2.2 [] hq (by omega) (by have := (packed_true hq); rw [K0_eq]; omega) (by have := (packed_true hq); rw [K0_eq]; omega) (by simp)
      refine ⟨R, r1, ?_, ?_⟩
      · rw [r2]; rfl
      · rw [r3]; rfl
  obtain ⟨R, k0, k1, k2⟩ := key
  rw [k1, k2]
  have lR : lens (.slice (.str)) R.2.2.2.2.2.2.1 := ⟨by show R.2.2.2.2.2.2.1.length ≤ 1048576; omega, fun _ _ => trivial⟩
  obtain ⟨zs, d1, d2, d3⟩ := laws_markStringS_v2_ok R.2.2.2.2.2.2.1 1 lR (by decide) (by decide)
  have f := laws_heldStringS_ok zs 1 (by omega) (by decide) (by decide) d3
  rw [d2] at f
  have u : decide (1 + 1 * (R.2.2.2.2.2.2.1.length : Int) < 0) = false := decn (by omega)
  simp only [laws_eqSentFrames_ok _ _ _ _ _ _ _ lR, laws_markSentFrames_v2, d1, laws_heldSentFrames, f, u, Option.bind_some, Bool.not_true, cond_false, bne_self_eq_false]
end Go.Ab.FnExactSendFrames.Pure
