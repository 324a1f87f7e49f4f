/- The plain statement of the law FnExactReceiveFrame. -/
import Derived.Test.YtcljoifconichaaAbStFnExactReceiveFrame
import Derived.Laws.BitsLemmas
namespace Go.Ab.FnExactReceiveFrame.Pure
open Go.RowKit Go.Ab
set_option linter.unusedVariables false
set_option linter.unusedSimpArgs false
theorem wrap_id {x : Int} (h0 : -9223372036854775808 ≤ x) (h1 : x ≤ 9223372036854775807) : wrap64 x = x := by unfold wrap64; omega
theorem K0_ge {n : Nat} (h : n ≤ 18446744073709551616) : ∃ k, K0 = k + n := ⟨K0 - n, by rw [K0_eq]; omega⟩
theorem roomy_ok {n b : Int} (h : n * b ≤ 140737488355328) : roomy n b = true := by unfold roomy; rw [M0_eq]; simpa using h
theorem rd_nat (t : Ty) (l : List t.val) (i : Nat) : rd t l (i : Int) = l.getD i t.dflt := by unfold rd; rw [Int.toNat_natCast]
theorem rd_at (t : Ty) (l : List t.val) (i : Nat) (h : i < List.length l) : rd t l (i : Int) = l[i]'h := by rw [rd_nat]; simp [h]
theorem decp {p : Prop} [Decidable p] (h : p) : decide p = true := decide_eq_true h
theorem decn {p : Prop} [Decidable p] (h : ¬ p) : decide p = false := decide_eq_false h
theorem bt_range (m : ByteArray) (a : Int) : 0 ≤ bt m a ∧ bt m a ≤ 255 := by
  unfold bt
  have := (m.data.getD a.toNat 0).toNat_lt
  omega
theorem shl_eq {x s : Int} (n : Nat) (hs : s = (n : Int)) (h : n ≤ 64) (h0 : 0 ≤ x * 2 ^ n) (h1 : x * 2 ^ n ≤ 9223372036854775807) : shl .i64 x s = x * 2 ^ n := by
  subst hs
  unfold shl
  rw [Int.toNat_natCast, show min n IntKind.i64.bits = n from Nat.min_eq_left h, IntKind.wrap_i64]
  omega
theorem wrap_succ (i n : Nat) (h : i < n) (hn : n ≤ 140737488351232) : wrap64 ((i : Int) + 1) = ((i + 1 : Nat) : Int) := by
  unfold wrap64; omega
/-- Memory as both want it: whole pages, at least one. -/
def memOk (m : ByteArray) : Bool := decide (256 ≤ (m.size : Int) ∧ (m.size : Int) ≤ 65536 ∧ (m.size : Int) % 256 = 0)
theorem impl_memOk (m : ByteArray) : impl_ymemOk m = some (memOk m, ()) := by
  unfold impl_ymemOk memOk
  have e : Int.tmod (m.size : Int) 256 = (m.size : Int) % 256 := Int.tmod_eq_emod_of_nonneg (by omega)
  rw [e]
  simp
  rw [Bool.eq_iff_iff]
  simp
  omega
theorem spec_memOk (m : ByteArray) : spec_MemFault m = some (if memOk m = true then 0 else 1, ()) := by
  unfold spec_MemFault memOk
  have e : Int.tmod (m.size : Int) 256 = (m.size : Int) % 256 := Int.tmod_eq_emod_of_nonneg (by omega)
  rw [e]
  simp
  grind
/-- A place in so many bytes. -/
def inB (n a b : Int) : Bool := decide (0 ≤ a ∧ 0 ≤ b ∧ a ≤ n ∧ b ≤ wrap64 (n - a))
theorem spec_in (m : ByteArray) (a b : Int) : spec_l10In m a b = some (inB m.size a b, ()) := by
  unfold spec_l10In inB
  dsimp only
  congr 2
  rw [Bool.eq_iff_iff]
  simp
  omega
theorem impl_in (n a b : Int) : impl_yfits n a b = some (inB n a b, ()) := by
  unfold impl_yfits inB
  dsimp only
  congr 2
  rw [Bool.eq_iff_iff]
  simp
  omega
theorem inB_true {n a b : Int} (h0 : 0 ≤ n) (hn : n ≤ 140737488351232) (h : inB n a b = true) : 0 ≤ a ∧ 0 ≤ b ∧ a + b ≤ n := by
  unfold inB at h
  simp only [decide_eq_true_eq] at h
  obtain ⟨h1, h2, h3, h4⟩ := h
  have e : wrap64 (n - a) = n - a := by unfold wrap64; omega
  rw [e] at h4
  omega
theorem inB_le {n a b : Int} (h : inB n a b = true) : 0 ≤ a ∧ 0 ≤ b := by
  unfold inB at h; simp only [decide_eq_true_eq] at h; exact ⟨h.1, h.2.1⟩
theorem yin_eq (a b c : Int) : impl_yin a b c = some (decide (b ≤ a ∧ a ≤ c), ()) := by
  unfold impl_yin
  dsimp only
  congr 2
  rw [Bool.eq_iff_iff]
  simp
/-- What is told of sizes once they are counted. -/
def small : (t : Ty) → t.val → Prop
  | .str, x => x.size ≤ 1048576
  | .slice t, l => List.length l ≤ 1048576 ∧ ∀ y ∈ (show List t.val from l), small t y
  | .pair a b, x => small a x.1 ∧ small b x.2
  | _, _ => True
/-- The same of rows alone. -/
def lens : (t : Ty) → t.val → Prop
  | .slice t, l => List.length l ≤ 1048576 ∧ ∀ y ∈ (show List t.val from l), lens t y
  | .pair a b, x => lens a x.1 ∧ lens b x.2
  | _, _ => True
theorem lens_of : ∀ {t : Ty} {x : t.val}, small t x → lens t x
  | .slice t, l, h => ⟨h.1, fun y hy => lens_of (h.2 y hy)⟩
  | .pair a b, x, h => ⟨lens_of h.1, lens_of h.2⟩
  | .str, _, _ => trivial
  | .int _, _, _ => trivial
  | .bool, _, _ => trivial
  | .unit, _, _ => trivial
  | .sum _ _, _, _ => trivial
  | .opq, _, _ => trivial
theorem lens_flat {t : Ty} (h : flat t = true) (x : t.val) : lens t x := by
  induction t with
  | slice t _ => simp [flat] at h
  | pair a b iha ihb => simp only [flat, Bool.and_eq_true] at h; exact ⟨iha h.1 x.1, ihb h.2 x.2⟩
  | _ => trivial
theorem lens_row {t : Ty} (h : flat t = true) {l : List t.val} (hl : l.length ≤ 1048576) : lens (.slice t) l := ⟨hl, fun y _ => lens_flat h y⟩
theorem lens_at {t : Ty} {l : List t.val} (h : lens (.slice t) l) (i : Nat) (hi : i < List.length l) : lens t (l[i]'hi) := h.2 _ (List.getElem_mem hi)
theorem good_at {t : Ty} {l : List t.val} (h : good (.slice t) l) (i : Nat) (hi : i < List.length l) : good t (l[i]'hi) := h.2 _ (List.getElem_mem hi)
theorem small_row {t : Ty} {l : List t.val} (hl : List.length l ≤ 1048576) (h : ∀ i, (hi : i < List.length l) → small t (l[i]'hi)) : small (.slice t) l := ⟨hl, fun y hy => by
  obtain ⟨i, hi, rfl⟩ := List.getElem_of_mem hy
  exact h i hi⟩
theorem maxLen_lt {n : Nat} (h : n ≤ maxLen) : n ≤ 9223372036854775807 := by unfold maxLen at h; omega
theorem wrap_inc (m j : Int) (h0 : 0 ≤ m) (h1 : m ≤ 4000000000000000000) (h2 : 0 ≤ j) (h3 : j ≤ 1000000) : wrap64 (m + j + 1) = m + (j + 1) := by
  unfold wrap64; omega
theorem wrap_i (i n : Nat) (h : i < n) (hn : n ≤ 9223372036854775807) : wrap64 ((i : Int) + 1) = ((i + 1 : Nat) : Int) := by
  unfold wrap64; omega
theorem rd_set (t : Ty) (l : List t.val) (i : Nat) (v : t.val) (h : i < List.length l) : rd t (List.set l i v) (i : Int) = v := by
  rw [rd_at t _ i (by simpa using h)]; simp
theorem b2s_one (n : Int) : (b2s [n]).size = 1 := rfl
theorem bsize_app (a b : ByteArray) : (a ++ b).size = a.size + b.size := ByteArray.size_append
theorem seq_self (s : ByteArray) : seq s s = true := by unfold seq; simp
theorem seq_ne_self (s : ByteArray) : (!seq s s) = false := by rw [seq_self]; rfl
/-- A loop that lays each element as it is. -/
theorem to_loop {α : Type} (F : Nat → List α → Nat → List α → Option (List α × Unit)) (l : List α) (hl : l.length ≤ 9223372036854775807)
    (hF : ∀ (k i : Nat) (ys : List α) (hi : i < l.length), ys.length = l.length → F (k + 1) l i ys = F k l (i + 1) (ys.set i l[i]))
    (hE : ∀ (k : Nat) (ys : List α), F (k + 1) l l.length ys = some (ys, ())) (ys : List α) (hy : ys.length = l.length) : F K0 l 0 ys = some (l, ()) := by
  have key : ∀ (d k i : Nat) (ys : List α), i + d = l.length → d < k → ys.length = l.length → (∀ j, j < i → ys[j]? = l[j]?) → F k l i ys = some (l, ()) := by
    intro d
    induction d with
    | zero =>
      intro k i ys hi hk hy hj
      obtain ⟨k, rfl⟩ : ∃ q, k = q + 1 := ⟨k - 1, by omega⟩
      have : i = l.length := by omega
      subst this
      rw [hE]
      congr 2
      apply List.ext_getElem? 
      intro j
      by_cases h : j < l.length
      · exact hj j h
      · rw [List.getElem?_eq_none (by omega), List.getElem?_eq_none (by omega)]
    | succ d ih =>
      intro k i ys hi hk hy hj
      obtain ⟨k, rfl⟩ : ∃ q, k = q + 1 := ⟨k - 1, by omega⟩
      rw [hF k i ys (by omega) hy]
      refine ih k (i + 1) _ (by omega) (by omega) (by simpa using hy) fun j hjj => ?_
      by_cases h : j = i
      · subst h
        rw [List.getElem?_set_self (by omega), List.getElem?_eq_getElem (by omega)]
      · rw [List.getElem?_set_ne (by omega)]
        exact hj j (by omega)
  exact key l.length K0 0 ys (by omega) (by rw [K0_eq]; omega) hy (fun j hj => by omega)
/-- A loop that takes from what is left, or is at its end. -/
theorem sz_loop {α : Type} (F : Nat → List α → Int → Nat → Option ((Int × Unit) ⊕ (Int × Unit))) (P : α → Prop) (l : List α) (hl : l.length ≤ 9223372036854775807)
    (hF : ∀ (k i : Nat) (left : Int) (hi : i < l.length), 0 ≤ left → left ≤ 1048576 → ∃ n, n ≤ left ∧ -1 ≤ n ∧ (0 ≤ n → P l[i]) ∧ F (k + 1) l left i = bif decide (n < 0) then some (Sum.inl (-1, ())) else F k l n (i + 1))
    (hE : ∀ (k : Nat) (left : Int), F (k + 1) l left l.length = some (Sum.inr (left, ()))) (left : Int) (h0 : 0 ≤ left) (h1 : left ≤ 1048576) :
    F K0 l left 0 = some (Sum.inl (-1, ())) ∨ ∃ n, n ≤ left ∧ 0 ≤ n ∧ (∀ i, (hi : i < l.length) → P l[i]) ∧ F K0 l left 0 = some (Sum.inr (n, ())) := by
  have key : ∀ (d k i : Nat) (left : Int), i + d = l.length → d < k → 0 ≤ left → left ≤ 1048576 → F k l left i = some (Sum.inl (-1, ())) ∨ ∃ n, n ≤ left ∧ 0 ≤ n ∧ (∀ j, i ≤ j → (hj : j < l.length) → P l[j]) ∧ F k l left i = some (Sum.inr (n, ())) := by
    intro d
    induction d with
    | zero =>
      intro k i left hi hk h0 h1
      obtain ⟨k, rfl⟩ : ∃ q, k = q + 1 := ⟨k - 1, by omega⟩
      have : i = l.length := by omega
      subst this
      exact .inr ⟨left, by omega, h0, fun j h1 h2 => by omega, hE k left⟩
    | succ d ih =>
      intro k i left hi hk h0 h1
      obtain ⟨k, rfl⟩ : ∃ q, k = q + 1 := ⟨k - 1, by omega⟩
      obtain ⟨n, n1, n2, hP, e⟩ := hF k i left (by omega) h0 h1
      rw [e]
      by_cases c : n < 0
      · rw [decp c]; exact .inl rfl
      · rw [decn c, cond_false]
        rcases ih k (i + 1) n (by omega) (by omega) (by omega) (by omega) with q | ⟨m, q1, q2, q3, q4⟩
        · exact .inl q
        · refine .inr ⟨m, by omega, q2, fun j h1 h2 => ?_, q4⟩
          by_cases h : j = i
          · subst h; exact hP (by omega)
          · exact q3 j (by omega) h2
  rcases key l.length K0 0 left (by omega) (by rw [K0_eq]; omega) h0 h1 with q | ⟨m, q1, q2, q3, q4⟩
  · exact .inl q
  · exact .inr ⟨m, q1, q2, fun i hi => q3 i (by omega) hi, q4⟩
/-- A loop that holds each element against itself. -/
theorem eq_loop {α : Type} (F : Nat → List α → List α → Nat → Option ((Bool × Unit) ⊕ Unit)) (l : List α) (hl : l.length ≤ 9223372036854775807)
    (hF : ∀ (k i : Nat) (hi : i < l.length), F (k + 1) l l i = F k l l (i + 1))
    (hE : ∀ (k : Nat), F (k + 1) l l l.length = some (Sum.inr ())) : F K0 l l 0 = some (Sum.inr ()) := by
  have key : ∀ (d k i : Nat), i + d = l.length → d < k → F k l l i = some (Sum.inr ()) := by
    intro d
    induction d with
    | zero =>
      intro k i hi hk
      obtain ⟨k, rfl⟩ : ∃ q, k = q + 1 := ⟨k - 1, by omega⟩
      have : i = l.length := by omega
      subst this
      exact hE k
    | succ d ih =>
      intro k i hi hk
      obtain ⟨k, rfl⟩ : ∃ q, k = q + 1 := ⟨k - 1, by omega⟩
      rw [hF k i (by omega)]
      exact ih k (i + 1) (by omega) (by omega)
  exact key l.length K0 0 (by omega) (by rw [K0_eq]; omega)
/-- A loop F that marks each element with running numbers, and a loop G that tells whether the marks stand. -/
theorem mark_loop {α : Type} (F : Nat → List α → Int → Nat → Option (Int × List α × Unit)) (c : Int) (E : Int → α → α) (hc : 0 ≤ c)
    (hF : ∀ (k : Nat) (xs : List α) (m : Int) (i : Nat) (hi : i < xs.length), 0 ≤ m → m ≤ 4000000000000000000 → xs.length ≤ 9223372036854775807 → F (k + 1) xs m i = F k (xs.set i (E m xs[i])) (m + c) (i + 1))
    (hFe : ∀ (k : Nat) (xs : List α) (m : Int), F (k + 1) xs m xs.length = some (m, xs, ())) (xs : List α) (m : Int) (hl : xs.length ≤ 9223372036854775807) (hm : 0 ≤ m) (hb : m + c * (xs.length : Int) ≤ 4000000000000000000) :
      ∃ ys, F K0 xs m 0 = some (m + c * (xs.length : Int), ys, ()) ∧ ys.length = xs.length ∧ ∀ i, (h : i < ys.length) → ∃ a, ys[i] = E (m + c * (i : Int)) a := by
  have key : ∀ (d k i : Nat) (xs : List α) (m : Int), i + d = xs.length → d < k → 0 ≤ m → m + c * d ≤ 4000000000000000000 → xs.length ≤ 9223372036854775807 →
      ∃ ys, F k xs m i = some (m + c * d, ys, ()) ∧ ys.length = xs.length ∧ (∀ j, j < i → ys[j]? = xs[j]?) ∧ ∀ j, i ≤ j → (h : j < ys.length) → ∃ a, ys[j] = E (m + c * ((j : Int) - i)) a := by
    intro d
    induction d with
    | zero =>
      intro k i xs m hi hk hm hb hl
      obtain ⟨k, rfl⟩ : ∃ q, k = q + 1 := ⟨k - 1, by omega⟩
      have : i = xs.length := by omega
      subst this
      exact ⟨xs, by rw [hFe]; simp, rfl, fun _ _ => rfl, fun j h1 h2 => by omega⟩
    | succ d ih =>
      intro k i xs m hi hk hm hb hl
      obtain ⟨k, rfl⟩ : ∃ q, k = q + 1 := ⟨k - 1, by omega⟩
      have hlt : i < xs.length := by omega
      have hcd : 0 ≤ c * (d : Int) := Int.mul_nonneg hc (by omega)
      have hs : c * ((d + 1 : Nat) : Int) = c * (d : Int) + c := by rw [Int.natCast_succ, Int.mul_add, Int.mul_one]
      rw [hs] at hb ⊢
      obtain ⟨ys, e1, e2, e3, e4⟩ := ih k (i + 1) (xs.set i (E m xs[i])) (m + c) (by simp; omega) (by omega) (by omega) (by omega) (by simpa using hl)
      have hy : i < ys.length := by rw [e2]; simpa using hlt
      have hyi : ys[i] = E m xs[i] := by
        have h := e3 i (by omega)
        rw [List.getElem?_eq_getElem hy, List.getElem?_set_self hlt] at h
        exact Option.some.inj h
      refine ⟨ys, ?_, by rw [e2]; simp, ?_, ?_⟩
      · rw [hF k xs m i hlt hm (by omega) hl, e1]
        congr 2
        omega
      · intro j hj
        rw [e3 j (by omega), List.getElem?_set_ne (by omega)]
      · intro j hj h
        by_cases h' : j = i
        · subst h'
          exact ⟨xs[j], by rw [hyi]; congr 1; rw [Int.sub_self, Int.mul_zero, Int.add_zero]⟩
        · obtain ⟨a, ha⟩ := e4 j (by omega) h
          refine ⟨a, by rw [ha]; congr 1; rw [Int.add_assoc]; congr 1; rw [show (j : Int) - (i : Int) = 1 + ((j : Int) - ((i + 1 : Nat) : Int)) by omega, Int.mul_add, Int.mul_one]⟩
  obtain ⟨ys, e1, e2, _, e4⟩ := key xs.length K0 0 xs m (by omega) (by rw [K0_eq]; omega) hm hb hl
  exact ⟨ys, e1, e2, fun i h => by obtain ⟨a, ha⟩ := e4 i (by omega) h; exact ⟨a, by simpa using ha⟩⟩
/-- A loop that tells whether the marks stand. -/
theorem held_loop {α : Type} (G : Nat → List α → Int → Nat → Option ((Int × Unit) ⊕ (Int × Unit))) (c : Int) (E : Int → α → α) (hc : 0 ≤ c)
    (hG : ∀ (k : Nat) (xs : List α) (m : Int) (i : Nat) (hi : i < xs.length) (a : α), 0 ≤ m → m ≤ 4000000000000000000 → xs.length ≤ 9223372036854775807 → xs[i] = E m a → G (k + 1) xs m i = G k xs (m + c) (i + 1))
    (hGe : ∀ (k : Nat) (xs : List α) (m : Int), G (k + 1) xs m xs.length = some (Sum.inr (m, ()))) (ys : List α) (m : Int) (hl : ys.length ≤ 9223372036854775807) (hm : 0 ≤ m) (hb : m + c * (ys.length : Int) ≤ 4000000000000000000)
    (hE : ∀ i, (h : i < ys.length) → ∃ a, ys[i] = E (m + c * (i : Int)) a) : G K0 ys m 0 = some (Sum.inr (m + c * (ys.length : Int), ())) := by
  have key : ∀ (d k i : Nat), i + d = ys.length → d < k → G k ys (m + c * (i : Int)) i = some (Sum.inr (m + c * (ys.length : Int), ())) := by
    intro d
    induction d with
    | zero =>
      intro k i hi hk
      obtain ⟨k, rfl⟩ : ∃ q, k = q + 1 := ⟨k - 1, by omega⟩
      have : i = ys.length := by omega
      subst this
      exact hGe k ys _
    | succ d ih =>
      intro k i hi hk
      obtain ⟨k, rfl⟩ : ∃ q, k = q + 1 := ⟨k - 1, by omega⟩
      obtain ⟨a, ha⟩ := hE i (by omega)
      have hcd : 0 ≤ c * (i : Int) := Int.mul_nonneg hc (by omega)
      have hle : c * (i : Int) ≤ c * (ys.length : Int) := Int.mul_le_mul_of_nonneg_left (by omega) hc
      rw [hG k ys _ i (by omega) a (by omega) (by omega) hl ha]
      have e : m + c * (i : Int) + c = m + c * ((i + 1 : Nat) : Int) := by
        rw [show ((i + 1 : Nat) : Int) = (i : Int) + 1 by omega, Int.mul_add, Int.mul_one]; omega
      rw [e]
      exact ih k (i + 1) (by omega) (by omega)
  have := key ys.length K0 0 (by omega) (by rw [K0_eq]; omega)
  simpa using this
theorem bits_eq (op : BinOp) (k : IntKind) (x y : Int) : Go.Ab.bits op k x y = Go.bits op k x y := by cases op <;> rfl
theorem wraps_i64 (n : Int) (h0 : 0 ≤ n) (h1 : n < 2 ^ 63) : IntKind.i64.wrap n = n := by rw [IntKind.wrap_i64]; omega
theorem or_comm_i64 (x y : Int) : Go.bits .or .i64 x y = Go.bits .or .i64 y x := by
  unfold Go.bits
  simp only [BitVec.or_comm]
theorem or_low (i : Nat) (x y : Int) (hx0 : 0 ≤ x) (hx : x < 2 ^ i) (hy0 : 0 ≤ y) (hy : y % 2 ^ i = 0) (hy1 : y < 2 ^ 63) (hx1 : x < 2 ^ 63) : Go.Ab.bits .or .i64 x y = x + y := by
  rw [bits_eq, or_comm_i64, Int.add_comm]
  exact bits_join .i64 63 (by decide) wraps_i64 i y x hy0 hy hy1 hx0 hx hx1
theorem and_mask (i : Nat) (hi : i ≤ 63) (x : Int) (h0 : 0 ≤ x) (h1 : x < 2 ^ 63) : Go.Ab.bits .and .i64 x (2 ^ i - 1) = x % 2 ^ i := by
  rw [bits_eq]
  exact bits_mask .i64 63 (by decide) wraps_i64 i hi x h0 h1
/-- Four bytes as a number. -/
def word (m : ByteArray) (a : Int) : Int := bt m a + bt m (a + 1) * 256 + bt m (a + 2) * 65536 + bt m (a + 3) * 16777216
theorem word_range (m : ByteArray) (a : Int) : 0 ≤ word m a ∧ word m a < 4294967296 := by
  have h0 := bt_range m a; have h1 := bt_range m (a + 1); have h2 := bt_range m (a + 2); have h3 := bt_range m (a + 3)
  unfold word; omega
theorem spec_word (m : ByteArray) (a : Int) (hm : m.size ≤ 140737488351232) (h0 : 0 ≤ a) (h1 : a + 4 ≤ m.size) : spec_l01Word m a = some (word m a, ()) := by
  have b0 := bt_range m a; have b1 := bt_range m (a + 1); have b2 := bt_range m (a + 2); have b3 := bt_range m (a + 3)
  have e1 : wrap64 (a + 1) = a + 1 := wrap_id (by omega) (by omega)
  have e2 : wrap64 (a + 2) = a + 2 := wrap_id (by omega) (by omega)
  have e3 : wrap64 (a + 3) = a + 3 := wrap_id (by omega) (by omega)
  unfold spec_l01Word word
  simp only [e1, e2, e3]
  rw [decp h0, decp (show a < (m.size : Int) by omega), decp (show 0 ≤ a + 1 by omega), decp (show a + 1 < (m.size : Int) by omega), decp (show 0 ≤ a + 2 by omega), decp (show a + 2 < (m.size : Int) by omega), decp (show 0 ≤ a + 3 by omega), decp (show a + 3 < (m.size : Int) by omega)]
  clear e1 e2 e3
  rw [wrap_id (x := bt m a) (by omega) (by omega), wrap_id (x := bt m (a + 1)) (by omega) (by omega), wrap_id (x := bt m (a + 2)) (by omega) (by omega), wrap_id (x := bt m (a + 3)) (by omega) (by omega)]
  rw [shl_eq (x := bt m (a + 1)) 8 (by rfl) (by decide) (by omega) (by omega), shl_eq (x := bt m (a + 2)) 16 (by rfl) (by decide) (by omega) (by omega), shl_eq (x := bt m (a + 3)) 24 (by rfl) (by decide) (by omega) (by omega)]
  rw [wrap_id (x := bt m a + bt m (a + 1) * 2 ^ 8) (by omega) (by omega), wrap_id (x := bt m a + bt m (a + 1) * 2 ^ 8 + bt m (a + 2) * 2 ^ 16) (by omega) (by omega), wrap_id (by omega) (by omega)]
  rfl
theorem impl_word (m : ByteArray) (a : Int) (hm : m.size ≤ 140737488351232) (h0 : 0 ≤ a) (h1 : a + 4 ≤ m.size) : impl_ywordAt m a = some (word m a, ()) := by
  have b0 := bt_range m a; have b1 := bt_range m (a + 1); have b2 := bt_range m (a + 2); have b3 := bt_range m (a + 3)
  have e1 : wrap64 (a + 1) = a + 1 := wrap_id (by omega) (by omega)
  have e2 : wrap64 (a + 2) = a + 2 := wrap_id (by omega) (by omega)
  have e3 : wrap64 (a + 3) = a + 3 := wrap_id (by omega) (by omega)
  unfold impl_ywordAt word
  simp only [e1, e2, e3]
  rw [decp h0, decp (show a < (m.size : Int) by omega), decp (show 0 ≤ a + 1 by omega), decp (show a + 1 < (m.size : Int) by omega), decp (show 0 ≤ a + 2 by omega), decp (show a + 2 < (m.size : Int) by omega), decp (show 0 ≤ a + 3 by omega), decp (show a + 3 < (m.size : Int) by omega)]
  clear e1 e2 e3
  rw [wrap_id (x := bt m a) (by omega) (by omega), wrap_id (x := bt m (a + 1)) (by omega) (by omega), wrap_id (x := bt m (a + 2)) (by omega) (by omega), wrap_id (x := bt m (a + 3)) (by omega) (by omega)]
  rw [shl_eq (x := bt m (a + 1)) 8 (by rfl) (by decide) (by omega) (by omega), shl_eq (x := bt m (a + 2)) 16 (by rfl) (by decide) (by omega) (by omega), shl_eq (x := bt m (a + 3)) 24 (by rfl) (by decide) (by omega) (by omega)]
  rw [or_low 8 (bt m a) (bt m (a + 1) * 2 ^ 8) (by omega) (by omega) (by omega) (by omega) (by omega) (by omega)]
  rw [or_low 16 (bt m a + bt m (a + 1) * 2 ^ 8) (bt m (a + 2) * 2 ^ 16) (by omega) (by omega) (by omega) (by omega) (by omega) (by omega)]
  rw [or_low 24 _ (bt m (a + 3) * 2 ^ 24) (by omega) (by omega) (by omega) (by omega) (by omega) (by omega)]
  rfl
theorem impl_big1 (m : ByteArray) : impl_ybig [m] = some (decide ((m.size : Int) > 65536), ()) := by
  obtain ⟨k, hk⟩ := K0_ge (n := 2) (by decide)
  unfold impl_ybig
  rw [hk]
  simp only [impl_ybig_l2, impl_ybig_l2_step, rd, wrap64]
  by_cases h : (m.size : Int) > 65536 <;> simp (config := {decide := true}) [h]
theorem mod_eq (a b : Int) (hb : 0 < b) : (if a.tmod b < 0 then a.tmod b + b else a.tmod b) = a % b := by
  have h1 := Int.emod_nonneg a (show b ≠ 0 by omega)
  have h2 := Int.emod_lt_of_pos a hb
  rw [Int.tmod_eq_emod]
  by_cases h : 0 ≤ a ∨ b ∣ a
  · rw [if_pos h]; simp; omega
  · rw [if_neg h, if_pos (by omega)]; omega
theorem mod_cond (a b : Int) (hb : 0 < b) (hb2 : b ≤ 4611686018427387904) : (bif decide (a.tmod b < 0) then wrap64 (a.tmod b + b) else a.tmod b) = a % b := by
  rw [← mod_eq a b hb]
  have h1 := Int.emod_nonneg a (show b ≠ 0 by omega)
  have h2 := Int.emod_lt_of_pos a hb
  by_cases h : a.tmod b < 0
  · have h3 : -b < a.tmod b := by
      rw [Int.tmod_eq_emod]; split <;> omega
    rw [decp h, if_pos h]
    exact wrap_id (by omega) (by omega)
  · rw [decn h, if_neg h]; rfl
theorem spec_mod (a b : Int) (hb : 0 < b) (hb2 : b ≤ 4611686018427387904) : spec_l01Mod a b = some (a % b, ()) := by
  unfold spec_l01Mod
  dsimp only
  rw [mod_cond a b hb hb2, show (b == 0) = false from beq_false_of_ne (by omega)]
  rfl
theorem impl_mod (a b : Int) (hb : 0 < b) (hb2 : b ≤ 4611686018427387904) : impl_ymod a b = some (a % b, ()) := by
  unfold impl_ymod
  dsimp only
  rw [mod_cond a b hb hb2, show (b == 0) = false from beq_false_of_ne (by omega)]
  rfl
def placeOk (n a b : Int) : Bool := (Int.tmod a 4 == 0) && inB n a b
theorem impl_place (m : ByteArray) (a b : Int) : impl_yplace m a b = some (placeOk m.size a b, ()) := by
  unfold impl_yplace placeOk
  simp only [impl_in]
  simp
/-- How many a queue may hold. -/
def sizeOk (s : Int) : Bool := s == 1 || s == 2 || s == 4 || s == 8 || s == 16
theorem spec_sizes (s : Int) : spec_l01InInts [1, 2, 4, 8, 16] s = some (sizeOk s, ()) := by
  obtain ⟨k, hk⟩ := K0_ge (n := 6) (by decide)
  unfold spec_l01InInts sizeOk
  rw [hk]
  simp only [spec_l01InInts_l2, spec_l01InInts_l2_step, rd, wrap64]
  simp (config := {decide := true})
  grind
theorem impl_sizes (s : Int) : slices_Contains_int64 [1, 2, 4, 8, 16] s = some (sizeOk s, ()) := by
  obtain ⟨k, hk⟩ := K0_ge (n := 6) (by decide)
  unfold slices_Contains_int64 slices_Index_int64 sizeOk
  rw [hk]
  simp only [slices_Index_int64_l2, slices_Index_int64_l2_step, rd, wrap64]
  simp (config := {decide := true})
  grind
theorem sizeOk_le {s : Int} (h : sizeOk s = true) : 1 ≤ s ∧ s ≤ 16 := by
  unfold sizeOk at h
  simp at h
  omega
/-- What a queue is. -/
def queueOk (m : ByteArray) (s d a u t g : Int) : Bool :=
  memOk m && sizeOk s && placeOk m.size d (wrap64 (16 * s)) && placeOk m.size a (wrap64 (8 + wrap64 (4 * s))) && placeOk m.size u (wrap64 (8 + wrap64 (8 * s))) && decide (0 ≤ t ∧ t ≤ 65535) && decide (0 ≤ g ∧ g ≤ 65535)
theorem spec_queue (m : ByteArray) (s d a u t g : Int) : spec_QueueFault m s d a u t g = some (if queueOk m s d a u t g = true then 0 else 1, ()) := by
  unfold spec_QueueFault queueOk placeOk
  simp only [spec_memOk, spec_sizes, spec_in, Option.bind_some]
  simp
  grind
theorem impl_queue (m : ByteArray) (s d a u t g : Int) : impl_QueueFault m s d a u t g = some (if queueOk m s d a u t g = true then 0 else 1, ()) := by
  unfold impl_QueueFault queueOk
  simp only [impl_memOk, impl_sizes, impl_place, yin_eq, Option.bind_some]
  simp
  grind
theorem queue_true {m : ByteArray} {s d a u t g : Int} (h : queueOk m s d a u t g = true) :
    256 ≤ m.size ∧ m.size ≤ 65536 ∧ 1 ≤ s ∧ s ≤ 16 ∧ 0 ≤ d ∧ d + 16 * s ≤ m.size ∧ 0 ≤ a ∧ a + (8 + 4 * s) ≤ m.size ∧ 0 ≤ u ∧ u + (8 + 8 * s) ≤ m.size ∧ 0 ≤ t ∧ t ≤ 65535 ∧ 0 ≤ g ∧ g ≤ 65535 := by
  unfold queueOk placeOk memOk at h
  simp only [Bool.and_eq_true, decide_eq_true_eq] at h
  obtain ⟨⟨⟨⟨⟨⟨⟨h1, h2, _⟩, h3⟩, _, h4⟩, _, h5⟩, _, h6⟩, h7⟩, h8⟩ := h
  have hs := sizeOk_le h3
  rw [wrap_id (x := 16 * s) (by omega) (by omega)] at h4
  rw [wrap_id (x := 4 * s) (by omega) (by omega), wrap_id (by omega) (by omega)] at h5
  rw [wrap_id (x := 8 * s) (by omega) (by omega), wrap_id (by omega) (by omega)] at h6
  have a4 := inB_true (by omega) (by omega) h4
  have a5 := inB_true (by omega) (by omega) h5
  have a6 := inB_true (by omega) (by omega) h6
  omega
theorem impl_readDesc (m : ByteArray) (a : Int) (hm : m.size ≤ 140737488351232) (h0 : 0 ≤ a) (h1 : a + 16 ≤ m.size) : impl_yreadDesc m a = some (word m a, word m (a + 4), word m (a + 8), word m (a + 12), ()) := by
  obtain ⟨k, hk⟩ := K0_ge (n := 5) (by decide)
  have w0 : wrap64 (a + wrap64 (4 * 0)) = a := by rw [wrap_id (x := 4 * 0) (by decide) (by decide), wrap_id (by omega) (by omega)]; omega
  have w1 : wrap64 (a + wrap64 (4 * 1)) = a + 4 := by clear w0; rw [wrap_id (x := 4 * 1) (by decide) (by decide), wrap_id (by omega) (by omega)]; omega
  have w2 : wrap64 (a + wrap64 (4 * 2)) = a + 8 := by clear w0 w1; rw [wrap_id (x := 4 * 2) (by decide) (by decide), wrap_id (by omega) (by omega)]; omega
  have w3 : wrap64 (a + wrap64 (4 * 3)) = a + 12 := by clear w0 w1 w2; rw [wrap_id (x := 4 * 3) (by decide) (by decide), wrap_id (by omega) (by omega)]; omega
  have v0 : wrap64 (0 + 1) = 1 := wrap_id (by decide) (by decide)
  have v1 : wrap64 (1 + 1) = 2 := wrap_id (by decide) (by decide)
  have v2 : wrap64 (2 + 1) = 3 := wrap_id (by decide) (by decide)
  have v3 : wrap64 (3 + 1) = 4 := wrap_id (by decide) (by decide)
  have i0 := impl_word m a hm h0 (by clear w0 w1 w2 w3 v0 v1 v2 v3; omega)
  have i1 := impl_word m (a + 4) hm (by clear w0 w1 w2 w3 v0 v1 v2 v3; omega) (by clear w0 w1 w2 w3 v0 v1 v2 v3; omega)
  have i2 := impl_word m (a + 8) hm (by clear w0 w1 w2 w3 v0 v1 v2 v3; omega) (by clear w0 w1 w2 w3 v0 v1 v2 v3; omega)
  have i3 := impl_word m (a + 12) hm (by clear w0 w1 w2 w3 v0 v1 v2 v3; omega) (by clear w0 w1 w2 w3 v0 v1 v2 v3; omega)
  unfold impl_yreadDesc
  rw [hk]
  simp only [impl_yreadDesc_l3, impl_yreadDesc_l3_step, w0, w1, w2, w3, v0, v1, v2, v3, i0, i1, i2, i3, Option.bind_some]
  simp (config := {decide := true})
abbrev Buf := Int × Int × Bool
/-- Is the last one to be written? -/
def lastW (bs : List Buf) : Bool := decide (0 < bs.length) && (bs.getD (bs.length - 1) (0, 0, false)).2.2
/-- What putting a buffer behind others answers. -/
def bufCode (m : ByteArray) (bs : List Buf) (x y : Int) (wr : Bool) : Int := if inB m.size x y = true then (if (lastW bs && !wr) = true then 6 else 0) else 2
theorem last_at (bs : List Buf) (hb : bs.length ≤ 1048576) (h0 : 0 < bs.length) : wrap64 ((bs.length : Int) - 1) = ((bs.length - 1 : Nat) : Int) := by
  rw [wrap_id (by omega) (by omega)]; omega
theorem lastW_eq (bs : List Buf) (hb : bs.length ≤ 1048576) : (decide ((bs.length : Int) > 0) && (rd R1 bs (wrap64 ((bs.length : Int) - 1))).2.2) = lastW bs ∧ (!decide ((bs.length : Int) > 0) || (decide (0 ≤ wrap64 ((bs.length : Int) - 1)) && decide (wrap64 ((bs.length : Int) - 1) < (bs.length : Int)))) = true := by
  unfold lastW
  by_cases h0 : 0 < bs.length
  · have e := last_at bs hb h0
    rw [e, rd_nat]
    constructor
    · rw [decp (show (bs.length : Int) > 0 by clear e; omega), decp h0]
      rfl
    · rw [decp (show 0 ≤ ((bs.length - 1 : Nat) : Int) by clear e; omega), decp (show ((bs.length - 1 : Nat) : Int) < (bs.length : Int) by clear e; omega)]
      simp
  · rw [decn (show ¬ (bs.length : Int) > 0 by omega), decn h0]
    simp
theorem spec_buf (m : ByteArray) (bs : List Buf) (x y : Int) (wr : Bool) (hb : bs.length ≤ 1048576) : spec_l10Buf m bs x y wr = some (bufCode m bs x y wr, ()) := by
  unfold spec_l10Buf bufCode
  obtain ⟨e1, e2⟩ := lastW_eq bs hb
  simp only [spec_in, Option.bind_some, e1, e2]
  cases inB m.size x y <;> cases lastW bs <;> cases wr <;> rfl
/-- Has f any of x's bits? -/
def flag (f x : Int) : Bool := Go.Ab.bits .and .i64 f x != 0
theorem flag_def (f x : Int) : (Go.Ab.bits .and .i64 f x != 0) = flag f x := rfl
theorem flag_not (f x : Int) : (Go.Ab.bits .and .i64 f x == 0) = !flag f x := by unfold flag; cases h : (Go.Ab.bits .and .i64 f x == 0) <;> simp_all [bne]
theorem impl_has (a b c d x : Int) : impl_ydesc_has a b c d x = some (flag c x, ()) := rfl
theorem impl_buf (a b c d : Int) : impl_ydesc_buf a b c d = some (a, b, flag c 2, ()) := rfl
theorem impl_add (m : ByteArray) (bs : List Buf) (a b c d : Int) (hb : bs.length ≤ 1048576) : impl_yadd_v4 m bs a b c d = some (if bufCode m bs a b (flag c 2) = 0 then (bs ++ [(a, b, flag c 2)], 0, ()) else ([], bufCode m bs a b (flag c 2), ())) := by
  unfold impl_yadd_v4 bufCode
  obtain ⟨e1, e2⟩ := lastW_eq bs hb
  simp only [impl_in, Option.bind_some, impl_has, impl_buf, e1, e2, Option.getD_some, Option.isSome_some]
  rw [roomy_ok (by simp; omega)]
  generalize flag c 2 = W
  cases inB m.size a b <;> cases lastW bs <;> cases W <;> simp
/-- Is a descriptor of a table of its own wrong? -/
def badTab (x y f : Int) : Bool := flag f 1 || (Int.tmod y 16 != 0) || !decide (16 ≤ y ∧ y ≤ 256) || (Int.tmod x 4 != 0)
abbrev Chain := Int × List Buf × Unit
/-- One descriptor. -/
def stp (m : ByteArray) (R : Int → Int → Bool → Int → Int → List Buf → Option Chain) (table size : Int) (inner : Bool) (at_ steps : Int) (bs : List Buf) : Option Chain :=
  if at_ ≥ size then some (5, [], ()) else if steps + 1 > size then some (9, [], ()) else
  let d := table + 16 * at_
  let f := word m (d + 8)
  if flag f 4 = true then
    if (inner || badTab (word m d) (word m (d + 4)) f) = true then some (3, [], ()) else
    if inB m.size (word m d) (word m (d + 4)) = true then R (word m d) (word m (d + 4) / 16) true 0 0 bs else some (2, [], ())
  else
    let code := bufCode m bs (word m d) (word m (d + 4)) (flag f 2)
    if code = 0 then (if flag f 1 = true then R table size inner (word m (d + 12)) (steps + 1) (bs ++ [(word m d, word m (d + 4), flag f 2)]) else some (0, bs ++ [(word m d, word m (d + 4), flag f 2)], ()))
    else some (code, [], ())
theorem spec_stp (rec : ByteArray → Int → Int → Bool → Int → Int → Int → Int → List Buf → Option Chain) (m : ByteArray) (table size : Int) (inner : Bool) (at_ steps z : Int) (bs : List Buf) (hm : m.size ≤ 65536)
    (ha : 0 ≤ at_) (hs : 0 ≤ steps) (hs' : steps ≤ size) (hz : size ≤ 16) (hr : 0 ≤ table) (hr1 : table + 16 * size ≤ m.size) (hb : bs.length ≤ 1000) :
    spec_ReadChain_l11_step rec m table size inner at_ steps z 0 bs = stp m (fun t s i a n l => rec m t s i a n z 0 l) table size inner at_ steps bs := by
  unfold spec_ReadChain_l11_step stp
  by_cases h : at_ ≥ size
  · rw [decp h, if_pos h, Bool.or_true]; rfl
  rw [decn h, if_neg h, decn (show ¬ at_ < 0 by omega), wrap_id (x := steps + 1) (by omega) (by omega)]
  dsimp only [Bool.or_false, cond_false]
  by_cases hst : steps + 1 > size
  · rw [decp hst, if_pos hst]; rfl
  rw [decn hst, if_neg hst]
  have f1 : wrap64 (16 * at_) = 16 * at_ := wrap_id (by omega) (by omega)
  have f2 : wrap64 (table + 16 * at_) = table + 16 * at_ := wrap_id (by clear f1; omega) (by clear f1; omega)
  rw [f1, f2]
  clear f1 f2
  have d0 : 0 ≤ table + 16 * at_ := by omega
  have d1 : table + 16 * at_ + 16 ≤ m.size := by omega
  generalize table + 16 * at_ = d at d0 d1
  have q0 := spec_word m d (by omega) d0 (by omega)
  have q4 := spec_word m (d + 4) (by omega) (by omega) (by omega)
  have q8 := spec_word m (d + 8) (by omega) (by omega) (by omega)
  have q12 := spec_word m (d + 12) (by omega) (by omega) (by omega)
  have r0 := word_range m d
  have r4 := word_range m (d + 4)
  have sb := spec_buf m bs (word m d) (word m (d + 4)) (flag (word m (d + 8)) 2) (by omega)
  have rm : roomy ((bs.length : Int) + ([(word m d, word m (d + 4), flag (word m (d + 8)) 2)].length : Int)) 24 = true := roomy_ok (by simp; omega)
  have e4 : wrap64 (d + 4) = d + 4 := wrap_id (by omega) (by omega)
  have e8 : wrap64 (d + 8) = d + 8 := wrap_id (by clear e4; omega) (by clear e4; omega)
  have e12 : wrap64 (d + 12) = d + 12 := wrap_id (by clear e4 e8; omega) (by clear e4 e8; omega)
  have et : wrap64 (Int.tdiv (word m (d + 4)) 16) = word m (d + 4) / 16 := by
    clear e4 e8 e12
    rw [Int.tdiv_eq_ediv_of_nonneg r4.1, wrap_id (by omega) (by omega)]
  rw [q0, Option.bind_some, e4, q4, Option.bind_some, e8, q8, Option.bind_some, e12, q12, Option.bind_some]
  simp only [flag_def, flag_not]
  rw [spec_in, Option.bind_some, sb, Option.bind_some, rm, et]
  clear e4 e8 e12 et q0 q4 q8 q12 sb rm
  have hy : (decide (word m (d + 4) < 16) || decide (word m (d + 4) > 256)) = !decide (16 ≤ word m (d + 4) ∧ word m (d + 4) ≤ 256) := by
    rw [Bool.eq_iff_iff]
    simp
  rw [Bool.or_assoc (((inner || flag (word m (d + 8)) 1) || (Int.tmod (word m (d + 4)) 16 != 0))), hy]
  unfold badTab
  generalize rec m (word m d) (word m (d + 4) / 16) true 0 0 z 0 bs = r1
  generalize rec m table size inner (word m (d + 12)) (steps + 1) z 0 (bs ++ [(word m d, word m (d + 4), flag (word m (d + 8)) 2)]) = r2
  generalize bs ++ [(word m d, word m (d + 4), flag (word m (d + 8)) 2)] = bs'
  generalize bufCode m bs (word m d) (word m (d + 4)) (flag (word m (d + 8)) 2) = code
  generalize decide (16 ≤ word m (d + 4) ∧ word m (d + 4) ≤ 256) = b1
  generalize (Int.tmod (word m (d + 4)) 16 != 0) = b2
  generalize (Int.tmod (word m d) 4 != 0) = b3
  generalize inB m.size (word m d) (word m (d + 4)) = b4
  generalize flag (word m (d + 8)) 1 = b5
  generalize flag (word m (d + 8)) 4 = b6
  clear hy
  cases b6
  · by_cases hc : code = 0
    · subst hc
      cases b5 <;> rfl
    · rw [bne_iff_ne.2 hc, if_neg hc]; rfl
  · cases inner <;> cases b5 <;> cases b2 <;> cases b1 <;> cases b3 <;> cases b4 <;> rfl
theorem impl_stp (rec : ByteArray → Int → Int → Int → Int → Bool → Int → List Buf → Option Chain) (m : ByteArray) (table size : Int) (inner : Bool) (at_ steps z : Int) (bs : List Buf) (hm : m.size ≤ 65536)
    (ha : 0 ≤ at_) (hs : 0 ≤ steps) (hs' : steps ≤ size) (hz : size ≤ 16) (hr : 0 ≤ table) (hr1 : table + 16 * size ≤ m.size) (hb : bs.length ≤ 1000) :
    impl_yreadChain_l6_step rec m table size at_ steps inner z bs = stp m (fun t s i a n l => rec m t s a n i z l) table size inner at_ steps bs := by
  unfold impl_yreadChain_l6_step stp
  by_cases h : at_ ≥ size
  · rw [decp h, if_pos h]; simp
  rw [decn h, if_neg h, wrap_id (x := steps + 1) (by omega) (by omega)]
  dsimp only [cond_false]
  by_cases hst : steps + 1 > size
  · rw [decp hst, if_pos hst]; rfl
  rw [decn hst, if_neg hst]
  have f1 : wrap64 (16 * at_) = 16 * at_ := wrap_id (by omega) (by omega)
  have f2 : wrap64 (table + 16 * at_) = table + 16 * at_ := wrap_id (by clear f1; omega) (by clear f1; omega)
  rw [f1, f2]
  clear f1 f2
  have d0 : 0 ≤ table + 16 * at_ := by omega
  have d1 : table + 16 * at_ + 16 ≤ m.size := by omega
  generalize table + 16 * at_ = d at d0 d1
  have rd := impl_readDesc m d (by omega) d0 (by omega)
  have r0 := word_range m d
  have r4 := word_range m (d + 4)
  have ia := impl_add m bs (word m d) (word m (d + 4)) (word m (d + 8)) (word m (d + 12)) (by omega)
  have et : wrap64 (Int.tdiv (word m (d + 4)) 16) = word m (d + 4) / 16 := by
    rw [Int.tdiv_eq_ediv_of_nonneg r4.1, wrap_id (by omega) (by omega)]
  rw [rd, Option.bind_some, impl_has, Option.bind_some]
  dsimp only
  rw [impl_has, yin_eq, impl_in, Option.bind_some, ia, Option.bind_some, Option.bind_some, et]
  unfold badTab
  clear et rd ia
  generalize rec m (word m d) (word m (d + 4) / 16) 0 0 true z bs = r1
  generalize bs ++ [(word m d, word m (d + 4), flag (word m (d + 8)) 2)] = bs'
  generalize bufCode m bs (word m d) (word m (d + 4)) (flag (word m (d + 8)) 2) = code
  generalize decide (16 ≤ word m (d + 4) ∧ word m (d + 4) ≤ 256) = b1
  generalize (Int.tmod (word m (d + 4)) 16 != 0) = b2
  generalize (Int.tmod (word m d) 4 != 0) = b3
  generalize inB m.size (word m d) (word m (d + 4)) = b4
  generalize flag (word m (d + 8)) 1 = b5
  generalize flag (word m (d + 8)) 4 = b6
  cases b6
  · by_cases hc : code = 0
    · subst hc
      cases b5 <;> rfl
    · rw [if_neg hc, if_neg hc]
      dsimp only
      rw [bne_iff_ne.2 hc]; rfl
  · cases inner <;> cases b5 <;> cases b2 <;> cases b1 <;> cases b3 <;> cases b4 <;> rfl
theorem inB_app {m : ByteArray} {bs : List Buf} {x y : Int} {w : Bool} (h : ∀ b ∈ bs, inB m.size b.1 b.2.1 = true) (c : bufCode m bs x y w = 0) : ∀ b ∈ bs ++ [(x, y, w)], inB m.size b.1 b.2.1 = true := fun b hb => by
  rcases List.mem_append.1 hb with hb | hb
  · exact h b hb
  · rw [List.mem_singleton] at hb
    subst hb
    unfold bufCode at c
    cases hi : inB m.size x y with
    | true => rfl
    | false => rw [hi] at c; simp at c
/-- Both walk the same chain. -/
theorem chain_loop (m : ByteArray) (hm : m.size ≤ 65536) : ∀ (μ n1 n2 : Nat) (table size : Int) (inner : Bool) (at_ steps z z' : Int) (bs : List Buf),
    μ ≤ n1 → μ ≤ n2 → 0 ≤ at_ → 0 ≤ steps → steps ≤ size → size ≤ 16 → 0 ≤ table → table + 16 * size ≤ m.size →
    (if inner = true then 0 else 17) + (size - steps) < (μ : Int) → (bs.length : Int) ≤ (if inner = true then 16 else 0) + steps → (∀ b ∈ bs, inB m.size b.1 b.2.1 = true) →
    ∃ R : Chain, (R.2.1.length ≤ 40 ∧ ∀ b ∈ R.2.1, inB m.size b.1 b.2.1 = true) ∧ spec_ReadChain_l11 n1 m table size inner at_ steps z 0 bs = some R ∧ impl_yreadChain_l6 n2 m table size at_ steps inner z' bs = some R := by
  intro μ
  induction μ with
  | zero =>
    intro n1 n2 table size inner at_ steps z z' bs h1 h2 ha hs hs' hz ht ht' hmu hb hbs
    exfalso
    split at hmu <;> omega
  | succ μ ih =>
    intro n1 n2 table size inner at_ steps z z' bs h1 h2 ha hs hs' hz ht ht' hmu hb hbs
    obtain ⟨n1, rfl⟩ : ∃ q, n1 = q + 1 := ⟨n1 - 1, by omega⟩
    obtain ⟨n2, rfl⟩ : ∃ q, n2 = q + 1 := ⟨n2 - 1, by omega⟩
    have hb' : bs.length ≤ 1000 := by split at hb <;> omega
    show ∃ R : Chain, (R.2.1.length ≤ 40 ∧ ∀ b ∈ R.2.1, inB m.size b.1 b.2.1 = true) ∧ spec_ReadChain_l11_step (spec_ReadChain_l11 n1) m table size inner at_ steps z 0 bs = some R ∧ impl_yreadChain_l6_step (impl_yreadChain_l6 n2) m table size at_ steps inner z' bs = some R
    rw [spec_stp _ m table size inner at_ steps z bs hm ha hs hs' hz ht ht' hb', impl_stp _ m table size inner at_ steps z' bs hm ha hs hs' hz ht ht' hb']
    unfold stp
    dsimp only
    by_cases c1 : at_ ≥ size
    · simp only [if_pos c1]; exact ⟨_, by simp, rfl, rfl⟩
    by_cases c2 : steps + 1 > size
    · simp only [if_neg c1, if_pos c2]; exact ⟨_, by simp, rfl, rfl⟩
    simp only [if_neg c1, if_neg c2]
    by_cases c3 : flag (word m (table + 16 * at_ + 8)) 4 = true
    · simp only [if_pos c3]
      by_cases c4 : (inner || badTab (word m (table + 16 * at_)) (word m (table + 16 * at_ + 4)) (word m (table + 16 * at_ + 8))) = true
      · simp only [if_pos c4]; exact ⟨_, by simp, rfl, rfl⟩
      simp only [if_neg c4]
      by_cases c5 : inB m.size (word m (table + 16 * at_)) (word m (table + 16 * at_ + 4)) = true
      · simp only [if_pos c5]
        have hin : inner = false := by cases inner <;> simp_all
        subst hin
        have hB := inB_true (by omega) (by omega) c5
        have c7 : 16 ≤ word m (table + 16 * at_ + 4) ∧ word m (table + 16 * at_ + 4) ≤ 256 := by
          by_cases h : 16 ≤ word m (table + 16 * at_ + 4) ∧ word m (table + 16 * at_ + 4) ≤ 256
          · exact h
          · exfalso
            apply c4
            unfold badTab
            rw [decn h]
            simp
        refine ih n1 n2 _ _ true 0 0 z z' bs (by omega) (by omega) (by omega) (by omega) (by omega) (by omega) hB.1 (by omega) ?_ ?_ hbs
        · simp only [if_true, Bool.false_eq_true, if_false] at hmu ⊢
          omega
        · simp only [if_true, Bool.false_eq_true, if_false] at hb ⊢
          omega
      · simp only [if_neg c5]; exact ⟨_, by simp, rfl, rfl⟩
    · simp only [if_neg c3]
      by_cases c4 : bufCode m bs (word m (table + 16 * at_)) (word m (table + 16 * at_ + 4)) (flag (word m (table + 16 * at_ + 8)) 2) = 0
      · simp only [if_pos c4]
        by_cases c5 : flag (word m (table + 16 * at_ + 8)) 1 = true
        · simp only [if_pos c5]
          have r := word_range m (table + 16 * at_ + 12)
          refine ih n1 n2 _ _ inner _ _ z z' _ (by omega) (by omega) r.1 (by omega) (by omega) hz ht ht' ?_ ?_ ?_
          · split at hmu <;> split <;> omega
          · simp only [List.length_append, List.length_cons, List.length_nil]
            split at hb <;> split <;> first | omega | simp_all
          · exact inB_app hbs c4
        · simp only [if_neg c5]
          refine ⟨_, ⟨?_, inB_app hbs c4⟩, rfl, rfl⟩
          simp only [List.length_append, List.length_cons, List.length_nil]
          split at hb <;> omega
      · simp only [if_neg c4]; exact ⟨_, by simp, rfl, rfl⟩
/-- Both read the same, from a right queue. -/
theorem yread_same (m : ByteArray) (s d a u t g head : Int) (hq : queueOk m s d a u t g = true) : ∃ R : Chain, ((R.2.1.length ≤ 40 ∧ ∀ b ∈ R.2.1, inB m.size b.1 b.2.1 = true) ∧ (R.1 = 0 → 0 ≤ head ∧ head < s)) ∧ spec_ReadChain m s d a u t g head = some R ∧ impl_yreadChain m s d a u t g head = some R := by
  obtain ⟨q1, q2, q3, q4, q5, q6, q7, q8, q9, q10, q11, q12, q13, q14⟩ := queue_true hq
  unfold spec_ReadChain impl_yreadChain
  rw [decn (show ¬ (m.size : Int) > 65536 by omega)]
  simp only [cond_false, spec_queue, yin_eq, Option.bind_some, hq]
  have e : wrap64 (s - 1) = s - 1 := wrap_id (by omega) (by omega)
  rw [e]
  clear e
  by_cases hd : 0 ≤ head ∧ head ≤ s - 1
  · rw [decp hd, decn (show ¬ head < 0 by omega), decn (show ¬ head ≥ s by omega)]
    obtain ⟨R, r1, r2, r3⟩ := chain_loop m (by omega) 40 K0 K0 d s false head 0 0 0 [] (by rw [K0_eq]; omega) (by rw [K0_eq]; omega) (by omega) (by omega) (by omega) (by omega) (by omega) (by omega) (by simp; omega) (by simp) (by simp)
    refine ⟨R, ⟨r1, fun _ => by omega⟩, ?_, ?_⟩
    · simp [r2]
    · simp [r3]
  · refine ⟨(1, [], ()), by simp, ?_, ?_⟩
    · by_cases h1 : head < 0
      · rw [decp h1]; simp
      · rw [decn h1, decp (show head ≥ s by omega)]; simp
    · rw [decn hd]; simp
abbrev Taken := Int × Int × List Buf × Int × Int × Int × Int × Int × Int × Unit
/-- What is told of a chain that was taken. -/
def takenOk (m : ByteArray) (s d a u t g : Int) (R : Taken) : Prop := R.2.2.1.length ≤ 40 ∧ (∀ b ∈ R.2.2.1, inB m.size b.1 b.2.1 = true) ∧ (R.1 = 0 → (0 ≤ R.2.1 ∧ R.2.1 < s) ∧ ∃ t', (0 ≤ t' ∧ t' ≤ 65535) ∧ R.2.2.2 = (s, d, a, u, t', g, ()))
/-- Both take the same chain. -/
theorem ytake_same (m : ByteArray) (s d a u t g : Int) (hq : queueOk m s d a u t g = true) : ∃ R : Taken, takenOk m s d a u t g R ∧ spec_TakeChain m s d a u t g = some R ∧ impl_ytakeChain m s d a u t g = some R := by
  obtain ⟨q1, q2, q3, q4, q5, q6, q7, q8, q9, q10, q11, q12, q13, q14⟩ := queue_true hq
  unfold spec_TakeChain impl_ytakeChain
  rw [decn (show ¬ (m.size : Int) > 65536 by omega)]
  simp only [cond_false, spec_queue, Option.bind_some, hq]
  have e4 : wrap64 (a + 4) = a + 4 := wrap_id (by omega) (by omega)
  have r4 := word_range m (a + 4)
  rw [e4, spec_word m (a + 4) (by clear e4; omega) (by clear e4; omega) (by clear e4; omega), impl_word m (a + 4) (by clear e4; omega) (by clear e4; omega) (by clear e4; omega)]
  clear e4
  simp only [Option.bind_some]
  have et : Int.tmod (word m (a + 4)) 65536 = word m (a + 4) % 65536 := Int.tmod_eq_emod_of_nonneg r4.1
  have w1 : wrap64 (word m (a + 4) - t) = word m (a + 4) - t := wrap_id (by clear et; omega) (by clear et; omega)
  have w2 : wrap64 (word m (a + 4) % 65536 - t) = word m (a + 4) % 65536 - t := wrap_id (by clear et w1; omega) (by clear et w1; omega)
  have em : (word m (a + 4) % 65536 - t) % 65536 = (word m (a + 4) - t) % 65536 := by clear et w1 w2; omega
  rw [et, w1, w2, spec_mod _ _ (by decide) (by decide), impl_mod _ _ (by decide) (by decide), em]
  clear et w1 w2 em
  simp only [Option.bind_some]
  generalize (word m (a + 4) - t) % 65536 = n
  have hs0 : (s == 0) = false := beq_false_of_ne (by omega)
  have hmt : Int.tmod t s = t % s := Int.tmod_eq_emod_of_nonneg q11
  have k1 := Int.emod_nonneg t (show s ≠ 0 by omega)
  have k2 := Int.emod_lt_of_pos t (show 0 < s by omega)
  have w3 : wrap64 (4 * (t % s)) = 4 * (t % s) := wrap_id (by omega) (by omega)
  have w4 : wrap64 (a + 8) = a + 8 := wrap_id (by clear w3; omega) (by clear w3; omega)
  have w5 : wrap64 (a + 8 + 4 * (t % s)) = a + 8 + 4 * (t % s) := wrap_id (by clear w3 w4; omega) (by clear w3 w4; omega)
  rw [hmt, w3, w4, w5, hs0]
  clear hmt w3 w4 w5
  rw [spec_word m _ (by omega) (by omega) (by omega), impl_word m _ (by omega) (by omega) (by omega)]
  simp only [Option.bind_some]
  obtain ⟨R, r1, r2, r3⟩ := yread_same m s d a u t g (word m (a + 8 + 4 * (t % s))) hq
  rw [r2, r3]
  by_cases c1 : n = 0
  · exact ⟨(5, 0, [], 0, 0, 0, 0, 0, 0, ()), ⟨by simp, by simp, by simp⟩, by simp [c1], by simp [c1]⟩
  have c1' : (n == 0) = false := beq_false_of_ne c1
  by_cases c2 : n > s
  · exact ⟨(8, 0, [], 0, 0, 0, 0, 0, 0, ()), ⟨by simp, by simp, by simp⟩, by simp [c1', c2], by simp [c1', c2]⟩
  refine ⟨(R.1, word m (a + 8 + 4 * (t % s)), R.2.1, s, d, a, u, Int.tmod (wrap64 (t + 1)) 65536, g, ()), ⟨r1.1.1, r1.1.2, fun h0 => ⟨r1.2 h0, _, ?_, rfl⟩⟩, ?_, ?_⟩
  · rw [wrap_id (x := t + 1) (by omega) (by omega), Int.tmod_eq_emod_of_nonneg (by omega)]
    omega
  · simp [c1', c2]
  · simp [c1', c2]
/-- A walk over a row that may end early. -/
def foldE {α S E : Type} (st : S → α → E ⊕ S) : List α → S → E ⊕ S
  | [], s => .inr s
  | x :: l, s => match st s x with
    | .inl e => .inl e
    | .inr s => foldE st l s
theorem foldE_loop {α S E R : Type} (F : Nat → Nat → S → Option R) (l : List α) (st : S → α → E ⊕ S) (ex : E → R) (fin : S → R) (hl : l.length ≤ 9223372036854775807)
    (hF : ∀ (k i : Nat) (s : S) (hi : i < l.length), F (k + 1) i s = match st s l[i] with
      | .inl e => some (ex e)
      | .inr s => F k (i + 1) s)
    (hE : ∀ (k : Nat) (s : S), F (k + 1) l.length s = some (fin s)) (s : S) : F K0 0 s = some (match foldE st l s with
      | .inl e => ex e
      | .inr s => fin s) := by
  have key : ∀ (d k i : Nat) (s : S), i + d = l.length → d < k → F k i s = some (match foldE st (l.drop i) s with
      | .inl e => ex e
      | .inr s => fin s) := by
    intro d
    induction d with
    | zero =>
      intro k i s hi hk
      obtain ⟨k, rfl⟩ : ∃ q, k = q + 1 := ⟨k - 1, by omega⟩
      have : i = l.length := by omega
      subst this
      rw [hE, List.drop_length]
      rfl
    | succ d ih =>
      intro k i s hi hk
      obtain ⟨k, rfl⟩ : ∃ q, k = q + 1 := ⟨k - 1, by omega⟩
      have hlt : i < l.length := by omega
      rw [hF k i s hlt, List.drop_eq_getElem_cons hlt]
      simp only [foldE]
      cases st s l[i] with
      | inl r => rfl
      | inr s' => exact ih k (i + 1) s' (by omega) (by omega)
  have := key l.length K0 0 s (by omega) (by rw [K0_eq]; omega)
  simpa using this
theorem foldE_filter {α S E : Type} (st : S → α → E ⊕ S) (p : α → Bool) : ∀ (l : List α) (s : S), foldE st (l.filter p) s = foldE (fun s x => bif p x then st s x else .inr s) l s
  | [], s => rfl
  | x :: l, s => by
    cases h : p x with
    | false => rw [List.filter_cons_of_neg (by simp [h])]; simp only [foldE, h, cond_false]; exact foldE_filter st p l s
    | true =>
      rw [List.filter_cons_of_pos h]
      simp only [foldE, h, cond_true]
      cases st s x with
      | inl r => rfl
      | inr s' => exact foldE_filter st p l s'
theorem filter_loop {α R : Type} (F : Nat → Nat → List α → Option R) (l : List α) (p : α → Bool) (fin : List α → R) (hl : l.length ≤ 9223372036854775807)
    (hF : ∀ (k i : Nat) (s : List α) (hi : i < l.length), s.length ≤ i → F (k + 1) i s = F k (i + 1) (bif p l[i] then s ++ [l[i]] else s))
    (hE : ∀ (k : Nat) (s : List α), F (k + 1) l.length s = some (fin s)) : F K0 0 [] = some (fin (l.filter p)) := by
  have key : ∀ (d k i : Nat) (s : List α), i + d = l.length → d < k → s.length ≤ i → F k i s = some (fin (s ++ (l.drop i).filter p)) := by
    intro d
    induction d with
    | zero =>
      intro k i s hi hk hs
      obtain ⟨k, rfl⟩ : ∃ q, k = q + 1 := ⟨k - 1, by omega⟩
      have : i = l.length := by omega
      subst this
      rw [hE, List.drop_length]
      simp
    | succ d ih =>
      intro k i s hi hk hs
      obtain ⟨k, rfl⟩ : ∃ q, k = q + 1 := ⟨k - 1, by omega⟩
      have hlt : i < l.length := by omega
      rw [hF k i s hlt hs, List.drop_eq_getElem_cons hlt]
      cases h : p l[i] with
      | true =>
        rw [cond_true, ih k (i + 1) _ (by omega) (by omega) (by simp; omega), List.filter_cons_of_pos h]
        simp
      | false =>
        rw [cond_false, ih k (i + 1) _ (by omega) (by omega) (by omega), List.filter_cons_of_neg (by simp [h])]
  have := key l.length K0 0 [] (by omega) (by rw [K0_eq]; omega) (by simp)
  simpa using this
/-- The first index from i on at which p holds. -/
def findN (p : Nat → Bool) : Nat → Nat → Option Nat
  | 0, _ => none
  | d + 1, i => bif p i then some i else findN p d (i + 1)
theorem find_loop {R : Type} (F : Nat → Nat → Option R) (n : Nat) (p : Nat → Bool) (hit : Nat → R) (miss : R) (hn : n ≤ 9223372036854775807)
    (hF : ∀ (k i : Nat), i < n → F (k + 1) i = bif p i then some (hit i) else F k (i + 1)) (hE : ∀ (k : Nat), F (k + 1) n = some miss) :
    F K0 0 = some (match findN p n 0 with
      | some i => hit i
      | none => miss) := by
  have key : ∀ (d k i : Nat), i + d = n → d < k → F k i = some (match findN p d i with
      | some i => hit i
      | none => miss) := by
    intro d
    induction d with
    | zero =>
      intro k i hi hk
      obtain ⟨k, rfl⟩ : ∃ q, k = q + 1 := ⟨k - 1, by omega⟩
      have : i = n := by omega
      subst this
      rw [hE]
      rfl
    | succ d ih =>
      intro k i hi hk
      obtain ⟨k, rfl⟩ : ∃ q, k = q + 1 := ⟨k - 1, by omega⟩
      rw [hF k i (by omega)]
      simp only [findN]
      cases p i with
      | true => rfl
      | false => exact ih k (i + 1) (by omega) (by omega)
  exact key n K0 0 (by omega) (by rw [K0_eq]; omega)
theorem findN_some {p : Nat → Bool} : ∀ {d i j : Nat}, findN p d i = some j → i ≤ j ∧ j < i + d ∧ p j = true
  | 0, _, _, h => by simp [findN] at h
  | d + 1, i, j, h => by
    simp only [findN] at h
    cases hp : p i with
    | true =>
      rw [hp, cond_true, Option.some.injEq] at h
      subst h
      exact ⟨Nat.le_refl _, by omega, hp⟩
    | false =>
      rw [hp, cond_false] at h
      obtain ⟨h1, h2, h3⟩ := findN_some h
      exact ⟨by omega, by omega, h3⟩
theorem findN_none {p : Nat → Bool} : ∀ {d i : Nat}, findN p d i = none → ∀ j, i ≤ j → j < i + d → p j = false
  | 0, i, _, j, h1, h2 => by omega
  | d + 1, i, h, j, h1, h2 => by
    simp only [findN] at h
    cases hp : p i with
    | true => rw [hp, cond_true] at h; cases h
    | false =>
      rw [hp, cond_false] at h
      by_cases e : j = i
      · rw [e]; exact hp
      · exact findN_none h j (by omega) (by omega)
theorem findN_congr {p q : Nat → Bool} : ∀ {d i : Nat}, (∀ j, i ≤ j → j < i + d → p j = q j) → findN p d i = findN q d i
  | 0, _, _ => rfl
  | d + 1, i, h => by
    simp only [findN]
    rw [h i (Nat.le_refl _) (by omega), findN_congr fun j h1 h2 => h j (by omega) (by omega)]
theorem fold_loop {α S R : Type} (F : Nat → Nat → S → Option R) (l : List α) (f : S → α → S) (fin : S → R) (hl : l.length ≤ 9223372036854775807)
    (hF : ∀ (k i : Nat) (s : S) (hi : i < l.length), F (k + 1) i s = F k (i + 1) (f s l[i])) (hE : ∀ (k : Nat) (s : S), F (k + 1) l.length s = some (fin s)) (s : S) : F K0 0 s = some (fin (l.foldl f s)) := by
  have key : ∀ (d k i : Nat) (s : S), i + d = l.length → d < k → F k i s = some (fin ((l.drop i).foldl f s)) := by
    intro d
    induction d with
    | zero =>
      intro k i s hi hk
      obtain ⟨k, rfl⟩ : ∃ q, k = q + 1 := ⟨k - 1, by omega⟩
      have : i = l.length := by omega
      subst this
      rw [hE, List.drop_length]
      rfl
    | succ d ih =>
      intro k i s hi hk
      obtain ⟨k, rfl⟩ : ∃ q, k = q + 1 := ⟨k - 1, by omega⟩
      have hlt : i < l.length := by omega
      rw [hF k i s hlt, List.drop_eq_getElem_cons hlt, List.foldl_cons]
      exact ih k (i + 1) _ (by omega) (by omega)
  have := key l.length K0 0 s (by omega) (by rw [K0_eq]; omega)
  simpa using this
theorem findN_or (p q : Nat → Bool) : ∀ (d i : Nat), (findN (fun i => p i || q i) d i).isNone = ((findN p d i).isNone && (findN q d i).isNone)
  | 0, _ => rfl
  | d + 1, i => by
    simp only [findN]
    have ih := findN_or p q d (i + 1)
    cases p i with
    | true => rfl
    | false =>
      cases q i with
      | true => simp
      | false => exact ih
/-- A number's four bytes. -/
def wb (n : Int) : ByteArray := b2s [IntKind.u8.wrap (n % 4294967296), IntKind.u8.wrap (shr .i64 (n % 4294967296) 8), IntKind.u8.wrap (shr .i64 (n % 4294967296) 16), IntKind.u8.wrap (shr .i64 (n % 4294967296) 24)]
theorem wb_size (n : Int) : (wb n).size = 4 := rfl
theorem u32_mod (n : Int) : IntKind.u32.wrap n = n % 4294967296 := by
  unfold IntKind.wrap
  simp [IntKind.signed, IntKind.bits]
theorem impl_putWord (n : Int) : impl_PutWord n = some (wb n, ()) := by
  unfold impl_PutWord wb
  rw [u32_mod]
  rfl
theorem spec_putWord (n : Int) : spec_PutWord n = some (wb n, ()) := by
  unfold spec_PutWord spec_Word wb
  rw [spec_mod _ _ (by decide) (by decide)]
  rfl
theorem joins_ok {x y : ByteArray} (h : x.size + y.size ≤ 9223372036854775807) : joins x y = true := by
  unfold joins; rw [S0_eq]; simp; omega
/-- A number put into memory. -/
def put (m : ByteArray) (a n : Int) : ByteArray := m.extract 0 a.toNat ++ wb n ++ m.extract (a + 4).toNat m.size
theorem put_size (m : ByteArray) (a n : Int) (h0 : 0 ≤ a) (h1 : a + 4 ≤ m.size) : (put m a n).size = m.size := by
  unfold put
  simp only [ByteArray.size_append, ByteArray.size_extract, wb_size]
  omega
theorem impl_splice4 (m : ByteArray) (a n : Int) (hm : m.size ≤ 65536) (h0 : 0 ≤ a) (h1 : a + 4 ≤ m.size) : impl_ysplice m a (wb n) = some (put m a n, ()) := by
  unfold impl_ysplice put
  have e : wrap64 (a + ((wb n).size : Int)) = a + 4 := by rw [wb_size]; exact wrap_id (by omega) (by omega)
  simp only [e]
  rw [decp h0, decp (show a ≤ (m.size : Int) by omega), decp (show 0 ≤ a + 4 by omega), decp (show a + 4 ≤ (m.size : Int) by omega), joins_ok (by simp only [ByteArray.size_extract, wb_size]; omega), joins_ok (by simp only [ByteArray.size_append, ByteArray.size_extract, wb_size]; omega)]
  rfl
theorem spec_setWord (m : ByteArray) (a n : Int) (hm : m.size ≤ 65536) (h0 : 0 ≤ a) (h1 : a + 4 ≤ m.size) : spec_SetWord m a n = some (put m a n, ()) := by
  unfold spec_SetWord spec_GetWord put
  have e : wrap64 ((m.size : Int) - 4) = m.size - 4 := wrap_id (by omega) (by omega)
  have e4 : wrap64 (a + 4) = a + 4 := wrap_id (by clear e; omega) (by clear e; omega)
  simp only [e, e4]
  clear e e4
  rw [decn (show ¬ (m.size : Int) > 65536 by omega), decn (show ¬ a < 0 by omega), decn (show ¬ a > (m.size : Int) - 4 by omega), spec_word m a (by omega) h0 h1]
  simp only [Bool.or_false, cond_false, Option.bind_some, Bool.not_true, spec_putWord]
  rw [decp h0, decp (show a ≤ (m.size : Int) by omega), decp (show 0 ≤ a + 4 by omega), decp (show a + 4 ≤ (m.size : Int) by omega), joins_ok (by simp only [ByteArray.size_extract, wb_size]; omega), joins_ok (by simp only [ByteArray.size_append, ByteArray.size_extract, wb_size]; omega)]
  rfl
theorem impl_yset1 (m : ByteArray) (a n : Int) (hm : m.size ≤ 65536) (h0 : 0 ≤ a) (h1 : a + 4 ≤ m.size) : impl_yset m a [n] = some (put m a n, ()) := by
  obtain ⟨k, hk⟩ := K0_ge (n := 2) (by decide)
  have w0 : wrap64 (a + wrap64 ((4 : Int) * 0)) = a := by rw [wrap_id (x := (4 : Int) * 0) (by decide) (by decide), wrap_id (by omega) (by omega)]; omega
  have v0 : wrap64 (0 + 1) = 1 := wrap_id (by decide) (by decide)
  unfold impl_yset
  rw [hk]
  simp only [impl_yset_l2, impl_yset_l2_step, w0, v0, impl_putWord, Option.bind_some, impl_splice4 m a _ hm h0 h1, show rd (.int .i64) [n] 0 = n from rfl]
  simp (config := {decide := true})
theorem impl_yset2 (m : ByteArray) (a x y : Int) (hm : m.size ≤ 65536) (h0 : 0 ≤ a) (h1 : a + 8 ≤ m.size) : impl_yset m a [x, y] = some (put (put m a x) (a + 4) y, ()) := by
  obtain ⟨k, hk⟩ := K0_ge (n := 3) (by decide)
  have w0 : wrap64 (a + wrap64 ((4 : Int) * 0)) = a := by rw [wrap_id (x := (4 : Int) * 0) (by decide) (by decide), wrap_id (by omega) (by omega)]; omega
  have w1 : wrap64 (a + wrap64 ((4 : Int) * 1)) = a + 4 := by clear w0; rw [wrap_id (x := (4 : Int) * 1) (by decide) (by decide), wrap_id (by omega) (by omega)]; omega
  have v0 : wrap64 (0 + 1) = 1 := wrap_id (by decide) (by decide)
  have v1 : wrap64 (1 + 1) = 2 := wrap_id (by decide) (by decide)
  have hp : (put m a x).size = m.size := put_size m a x h0 (by clear w0 w1 v0 v1; omega)
  have s1 := impl_splice4 m a x hm h0 (by clear w0 w1 v0 v1; omega)
  have s2 := impl_splice4 (put m a x) (a + 4) y (by clear w0 w1 v0 v1; omega) (by clear w0 w1 v0 v1; omega) (by clear w0 w1 v0 v1; omega)
  unfold impl_yset
  rw [hk]
  simp only [impl_yset_l2, impl_yset_l2_step, w0, w1, v0, v1, impl_putWord, Option.bind_some, s1, s2, show rd (.int .i64) [x, y] 0 = x from rfl, show rd (.int .i64) [x, y] 1 = y from rfl]
  simp (config := {decide := true})
abbrev Given := Int × ByteArray × Int × Int × Int × Int × Int × Int × Bool × Unit
/-- Both give back the same, into a right queue. -/
theorem ygive_same (m : ByteArray) (s d a u t g head size : Int) (hq : queueOk m s d a u t g = true) (hh : 0 ≤ head ∧ head < s) (hz : 0 ≤ size ∧ size < 4294967296) : ∃ R : Given, spec_GiveChain m s d a u t g head size = some R ∧ impl_ygiveChain m s d a u t g head size = some R := by
  obtain ⟨q1, q2, q3, q4, q5, q6, q7, q8, q9, q10, q11, q12, q13, q14⟩ := queue_true hq
  unfold spec_GiveChain impl_ygiveChain spec_l01IsWord
  rw [decn (show ¬ (m.size : Int) > 65536 by omega)]
  simp only [cond_false, spec_queue, hq, if_true, Option.bind_some, Option.getD_some, Option.isSome_some, Bool.or_true, cond_true]
  rw [decn (show ¬ head < 0 by omega), decn (show ¬ head ≥ s by omega), decp (show size ≥ 0 by omega), decp (show size < 4294967296 by omega)]
  have hmt : Int.tmod g s = g % s := Int.tmod_eq_emod_of_nonneg q13
  have k1 := Int.emod_nonneg g (show s ≠ 0 by omega)
  have k2 := Int.emod_lt_of_pos g (show 0 < s by omega)
  rw [hmt]
  clear hmt
  generalize g % s = x at k1 k2
  have e1 : wrap64 (u + 8) = u + 8 := wrap_id (by omega) (by omega)
  have e2 : wrap64 ((8 : Int) * x) = 8 * x := wrap_id (by clear e1; omega) (by clear e1; omega)
  have e3 : wrap64 (u + 8 + 8 * x) = u + 8 + 8 * x := wrap_id (by clear e1 e2; omega) (by clear e1 e2; omega)
  have e4 : wrap64 (u + 8 + 8 * x + 4) = u + 8 + 8 * x + 4 := wrap_id (by clear e1 e2 e3; omega) (by clear e1 e2 e3; omega)
  have e5 : wrap64 (u + 4) = u + 4 := wrap_id (by clear e1 e2 e3 e4; omega) (by clear e1 e2 e3 e4; omega)
  rw [e1, e2, e3, e4, e5]
  clear e1 e2 e3 e4 e5
  have hs0 : (s == 0) = false := beq_false_of_ne (by omega)
  have p1 := put_size m (u + 8 + 8 * x) head (by omega) (by omega)
  have p2 := put_size (put m (u + 8 + 8 * x) head) (u + 8 + 8 * x + 4) size (by omega) (by omega)
  generalize Int.tmod (wrap64 (g + 1)) 65536 = n
  have p3 := put_size (put (put m (u + 8 + 8 * x) head) (u + 8 + 8 * x + 4) size) (u + 4) n (by omega) (by omega)
  rw [spec_setWord m (u + 8 + 8 * x) head (by omega) (by omega) (by omega), impl_yset2 m (u + 8 + 8 * x) head size (by omega) (by omega) (by omega), hs0]
  simp only [Option.bind_some]
  rw [spec_setWord (put m (u + 8 + 8 * x) head) (u + 8 + 8 * x + 4) size (by omega) (by omega) (by omega)]
  simp only [Option.bind_some]
  rw [spec_setWord (put (put m (u + 8 + 8 * x) head) (u + 8 + 8 * x + 4) size) (u + 4) n (by omega) (by omega) (by omega), impl_yset1 (put (put m (u + 8 + 8 * x) head) (u + 8 + 8 * x + 4) size) (u + 4) n (by omega) (by omega) (by omega)]
  simp only [Option.bind_some]
  generalize put (put (put m (u + 8 + 8 * x) head) (u + 8 + 8 * x + 4) size) (u + 4) n = m1 at p3
  rw [spec_word m1 a (by omega) (by omega) (by omega), impl_word m1 a (by omega) (by omega) (by omega)]
  simp only [Option.bind_some]
  have w := word_range m1 a
  have hb : (Go.Ab.bits .and .i64 (word m1 a) 1 == 0) = (Int.tmod (word m1 a) 2 == 0) := by
    rw [show (1 : Int) = 2 ^ 1 - 1 from rfl, and_mask 1 (by decide) (word m1 a) w.1 (by omega), Int.tmod_eq_emod_of_nonneg w.1]
    rfl
  rw [hb]
  exact ⟨_, rfl, rfl⟩
theorem queueOk_move {m m' : ByteArray} (hm : m'.size = m.size) {s d a u t g t' : Int} (h : queueOk m s d a u t g = true) (ht : 0 ≤ t' ∧ t' ≤ 65535) : queueOk m' s d a u t' g = true := by
  unfold queueOk memOk at h ⊢
  rw [hm]
  simp only [Bool.and_eq_true, decide_eq_true_eq] at h ⊢
  exact ⟨⟨h.1.1, ht⟩, h.2⟩
theorem fold_loop_inv {α S R : Type} (F : Nat → Nat → S → Option R) (l : List α) (f : S → α → S) (fin : S → R) (I : S → Prop) (hl : l.length ≤ 9223372036854775807)
    (hF : ∀ (k i : Nat) (s : S) (hi : i < l.length), I s → I (f s l[i]) ∧ F (k + 1) i s = F k (i + 1) (f s l[i])) (hE : ∀ (k : Nat) (s : S), I s → F (k + 1) l.length s = some (fin s)) (s : S) (hs : I s) : I (l.foldl f s) ∧ F K0 0 s = some (fin (l.foldl f s)) := by
  have key : ∀ (d k i : Nat) (s : S), i + d = l.length → d < k → I s → I ((l.drop i).foldl f s) ∧ F k i s = some (fin ((l.drop i).foldl f s)) := by
    intro d
    induction d with
    | zero =>
      intro k i s hi hk hs
      obtain ⟨k, rfl⟩ : ∃ q, k = q + 1 := ⟨k - 1, by omega⟩
      have : i = l.length := by omega
      subst this
      rw [hE k s hs, List.drop_length]
      exact ⟨hs, rfl⟩
    | succ d ih =>
      intro k i s hi hk hs
      obtain ⟨k, rfl⟩ : ∃ q, k = q + 1 := ⟨k - 1, by omega⟩
      have hlt : i < l.length := by omega
      obtain ⟨h1, h2⟩ := hF k i s hlt hs
      rw [h2, List.drop_eq_getElem_cons hlt, List.foldl_cons]
      exact ih k (i + 1) _ (by omega) (by omega) h1
  have := key l.length K0 0 s (by omega) (by rw [K0_eq]; omega) hs
  simpa using this
theorem s2b_len (m : ByteArray) : (s2b m).length = m.size := by unfold s2b; simp
theorem s2b_app (a b : ByteArray) : s2b (a ++ b) = s2b a ++ s2b b := by unfold s2b; simp
theorem s2b_ext (m : ByteArray) (i j : Nat) : s2b (m.extract i j) = ((s2b m).drop i).take (j - i) := by
  unfold s2b
  simp [List.map_take, List.map_drop]
theorem b2s_s2b (m : ByteArray) : b2s (s2b m) = m := by
  unfold b2s s2b
  have : (fun n : Int => UInt8.ofNat n.toNat) ∘ (fun b : UInt8 => (b.toNat : Int)) = id := by funext b; simp
  rw [List.map_map, this, List.map_id]
theorem s2b_inj {a b : ByteArray} (h : s2b a = s2b b) : a = b := by rw [← b2s_s2b a, h, b2s_s2b]
/-- A text over a place of memory. -/
def over (m : ByteArray) (a : Int) (d : ByteArray) (n : Nat) : ByteArray := m.extract 0 a.toNat ++ d.extract 0 n ++ m.extract (a + n).toNat m.size
def spreadSt (s : ByteArray × ByteArray) (x : Buf) : ByteArray × ByteArray := bif !x.2.2 then s else (over s.1 x.1 s.2 (min s.2.size x.2.1.toNat), s.2.extract (min s.2.size x.2.1.toNat) s.2.size)
theorem over_size (m : ByteArray) (a : Int) (d : ByteArray) (n : Nat) (h0 : 0 ≤ a) (h1 : a + n ≤ m.size) (h2 : n ≤ d.size) : (over m a d n).size = m.size := by
  unfold over
  simp only [ByteArray.size_append, ByteArray.size_extract]
  omega
theorem spec_spread (M : Nat) (hM : M ≤ 65536) (m : ByteArray) (l : List Buf) (d : ByteArray) (hm : m.size = M) (hl : l.length ≤ 40) (hd : d.size ≤ 65536) (hmem : memOk m = true) (hb : ∀ b ∈ l, inB M b.1 b.2.1 = true) :
    ((l.foldl spreadSt (m, d)).1.size = M) ∧ spec_SpreadBufs m l d = some ((l.foldl spreadSt (m, d)).1, ()) := by
  have hbufs : spec_l10Bufs m l = some (true, ()) := by
    unfold spec_l10Bufs
    rw [spec_memOk, hmem]
    have e : spec_l10Bufs_l4 K0 m l 0 = _ := find_loop (fun k i => spec_l10Bufs_l4 k m l (i : Int)) l.length (fun _ => false) (fun _ => Sum.inl (false, ())) (Sum.inr ()) (by omega) (by
      intro k i hi
      show spec_l10Bufs_l4_step (spec_l10Bufs_l4 k) m l (i : Int) = _
      unfold spec_l10Bufs_l4_step
      have h := hb _ (List.getElem_mem hi)
      simp only [decp (show (i : Int) < (l.length : Int) by omega), decp (show (0 : Int) ≤ (i : Int) by omega), rd_at R1 l i hi, spec_in, hm, h, Option.bind_some, Bool.and_true, Bool.not_true, cond_true, cond_false, wrap_i i l.length hi (by omega)]) (by
      intro k
      show spec_l10Bufs_l4_step (spec_l10Bufs_l4 k) m l (l.length : Int) = _
      unfold spec_l10Bufs_l4_step
      simp only [decn (show ¬ (l.length : Int) < (l.length : Int) by omega), cond_false])
    have hn : findN (fun _ => false) l.length 0 = none := by
      cases hf : findN (fun _ => false) l.length 0 with
      | none => rfl
      | some j => have := (findN_some hf).2.2; cases this
    simp only [if_true, Option.bind_some, decn (show ¬ (l.length : Int) > 1000 by omega), e, hn]
    rfl
  have h := fold_loop_inv (fun k i s => spec_SpreadBufs_l4 k s.1 l s.2 (i : Int)) l spreadSt (fun s => (s.1, ())) (fun s => s.1.size = M ∧ s.2.size ≤ 65536) (by omega) (by
    intro k i s hi ⟨hs1, hs2⟩
    have hx := inB_true (by omega) (by omega) (hb _ (List.getElem_mem hi))
    show _ ∧ spec_SpreadBufs_l4_step (spec_SpreadBufs_l4 k) s.1 l s.2 (i : Int) = _
    unfold spec_SpreadBufs_l4_step spreadSt
    simp only [decp (show (i : Int) < (l.length : Int) by omega), decp (show (0 : Int) ≤ (i : Int) by omega), rd_at R1 l i hi, Bool.and_true, cond_true, wrap_i i l.length hi (by omega)]
    generalize l[i] = x at hx
    cases x.2.2 with
    | false => exact ⟨⟨hs1, hs2⟩, rfl⟩
    | true =>
      simp only [Bool.not_true, cond_false]
      have hmin : spec_l01Min x.2.1 (s.2.size : Int) = some (((min s.2.size x.2.1.toNat : Nat) : Int), ()) := by
        unfold spec_l01Min
        by_cases c : x.2.1 < (s.2.size : Int)
        · rw [decp c, cond_true]; congr 2; omega
        · rw [decn c, cond_false]; congr 2; omega
      rw [hmin]
      have hn : min s.2.size x.2.1.toNat ≤ s.2.size := Nat.min_le_left _ _
      have hn2 : ((min s.2.size x.2.1.toNat : Nat) : Int) ≤ x.2.1 := by omega
      generalize min s.2.size x.2.1.toNat = n at hn hn2
      refine ⟨⟨?_, ?_⟩, ?_⟩
      · have := over_size s.1 x.1 s.2 n (by omega) (by omega) hn
        simp only [this, hs1]
      · simp only [ByteArray.size_extract]; omega
      · have hw : wrap64 (x.1 + (n : Int)) = x.1 + n := wrap_id (by omega) (by omega)
        simp only [Option.bind_some, hw, Int.toNat_natCast]
        clear hw
        rw [decp (show 0 ≤ x.1 by omega), decp (show x.1 ≤ (s.1.size : Int) by omega), decp (show 0 ≤ (n : Int) by omega), decp (show (n : Int) ≤ (s.2.size : Int) by omega), decp (show 0 ≤ x.1 + (n : Int) by omega), decp (show x.1 + (n : Int) ≤ (s.1.size : Int) by omega),
          joins_ok (by simp only [ByteArray.size_extract]; omega), joins_ok (by simp only [ByteArray.size_append, ByteArray.size_extract]; omega)]
        rfl) (by
    intro k s _
    show spec_SpreadBufs_l4_step (spec_SpreadBufs_l4 k) s.1 l s.2 (l.length : Int) = _
    unfold spec_SpreadBufs_l4_step
    simp only [decn (show ¬ (l.length : Int) < (l.length : Int) by omega), cond_false]) (m, d) ⟨hm, hd⟩
  refine ⟨h.1.1, ?_⟩
  unfold spec_SpreadBufs
  simp only [hbufs, decn (show ¬ (d.size : Int) > 65536 by omega), Option.getD_some, Option.isSome_some, Bool.or_true, Bool.not_true, Bool.or_false, cond_true, cond_false]
  have h2 : spec_SpreadBufs_l4 K0 m l d 0 = _ := h.2
  rw [h2]
  rfl
theorem impl_spread (M : Nat) (hM : M ≤ 65536) (m : ByteArray) (l : List Buf) (d : ByteArray) (hm : m.size = M) (hl : l.length ≤ 40) (hd : d.size ≤ 65536) (hb : ∀ b ∈ l, inB M b.1 b.2.1 = true) : impl_yspread m l 0 d = some ((l.foldl spreadSt (m, d)).1, ()) := by
  have h := fold_loop_inv (fun k i s => impl_yspread_l3 k 0 s.2 l (l.length : Int) (i : Int) (s2b s.1)) l spreadSt (fun s => (s2b s.1, ())) (fun s => s.1.size = M ∧ s.2.size ≤ 65536) (by omega) (by
    intro k i s hi ⟨hs1, hs2⟩
    have hx := inB_true (by omega) (by omega) (hb _ (List.getElem_mem hi))
    show _ ∧ impl_yspread_l3_step (impl_yspread_l3 k) 0 s.2 l (l.length : Int) (i : Int) (s2b s.1) = _
    unfold impl_yspread_l3_step spreadSt
    simp only [decp (show (i : Int) < (l.length : Int) by omega), decp (show (0 : Int) ≤ (i : Int) by omega), rd_at R1 l i hi, Bool.and_true, cond_true, wrap_i i l.length hi (by omega)]
    generalize l[i] = x at hx
    cases x.2.2 with
    | false => exact ⟨⟨hs1, hs2⟩, rfl⟩
    | true =>
      simp only [Bool.not_true, cond_false]
      have hn : min s.2.size x.2.1.toNat ≤ s.2.size := Nat.min_le_left _ _
      have hn2 : ((min s.2.size x.2.1.toNat : Nat) : Int) ≤ x.2.1 := by omega
      refine ⟨⟨?_, ?_⟩, ?_⟩
      · have := over_size s.1 x.1 s.2 (min s.2.size x.2.1.toNat) (by omega) (by omega) hn
        simp only [this, hs1]
      · simp only [ByteArray.size_extract]; omega
      · by_cases c : (0 : Int) ≥ x.2.1
        · have hz : x.2.1 = 0 := by omega
          rw [decp c, cond_true, hz]
          have e1 : over s.1 x.1 s.2 (min s.2.size (0 : Int).toNat) = s.1 := s2b_inj (by
            unfold over
            rw [show min s.2.size (0 : Int).toNat = 0 by simp, s2b_app, s2b_app, s2b_ext, s2b_ext, s2b_ext]
            simp only [Int.ofNat_zero, Int.add_zero, Nat.sub_zero, List.drop_zero, Nat.sub_self, List.take_zero, List.append_nil, Int.natCast_zero]
            rw [List.take_of_length_le (l := (s2b s.1).drop x.1.toNat) (by rw [List.length_drop, s2b_len]; omega), List.take_append_drop])
          have e2 : s.2.extract (min s.2.size (0 : Int).toNat) s.2.size = s.2 := s2b_inj (by
            rw [s2b_ext, show min s.2.size (0 : Int).toNat = 0 by simp, List.drop_zero, List.take_of_length_le (by rw [s2b_len]; omega)])
          rw [e1, e2, show wrap64 ((0 : Int) - 0) = 0 from wrap_id (by decide) (by decide)]
        · rw [decn c, cond_false]
          have w1 : wrap64 (x.1 + 0) = x.1 := wrap_id (by omega) (by omega) |>.trans (by omega)
          have w2 : wrap64 (x.1 + x.2.1) = x.1 + x.2.1 := wrap_id (by clear w1; omega) (by clear w1; omega)
          simp only [w1, w2]
          clear w1 w2
          have hN : min (s2b s.2).length (x.1 + x.2.1 - x.1).toNat = min s.2.size x.2.1.toNat := by rw [s2b_len, show x.1 + x.2.1 - x.1 = x.2.1 by omega]
          rw [hN, show x.1 + x.2.1 - x.1 = x.2.1 by omega]
          have e3 : (s2b s.1).take x.1.toNat ++ (s2b s.2).take x.2.1.toNat ++ (s2b s.1).drop (x.1.toNat + min s.2.size x.2.1.toNat) = s2b (over s.1 x.1 s.2 (min s.2.size x.2.1.toNat)) := by
            unfold over
            rw [s2b_app, s2b_app, s2b_ext, s2b_ext, s2b_ext]
            simp only [Nat.sub_zero, List.drop_zero]
            rw [show (s2b s.2).take x.2.1.toNat = (s2b s.2).take (min s.2.size x.2.1.toNat) by
              rw [List.take_eq_take_iff, s2b_len]; omega]
            rw [show (x.1 + ((min s.2.size x.2.1.toNat : Nat) : Int)).toNat = x.1.toNat + min s.2.size x.2.1.toNat by omega, List.take_of_length_le (l := (s2b s.1).drop (x.1.toNat + min s.2.size x.2.1.toNat)) (by rw [List.length_drop, s2b_len]; omega)]
          rw [e3, s2b_len]
          generalize min s.2.size x.2.1.toNat = n at hn hn2
          rw [decp (show 0 ≤ x.1 + x.2.1 by omega), decp (show x.1 + x.2.1 ≤ (s.1.size : Int) by omega), decp (show 0 ≤ x.1 by omega), decp (show x.1 ≤ x.1 + x.2.1 by omega), decp (show 0 ≤ (n : Int) by omega), decp (show (n : Int) ≤ (s.2.size : Int) by omega)]
          rfl) (by
    intro k s _
    show impl_yspread_l3_step (impl_yspread_l3 k) 0 s.2 l (l.length : Int) (l.length : Int) (s2b s.1) = _
    unfold impl_yspread_l3_step
    simp only [decn (show ¬ (l.length : Int) < (l.length : Int) by omega), cond_false]) (m, d) ⟨hm, hd⟩
  unfold impl_yspread
  have h2 : impl_yspread_l3 K0 0 d l (l.length : Int) 0 (s2b m) = _ := h.2
  rw [h2]
  simp only [Option.bind_some, b2s_s2b]
def roomSt (s : Int) (x : Buf) : Int := bif x.2.2 then wrap64 (s + x.2.1) else s
theorem spec_room (l : List Buf) (hl : l.length ≤ 1048576) : spec_l11Room l = some (l.foldl roomSt 0, ()) := by
  unfold spec_l11Room
  have e : spec_l11Room_l3 K0 l 0 0 = _ := fold_loop (fun k i s => spec_l11Room_l3 k l s (i : Int)) l roomSt (fun s => (s, ())) (by omega) (by
    intro k i s hi
    show spec_l11Room_l3_step (spec_l11Room_l3 k) l s (i : Int) = _
    unfold spec_l11Room_l3_step
    simp only [decp (show (i : Int) < (l.length : Int) by omega), decp (show (0 : Int) ≤ (i : Int) by omega), rd_at R1 l i hi, Bool.and_true, Bool.or_true, cond_true, Bool.cond_self, wrap_i i l.length hi (by omega)]
    rfl) (by
    intro k s
    show spec_l11Room_l3_step (spec_l11Room_l3 k) l s (l.length : Int) = _
    unfold spec_l11Room_l3_step
    simp only [decn (show ¬ (l.length : Int) < (l.length : Int) by omega), cond_false]) 0
  rw [e]
  rfl
theorem impl_room (l : List Buf) (hl : l.length ≤ 1048576) : impl_ysize l true = some (l.foldl roomSt 0, ()) := by
  unfold impl_ysize
  have e : impl_ysize_l3 K0 true 0 l (l.length : Int) 0 = _ := fold_loop (fun k i s => impl_ysize_l3 k true s l (l.length : Int) (i : Int)) l roomSt (fun s => (s, ())) (by omega) (by
    intro k i s hi
    show impl_ysize_l3_step (impl_ysize_l3 k) true s l (l.length : Int) (i : Int) = _
    unfold impl_ysize_l3_step roomSt
    simp only [decp (show (i : Int) < (l.length : Int) by omega), decp (show (0 : Int) ≤ (i : Int) by omega), rd_at R1 l i hi, Bool.and_true, cond_true, Bool.cond_self, wrap_i i l.length hi (by omega)]
    cases l[i].2.2 <;> rfl) (by
    intro k s
    show impl_ysize_l3_step (impl_ysize_l3 k) true s l (l.length : Int) (l.length : Int) = _
    unfold impl_ysize_l3_step
    simp only [decn (show ¬ (l.length : Int) < (l.length : Int) by omega), cond_false]) 0
  rw [e]
  rfl
theorem impl_big2 (m f : ByteArray) : impl_ybig [m, f] = some (decide ((f.size : Int) > 65536) || decide ((m.size : Int) > 65536), ()) := by
  obtain ⟨k, hk⟩ := K0_ge (n := 3) (by decide)
  unfold impl_ybig
  rw [hk]
  simp only [impl_ybig_l2, impl_ybig_l2_step, rd, wrap64]
  by_cases h : (m.size : Int) > 65536 <;> by_cases h2 : (f.size : Int) > 65536 <;> simp (config := {decide := true}) [h, h2]
theorem served_self (c : Int) (m : ByteArray) (s d a u t g : Int) (k : ByteArray) (n : Int) (w : Bool) : laws_eqServed c m s d a u t g k n w c m s d a u t g k n w = some (true, ()) := by
  unfold laws_eqServed laws_eqQueue
  simp [seq_self]
theorem FnExactReceiveFrame : laws_FnExactReceiveFrame.Pure := by
  intro m q f hm hq hf
  unfold laws_FnExactReceiveFrame laws_toQueue
  dsimp only [Option.bind_some]
  have key : ∃ R, spec_ReceiveFrame m q.1 q.2.1 q.2.2.1 q.2.2.2.1 q.2.2.2.2.1 q.2.2.2.2.2 f = some R ∧ impl_ReceiveFrame m q.1 q.2.1 q.2.2.1 q.2.2.2.1 q.2.2.2.2.1 q.2.2.2.2.2 f = some R := by
    unfold spec_ReceiveFrame impl_ReceiveFrame
    rw [impl_big2]
    simp only [Option.bind_some]
    by_cases hb : (f.size : Int) > 65536 ∨ (m.size : Int) > 65536
    · have hb' : (decide ((f.size : Int) > 65536) || decide ((m.size : Int) > 65536)) = true := by simpa using hb
      rw [hb']
      exact ⟨_, rfl, rfl⟩
    have hb' : (decide ((f.size : Int) > 65536) || decide ((m.size : Int) > 65536)) = false := by
      simp only [Bool.or_eq_false_iff, decide_eq_false_iff_not]; omega
    rw [hb']
    simp only [cond_false, spec_queue, impl_queue, Option.bind_some]
    cases hqk : queueOk m q.1 q.2.1 q.2.2.1 q.2.2.2.1 q.2.2.2.2.1 q.2.2.2.2.2 with
    | false => exact ⟨_, rfl, rfl⟩
    | true =>
      by_cases hsz : (f.size : Int) > 1500
      · rw [decp hsz]; exact ⟨_, rfl, rfl⟩
      rw [decn hsz]
      obtain ⟨R, ⟨r1, r2, r3⟩, r4, r5⟩ := ytake_same m q.1 q.2.1 q.2.2.1 q.2.2.2.1 q.2.2.2.2.1 q.2.2.2.2.2 hqk
      rw [r4, r5]
      simp only [if_true, bne_self_eq_false, Bool.or_false, cond_false, Option.bind_some]
      by_cases hc : R.1 = 0
      · have hc' : (R.1 != 0) = false := by rw [hc]; rfl
        rw [hc', spec_room _ (by omega), impl_room _ (by omega)]
        simp only [cond_false, Option.bind_some]
        cases decide (R.2.2.1.foldl roomSt 0 < (f.size : Int)) with
        | true => exact ⟨_, rfl, rfl⟩
        | false =>
          obtain ⟨h1, t', h2, h3⟩ := r3 hc
          have hq2 := queue_true hqk
          have hmem : memOk m = true := by unfold queueOk at hqk; simp only [Bool.and_eq_true] at hqk; exact hqk.1.1.1.1.1.1
          obtain ⟨s1, s2⟩ := spec_spread m.size (by omega) m R.2.2.1 f rfl r1 (by omega) hmem r2
          have s3 := impl_spread m.size (by omega) m R.2.2.1 f rfl r1 (by omega) r2
          rw [s2, s3]
          simp only [cond_false, Option.bind_some]
          generalize (R.2.2.1.foldl spreadSt (m, f)).1 = m1 at s1
          obtain ⟨G, g1, g2⟩ := ygive_same m1 q.1 q.2.1 q.2.2.1 q.2.2.2.1 t' q.2.2.2.2.2 R.2.1 (f.size : Int) (queueOk_move s1 hqk h2) h1 ⟨by omega, by omega⟩
          rw [h3]
          simp only
          rw [g1, g2]
          exact ⟨_, rfl, rfl⟩
      · have hc' : (R.1 != 0) = true := by simpa using hc
        rw [hc']
        exact ⟨_, rfl, rfl⟩
  obtain ⟨R, k1, k2⟩ := key
  rw [k1, k2]
  simp only [Option.bind_some, served_self, Bool.not_true, cond_false]
  cases decide (((m : ByteArray).size : Int) > 1048576) <;> cases decide (((f : ByteArray).size : Int) > 1048576) <;> rfl
end Go.Ab.FnExactReceiveFrame.Pure
