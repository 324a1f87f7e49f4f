/- The plain statement of the law FnExactJobFault. -/
import Derived.Test.YtcdeppogkibloaaAbStFnExactJobFault
import Derived.Laws.BitsLemmas
namespace Go.Ab.FnExactJobFault.Pure
open Go.RowKit Go.Ab
set_option linter.unusedVariables false
set_option linter.unusedSimpArgs false
theorem wrap_id {x : Int} (h0 : -9223372036854775808 ≤ x) (h1 : x ≤ 9223372036854775807) : wrap64 x = x := by rw [w64_eq]; unfold RowKit.wrap64; omega
theorem K0_ge {n : Nat} (h : n ≤ 18446744073709551616) : ∃ k, K0 = k + n := ⟨K0 - n, by rw [K0_eq]; omega⟩
theorem roomy_ok {n b : Int} (h : n * b ≤ 140737488355328) : roomy n b = true := by unfold roomy; rw [M0_eq]; simpa using h
theorem rd_nat (t : Ty) (l : List t.val) (i : Nat) : rd t l (i : Int) = l.getD i t.dflt := by unfold rd; rw [Int.toNat_natCast]
theorem rd_at (t : Ty) (l : List t.val) (i : Nat) (h : i < List.length l) : rd t l (i : Int) = l[i]'h := by rw [rd_nat]; simp [h]
theorem decp {p : Prop} [Decidable p] (h : p) : decide p = true := decide_eq_true h
theorem decn {p : Prop} [Decidable p] (h : ¬ p) : decide p = false := decide_eq_false h
theorem bt_range (m : ByteArray) (a : Int) : 0 ≤ bt m a ∧ bt m a ≤ 255 := by
  unfold bt
  have := (m.data.getD a.toNat 0).toNat_lt
  omega
theorem shl_eq {x s : Int} (n : Nat) (hs : s = (n : Int)) (h : n ≤ 64) (h0 : 0 ≤ x * 2 ^ n) (h1 : x * 2 ^ n ≤ 9223372036854775807) : shl .i64 x s = x * 2 ^ n := by
  subst hs
  unfold shl
  rw [Int.toNat_natCast, show min n IntKind.i64.bits = n from Nat.min_eq_left h, IntKind.wrap_i64]
  omega
theorem wrap_succ (i n : Nat) (h : i < n) (hn : n ≤ 140737488351232) : wrap64 ((i : Int) + 1) = ((i + 1 : Nat) : Int) := by
  rw [w64_eq]; unfold RowKit.wrap64; omega
theorem yin_eq (a b c : Int) : impl_yin a b c = some (decide (b ≤ a ∧ a ≤ c), ()) := by
  unfold impl_yin
  dsimp only
  congr 2
  rw [Bool.eq_iff_iff]
  simp
/-- What is told of sizes once they are counted. -/
def small : (t : Ty) → t.val → Prop
  | .str, x => x.size ≤ 1048576
  | .slice t, l => List.length l ≤ 1048576 ∧ ∀ y ∈ (show List t.val from l), small t y
  | .pair a b, x => small a x.1 ∧ small b x.2
  | _, _ => True
/-- The same of rows alone. -/
def lens : (t : Ty) → t.val → Prop
  | .slice t, l => List.length l ≤ 1048576 ∧ ∀ y ∈ (show List t.val from l), lens t y
  | .pair a b, x => lens a x.1 ∧ lens b x.2
  | _, _ => True
theorem lens_of : ∀ {t : Ty} {x : t.val}, small t x → lens t x
  | .slice t, l, h => ⟨h.1, fun y hy => lens_of (h.2 y hy)⟩
  | .pair a b, x, h => ⟨lens_of h.1, lens_of h.2⟩
  | .str, _, _ => trivial
  | .int _, _, _ => trivial
  | .bool, _, _ => trivial
  | .unit, _, _ => trivial
  | .sum _ _, _, _ => trivial
  | .opq, _, _ => trivial
theorem lens_flat {t : Ty} (h : flat t = true) (x : t.val) : lens t x := by
  induction t with
  | slice t _ => simp [flat] at h
  | pair a b iha ihb => simp only [flat, Bool.and_eq_true] at h; exact ⟨iha h.1 x.1, ihb h.2 x.2⟩
  | _ => trivial
theorem lens_row {t : Ty} (h : flat t = true) {l : List t.val} (hl : l.length ≤ 1048576) : lens (.slice t) l := ⟨hl, fun y _ => lens_flat h y⟩
theorem lens_at {t : Ty} {l : List t.val} (h : lens (.slice t) l) (i : Nat) (hi : i < List.length l) : lens t (l[i]'hi) := h.2 _ (List.getElem_mem hi)
theorem good_at {t : Ty} {l : List t.val} (h : good (.slice t) l) (i : Nat) (hi : i < List.length l) : good t (l[i]'hi) := h.2 _ (List.getElem_mem hi)
theorem small_row {t : Ty} {l : List t.val} (hl : List.length l ≤ 1048576) (h : ∀ i, (hi : i < List.length l) → small t (l[i]'hi)) : small (.slice t) l := ⟨hl, fun y hy => by
  obtain ⟨i, hi, rfl⟩ := List.getElem_of_mem hy
  exact h i hi⟩
theorem maxLen_lt {n : Nat} (h : n ≤ maxLen) : n ≤ 9223372036854775807 := by unfold maxLen at h; omega
theorem wrap_inc (m j : Int) (h0 : 0 ≤ m) (h1 : m ≤ 4000000000000000000) (h2 : 0 ≤ j) (h3 : j ≤ 1000000) : wrap64 (m + j + 1) = m + (j + 1) := by
  rw [w64_eq]; unfold RowKit.wrap64; omega
theorem wrap_i (i n : Nat) (h : i < n) (hn : n ≤ 9223372036854775807) : wrap64 ((i : Int) + 1) = ((i + 1 : Nat) : Int) := by
  rw [w64_eq]; unfold RowKit.wrap64; omega
theorem rd_set (t : Ty) (l : List t.val) (i : Nat) (v : t.val) (h : i < List.length l) : rd t (List.set l i v) (i : Int) = v := by
  rw [rd_at t _ i (by simpa using h)]; simp
theorem b2s_one (n : Int) : (b2s [n]).size = 1 := rfl
theorem bsize_app (a b : ByteArray) : (a ++ b).size = a.size + b.size := ByteArray.size_append
theorem seq_self (s : ByteArray) : seq s s = true := by unfold seq; simp
theorem seq_ne_self (s : ByteArray) : (!seq s s) = false := by rw [seq_self]; rfl
/-- A loop that lays each element as it is. -/
theorem to_loop {α : Type} (F : Nat → List α → Nat → List α → Option (List α × Unit)) (l : List α) (hl : l.length ≤ 9223372036854775807)
    (hF : ∀ (k i : Nat) (ys : List α) (hi : i < l.length), ys.length = l.length → F (k + 1) l i ys = F k l (i + 1) (ys.set i l[i]))
    (hE : ∀ (k : Nat) (ys : List α), F (k + 1) l l.length ys = some (ys, ())) (ys : List α) (hy : ys.length = l.length) : F K0 l 0 ys = some (l, ()) := by
  have key : ∀ (d k i : Nat) (ys : List α), i + d = l.length → d < k → ys.length = l.length → (∀ j, j < i → ys[j]? = l[j]?) → F k l i ys = some (l, ()) := by
    intro d
    induction d with
    | zero =>
      intro k i ys hi hk hy hj
      obtain ⟨k, rfl⟩ : ∃ q, k = q + 1 := ⟨k - 1, by omega⟩
      have : i = l.length := by omega
      subst this
      rw [hE]
      congr 2
      apply List.ext_getElem? 
      intro j
      by_cases h : j < l.length
      · exact hj j h
      · rw [List.getElem?_eq_none (by omega), List.getElem?_eq_none (by omega)]
    | succ d ih =>
      intro k i ys hi hk hy hj
      obtain ⟨k, rfl⟩ : ∃ q, k = q + 1 := ⟨k - 1, by omega⟩
      rw [hF k i ys (by omega) hy]
      refine ih k (i + 1) _ (by omega) (by omega) (by simpa using hy) fun j hjj => ?_
      by_cases h : j = i
      · subst h
        rw [List.getElem?_set_self (by omega), List.getElem?_eq_getElem (by omega)]
      · rw [List.getElem?_set_ne (by omega)]
        exact hj j (by omega)
  exact key l.length K0 0 ys (by omega) (by rw [K0_eq]; omega) hy (fun j hj => by omega)
/-- A loop that takes from what is left, or is at its end. -/
theorem sz_loop {α : Type} (F : Nat → List α → Int → Nat → Option ((Int × Unit) ⊕ (Int × Unit))) (P : α → Prop) (l : List α) (hl : l.length ≤ 9223372036854775807)
    (hF : ∀ (k i : Nat) (left : Int) (hi : i < l.length), 0 ≤ left → left ≤ 1048576 → ∃ n, n ≤ left ∧ -1 ≤ n ∧ (0 ≤ n → P l[i]) ∧ F (k + 1) l left i = bif decide (n < 0) then some (Sum.inl (-1, ())) else F k l n (i + 1))
    (hE : ∀ (k : Nat) (left : Int), F (k + 1) l left l.length = some (Sum.inr (left, ()))) (left : Int) (h0 : 0 ≤ left) (h1 : left ≤ 1048576) :
    F K0 l left 0 = some (Sum.inl (-1, ())) ∨ ∃ n, n ≤ left ∧ 0 ≤ n ∧ (∀ i, (hi : i < l.length) → P l[i]) ∧ F K0 l left 0 = some (Sum.inr (n, ())) := by
  have key : ∀ (d k i : Nat) (left : Int), i + d = l.length → d < k → 0 ≤ left → left ≤ 1048576 → F k l left i = some (Sum.inl (-1, ())) ∨ ∃ n, n ≤ left ∧ 0 ≤ n ∧ (∀ j, i ≤ j → (hj : j < l.length) → P l[j]) ∧ F k l left i = some (Sum.inr (n, ())) := by
    intro d
    induction d with
    | zero =>
      intro k i left hi hk h0 h1
      obtain ⟨k, rfl⟩ : ∃ q, k = q + 1 := ⟨k - 1, by omega⟩
      have : i = l.length := by omega
      subst this
      exact .inr ⟨left, by omega, h0, fun j h1 h2 => by omega, hE k left⟩
    | succ d ih =>
      intro k i left hi hk h0 h1
      obtain ⟨k, rfl⟩ : ∃ q, k = q + 1 := ⟨k - 1, by omega⟩
      obtain ⟨n, n1, n2, hP, e⟩ := hF k i left (by omega) h0 h1
      rw [e]
      by_cases c : n < 0
      · rw [decp c]; exact .inl rfl
      · rw [decn c, cond_false]
        rcases ih k (i + 1) n (by omega) (by omega) (by omega) (by omega) with q | ⟨m, q1, q2, q3, q4⟩
        · exact .inl q
        · refine .inr ⟨m, by omega, q2, fun j h1 h2 => ?_, q4⟩
          by_cases h : j = i
          · subst h; exact hP (by omega)
          · exact q3 j (by omega) h2
  rcases key l.length K0 0 left (by omega) (by rw [K0_eq]; omega) h0 h1 with q | ⟨m, q1, q2, q3, q4⟩
  · exact .inl q
  · exact .inr ⟨m, q1, q2, fun i hi => q3 i (by omega) hi, q4⟩
/-- A loop that holds each element against itself. -/
theorem eq_loop {α : Type} (F : Nat → List α → List α → Nat → Option ((Bool × Unit) ⊕ Unit)) (l : List α) (hl : l.length ≤ 9223372036854775807)
    (hF : ∀ (k i : Nat) (hi : i < l.length), F (k + 1) l l i = F k l l (i + 1))
    (hE : ∀ (k : Nat), F (k + 1) l l l.length = some (Sum.inr ())) : F K0 l l 0 = some (Sum.inr ()) := by
  have key : ∀ (d k i : Nat), i + d = l.length → d < k → F k l l i = some (Sum.inr ()) := by
    intro d
    induction d with
    | zero =>
      intro k i hi hk
      obtain ⟨k, rfl⟩ : ∃ q, k = q + 1 := ⟨k - 1, by omega⟩
      have : i = l.length := by omega
      subst this
      exact hE k
    | succ d ih =>
      intro k i hi hk
      obtain ⟨k, rfl⟩ : ∃ q, k = q + 1 := ⟨k - 1, by omega⟩
      rw [hF k i (by omega)]
      exact ih k (i + 1) (by omega) (by omega)
  exact key l.length K0 0 (by omega) (by rw [K0_eq]; omega)
/-- A loop F that marks each element with running numbers, and a loop G that tells whether the marks stand. -/
theorem mark_loop {α : Type} (F : Nat → List α → Int → Nat → Option (Int × List α × Unit)) (c : Int) (E : Int → α → α) (hc : 0 ≤ c)
    (hF : ∀ (k : Nat) (xs : List α) (m : Int) (i : Nat) (hi : i < xs.length), 0 ≤ m → m ≤ 4000000000000000000 → xs.length ≤ 9223372036854775807 → F (k + 1) xs m i = F k (xs.set i (E m xs[i])) (m + c) (i + 1))
    (hFe : ∀ (k : Nat) (xs : List α) (m : Int), F (k + 1) xs m xs.length = some (m, xs, ())) (xs : List α) (m : Int) (hl : xs.length ≤ 9223372036854775807) (hm : 0 ≤ m) (hb : m + c * (xs.length : Int) ≤ 4000000000000000000) :
      ∃ ys, F K0 xs m 0 = some (m + c * (xs.length : Int), ys, ()) ∧ ys.length = xs.length ∧ ∀ i, (h : i < ys.length) → ∃ a, ys[i] = E (m + c * (i : Int)) a := by
  have key : ∀ (d k i : Nat) (xs : List α) (m : Int), i + d = xs.length → d < k → 0 ≤ m → m + c * d ≤ 4000000000000000000 → xs.length ≤ 9223372036854775807 →
      ∃ ys, F k xs m i = some (m + c * d, ys, ()) ∧ ys.length = xs.length ∧ (∀ j, j < i → ys[j]? = xs[j]?) ∧ ∀ j, i ≤ j → (h : j < ys.length) → ∃ a, ys[j] = E (m + c * ((j : Int) - i)) a := by
    intro d
    induction d with
    | zero =>
      intro k i xs m hi hk hm hb hl
      obtain ⟨k, rfl⟩ : ∃ q, k = q + 1 := ⟨k - 1, by omega⟩
      have : i = xs.length := by omega
      subst this
      exact ⟨xs, by rw [hFe]; simp, rfl, fun _ _ => rfl, fun j h1 h2 => by omega⟩
    | succ d ih =>
      intro k i xs m hi hk hm hb hl
      obtain ⟨k, rfl⟩ : ∃ q, k = q + 1 := ⟨k - 1, by omega⟩
      have hlt : i < xs.length := by omega
      have hcd : 0 ≤ c * (d : Int) := Int.mul_nonneg hc (by omega)
      have hs : c * ((d + 1 : Nat) : Int) = c * (d : Int) + c := by rw [Int.natCast_succ, Int.mul_add, Int.mul_one]
      rw [hs] at hb ⊢
      obtain ⟨ys, e1, e2, e3, e4⟩ := ih k (i + 1) (xs.set i (E m xs[i])) (m + c) (by simp; omega) (by omega) (by omega) (by omega) (by simpa using hl)
      have hy : i < ys.length := by rw [e2]; simpa using hlt
      have hyi : ys[i] = E m xs[i] := by
        have h := e3 i (by omega)
        rw [List.getElem?_eq_getElem hy, List.getElem?_set_self hlt] at h
        exact Option.some.inj h
      refine ⟨ys, ?_, by rw [e2]; simp, ?_, ?_⟩
      · rw [hF k xs m i hlt hm (by omega) hl, e1]
        congr 2
        omega
      · intro j hj
        rw [e3 j (by omega), List.getElem?_set_ne (by omega)]
      · intro j hj h
        by_cases h' : j = i
        · subst h'
          exact ⟨xs[j], by rw [hyi]; congr 1; rw [Int.sub_self, Int.mul_zero, Int.add_zero]⟩
        · obtain ⟨a, ha⟩ := e4 j (by omega) h
          refine ⟨a, by rw [ha]; congr 1; rw [Int.add_assoc]; congr 1; rw [show (j : Int) - (i : Int) = 1 + ((j : Int) - ((i + 1 : Nat) : Int)) by omega, Int.mul_add, Int.mul_one]⟩
  obtain ⟨ys, e1, e2, _, e4⟩ := key xs.length K0 0 xs m (by omega) (by rw [K0_eq]; omega) hm hb hl
  exact ⟨ys, e1, e2, fun i h => by obtain ⟨a, ha⟩ := e4 i (by omega) h; exact ⟨a, by simpa using ha⟩⟩
/-- A loop that tells whether the marks stand. -/
theorem held_loop {α : Type} (G : Nat → List α → Int → Nat → Option ((Int × Unit) ⊕ (Int × Unit))) (c : Int) (E : Int → α → α) (hc : 0 ≤ c)
    (hG : ∀ (k : Nat) (xs : List α) (m : Int) (i : Nat) (hi : i < xs.length) (a : α), 0 ≤ m → m ≤ 4000000000000000000 → xs.length ≤ 9223372036854775807 → xs[i] = E m a → G (k + 1) xs m i = G k xs (m + c) (i + 1))
    (hGe : ∀ (k : Nat) (xs : List α) (m : Int), G (k + 1) xs m xs.length = some (Sum.inr (m, ()))) (ys : List α) (m : Int) (hl : ys.length ≤ 9223372036854775807) (hm : 0 ≤ m) (hb : m + c * (ys.length : Int) ≤ 4000000000000000000)
    (hE : ∀ i, (h : i < ys.length) → ∃ a, ys[i] = E (m + c * (i : Int)) a) : G K0 ys m 0 = some (Sum.inr (m + c * (ys.length : Int), ())) := by
  have key : ∀ (d k i : Nat), i + d = ys.length → d < k → G k ys (m + c * (i : Int)) i = some (Sum.inr (m + c * (ys.length : Int), ())) := by
    intro d
    induction d with
    | zero =>
      intro k i hi hk
      obtain ⟨k, rfl⟩ : ∃ q, k = q + 1 := ⟨k - 1, by omega⟩
      have : i = ys.length := by omega
      subst this
      exact hGe k ys _
    | succ d ih =>
      intro k i hi hk
      obtain ⟨k, rfl⟩ : ∃ q, k = q + 1 := ⟨k - 1, by omega⟩
      obtain ⟨a, ha⟩ := hE i (by omega)
      have hcd : 0 ≤ c * (i : Int) := Int.mul_nonneg hc (by omega)
      have hle : c * (i : Int) ≤ c * (ys.length : Int) := Int.mul_le_mul_of_nonneg_left (by omega) hc
      rw [hG k ys _ i (by omega) a (by omega) (by omega) hl ha]
      have e : m + c * (i : Int) + c = m + c * ((i + 1 : Nat) : Int) := by
        rw [show ((i + 1 : Nat) : Int) = (i : Int) + 1 by omega, Int.mul_add, Int.mul_one]; omega
      rw [e]
      exact ih k (i + 1) (by omega) (by omega)
  have := key ys.length K0 0 (by omega) (by rw [K0_eq]; omega)
  simpa using this
theorem laws_szInt64S_ok (l : List Int) (left : Int) (h0 : 0 ≤ left) (h1 : left ≤ 1048576) (g : good (.slice (.int .i64)) l) : ∃ n, laws_szInt64S l left = some (n, ()) ∧ n ≤ left ∧ -1 ≤ n ∧ (0 ≤ n → small (.slice (.int .i64)) l) := by
  unfold laws_szInt64S
  have hm := maxLen_lt g.1
  have w : wrap64 (left - (l.length : Int)) = left - (l.length : Int) := wrap_id (by omega) (by omega)
  simp only [w]
  clear w
  by_cases c : left - (l.length : Int) < 0
  · refine ⟨-1, ?_, by omega, by omega, fun h => by omega⟩; simp only [decp c, cond_true]
  simp only [decn c, cond_false]
  exact ⟨_, rfl, by omega, by omega, fun _ => small_row (by omega) fun i hi => by simp [small]⟩
theorem laws_szStringS_ok (l : List ByteArray) (left : Int) (h0 : 0 ≤ left) (h1 : left ≤ 1048576) (g : good (.slice (.str)) l) : ∃ n, laws_szStringS l left = some (n, ()) ∧ n ≤ left ∧ -1 ≤ n ∧ (0 ≤ n → small (.slice (.str)) l) := by
  unfold laws_szStringS
  have hm := maxLen_lt g.1
  have w : wrap64 (left - (l.length : Int)) = left - (l.length : Int) := wrap_id (by omega) (by omega)
  simp only [w]
  clear w
  by_cases c : left - (l.length : Int) < 0
  · refine ⟨-1, ?_, by omega, by omega, fun h => by omega⟩; simp only [decp c, cond_true]
  simp only [decn c, cond_false]
  rcases sz_loop (fun k l left i => laws_szStringS_l5 k l left (i : Int)) (small (.str)) l hm (by
    intro k i left hi a0 a1
    have gl := good_at g i hi
    have d1 : decide ((i : Int) < (l.length : Int)) = true := decp (by omega)
    have d2 : decide ((0 : Int) ≤ (i : Int)) = true := decp (by omega)
    show ∃ n, _ ∧ _ ∧ _ ∧ laws_szStringS_l5_step (laws_szStringS_l5 k) l left (i : Int) = _
    unfold laws_szStringS_l5_step
    have w : wrap64 (left - ((l[i] : ByteArray).size : Int)) = left - ((l[i] : ByteArray).size : Int) := wrap_id (by have := maxLen_lt gl; omega) (by omega)
    by_cases c : left - ((l[i] : ByteArray).size : Int) < 0
    · refine ⟨-1, by omega, by omega, fun h => by omega, ?_⟩
      simp only [d1, d2, rd_at .str l i hi, w, decp c, Bool.and_true, cond_true]
      rfl
    · refine ⟨left - ((l[i] : ByteArray).size : Int), by omega, by omega, fun h => (by show (l[i] : ByteArray).size ≤ 1048576; omega), ?_⟩
      simp only [d1, d2, rd_at .str l i hi, w, decn c, Bool.and_true, cond_true, cond_false, wrap_i i l.length hi hm]) (by
    intro k left
    show laws_szStringS_l5_step (laws_szStringS_l5 k) l left (l.length : Int) = _
    unfold laws_szStringS_l5_step
    have d1 : decide ((l.length : Int) < (l.length : Int)) = false := decn (by omega)
    simp only [d1, cond_false]
    try rfl) (left - (l.length : Int)) (by omega) (by omega) with q | ⟨n, q1, q2, q3, q4⟩
  · have q' : laws_szStringS_l5 K0 l (left - (l.length : Int)) 0 = some (Sum.inl (-1, ())) := q
    simp only [q', Option.bind_some]
    exact ⟨-1, rfl, by omega, by omega, fun h => by omega⟩
  · have q' : laws_szStringS_l5 K0 l (left - (l.length : Int)) 0 = some (Sum.inr (n, ())) := q4
    simp only [q', Option.bind_some]
    exact ⟨n, rfl, by omega, by omega, fun _ => small_row (by omega) q3⟩
theorem laws_szSnap_ok (p0 : ByteArray) (p1 : List Int) (left : Int) (h0 : 0 ≤ left) (h1 : left ≤ 1048576) (g0 : good (.str) p0) (g1 : good (.slice (.int .i64)) p1) : ∃ n, laws_szSnap p0 p1 left = some (n, ()) ∧ n ≤ left ∧ -1 ≤ n ∧ (0 ≤ n → small R2 (p0, p1)) := by
  unfold laws_szSnap
  have w1 : wrap64 (left - (p0.size : Int)) = left - (p0.size : Int) := wrap_id (by have := maxLen_lt g0; omega) (by omega)
  simp only [w1]
  clear w1
  by_cases c1 : (left - (p0.size : Int)) < 0
  · refine ⟨-1, ?_, by omega, by omega, fun h => by omega⟩; simp only [decp c1, cond_true]
  simp only [decn c1, cond_false]
  obtain ⟨n2, e2, l2, m2, s2⟩ := laws_szInt64S_ok p1 (left - (p0.size : Int)) (by omega) (by omega) g1
  simp only [e2, Option.bind_some]
  by_cases c2 : n2 < 0
  · refine ⟨-1, ?_, by omega, by omega, fun h => by omega⟩; simp only [decp c2, cond_true]
  simp only [decn c2, cond_false]
  exact ⟨n2, rfl, by omega, by omega, fun _ => ⟨(by show p0.size ≤ 1048576; omega), (s2 (by omega))⟩⟩
theorem laws_szSnapS_ok (l : List (ByteArray × List Int)) (left : Int) (h0 : 0 ≤ left) (h1 : left ≤ 1048576) (g : good (.slice R2) l) : ∃ n, laws_szSnapS l left = some (n, ()) ∧ n ≤ left ∧ -1 ≤ n ∧ (0 ≤ n → small (.slice R2) l) := by
  unfold laws_szSnapS
  have hm := maxLen_lt g.1
  have w : wrap64 (left - (l.length : Int)) = left - (l.length : Int) := wrap_id (by omega) (by omega)
  simp only [w]
  clear w
  by_cases c : left - (l.length : Int) < 0
  · refine ⟨-1, ?_, by omega, by omega, fun h => by omega⟩; simp only [decp c, cond_true]
  simp only [decn c, cond_false]
  rcases sz_loop (fun k l left i => laws_szSnapS_l5 k l left (i : Int)) (small R2) l hm (by
    intro k i left hi a0 a1
    have gl := good_at g i hi
    have d1 : decide ((i : Int) < (l.length : Int)) = true := decp (by omega)
    have d2 : decide ((0 : Int) ≤ (i : Int)) = true := decp (by omega)
    show ∃ n, _ ∧ _ ∧ _ ∧ laws_szSnapS_l5_step (laws_szSnapS_l5 k) l left (i : Int) = _
    unfold laws_szSnapS_l5_step
    obtain ⟨n, e, e1, e2, e3⟩ := laws_szSnap_ok l[i].1 l[i].2 left a0 a1 gl.1 gl.2
    refine ⟨n, e1, e2, e3, ?_⟩
    simp only [d1, d2, rd_at R2 l i hi, e, Option.bind_some, wrap_i i l.length hi hm, Bool.and_true, cond_true]
    try rfl) (by
    intro k left
    show laws_szSnapS_l5_step (laws_szSnapS_l5 k) l left (l.length : Int) = _
    unfold laws_szSnapS_l5_step
    have d1 : decide ((l.length : Int) < (l.length : Int)) = false := decn (by omega)
    simp only [d1, cond_false]
    try rfl) (left - (l.length : Int)) (by omega) (by omega) with q | ⟨n, q1, q2, q3, q4⟩
  · have q' : laws_szSnapS_l5 K0 l (left - (l.length : Int)) 0 = some (Sum.inl (-1, ())) := q
    simp only [q', Option.bind_some]
    exact ⟨-1, rfl, by omega, by omega, fun h => by omega⟩
  · have q' : laws_szSnapS_l5 K0 l (left - (l.length : Int)) 0 = some (Sum.inr (n, ())) := q4
    simp only [q', Option.bind_some]
    exact ⟨n, rfl, by omega, by omega, fun _ => small_row (by omega) q3⟩
theorem laws_szImage_ok (p0 : ByteArray) (p1 : ByteArray) (p2 : List Int) (p3 : List ByteArray) (p4 : List (ByteArray × List Int)) (left : Int) (h0 : 0 ≤ left) (h1 : left ≤ 1048576) (g0 : good (.str) p0) (g1 : good (.str) p1) (g2 : good (.slice (.int .i64)) p2) (g3 : good (.slice (.str)) p3) (g4 : good (.slice (.pair (.str) (.slice (.int .i64)))) p4) : ∃ n, laws_szImage p0 p1 p2 p3 p4 left = some (n, ()) ∧ n ≤ left ∧ -1 ≤ n ∧ (0 ≤ n → small R1 (p0, p1, p2, p3, p4)) := by
  unfold laws_szImage
  have w1 : wrap64 (left - (p0.size : Int)) = left - (p0.size : Int) := wrap_id (by have := maxLen_lt g0; omega) (by omega)
  simp only [w1]
  clear w1
  by_cases c1 : (left - (p0.size : Int)) < 0
  · refine ⟨-1, ?_, by omega, by omega, fun h => by omega⟩; simp only [decp c1, cond_true]
  simp only [decn c1, cond_false]
  have w2 : wrap64 ((left - (p0.size : Int)) - (p1.size : Int)) = (left - (p0.size : Int)) - (p1.size : Int) := wrap_id (by have := maxLen_lt g1; omega) (by omega)
  simp only [w2]
  clear w2
  by_cases c2 : ((left - (p0.size : Int)) - (p1.size : Int)) < 0
  · refine ⟨-1, ?_, by omega, by omega, fun h => by omega⟩; simp only [decp c2, cond_true]
  simp only [decn c2, cond_false]
  obtain ⟨n3, e3, l3, m3, s3⟩ := laws_szInt64S_ok p2 ((left - (p0.size : Int)) - (p1.size : Int)) (by omega) (by omega) g2
  simp only [e3, Option.bind_some]
  by_cases c3 : n3 < 0
  · refine ⟨-1, ?_, by omega, by omega, fun h => by omega⟩; simp only [decp c3, cond_true]
  simp only [decn c3, cond_false]
  obtain ⟨n4, e4, l4, m4, s4⟩ := laws_szStringS_ok p3 n3 (by omega) (by omega) g3
  simp only [e4, Option.bind_some]
  by_cases c4 : n4 < 0
  · refine ⟨-1, ?_, by omega, by omega, fun h => by omega⟩; simp only [decp c4, cond_true]
  simp only [decn c4, cond_false]
  obtain ⟨n5, e5, l5, m5, s5⟩ := laws_szSnapS_ok p4 n4 (by omega) (by omega) g4
  simp only [e5, Option.bind_some]
  by_cases c5 : n5 < 0
  · refine ⟨-1, ?_, by omega, by omega, fun h => by omega⟩; simp only [decp c5, cond_true]
  simp only [decn c5, cond_false]
  exact ⟨n5, rfl, by omega, by omega, fun _ => ⟨(by show p0.size ≤ 1048576; omega), (by show p1.size ≤ 1048576; omega), (s3 (by omega)), (s4 (by omega)), (s5 (by omega))⟩⟩
theorem laws_szImageS_ok (l : List (ByteArray × ByteArray × List Int × List ByteArray × List (ByteArray × List Int))) (left : Int) (h0 : 0 ≤ left) (h1 : left ≤ 1048576) (g : good (.slice R1) l) : ∃ n, laws_szImageS l left = some (n, ()) ∧ n ≤ left ∧ -1 ≤ n ∧ (0 ≤ n → small (.slice R1) l) := by
  unfold laws_szImageS
  have hm := maxLen_lt g.1
  have w : wrap64 (left - (l.length : Int)) = left - (l.length : Int) := wrap_id (by omega) (by omega)
  simp only [w]
  clear w
  by_cases c : left - (l.length : Int) < 0
  · refine ⟨-1, ?_, by omega, by omega, fun h => by omega⟩; simp only [decp c, cond_true]
  simp only [decn c, cond_false]
  rcases sz_loop (fun k l left i => laws_szImageS_l5 k l left (i : Int)) (small R1) l hm (by
    intro k i left hi a0 a1
    have gl := good_at g i hi
    have d1 : decide ((i : Int) < (l.length : Int)) = true := decp (by omega)
    have d2 : decide ((0 : Int) ≤ (i : Int)) = true := decp (by omega)
    show ∃ n, _ ∧ _ ∧ _ ∧ laws_szImageS_l5_step (laws_szImageS_l5 k) l left (i : Int) = _
    unfold laws_szImageS_l5_step
    obtain ⟨n, e, e1, e2, e3⟩ := laws_szImage_ok l[i].1 l[i].2.1 l[i].2.2.1 l[i].2.2.2.1 l[i].2.2.2.2 left a0 a1 gl.1 gl.2.1 gl.2.2.1 gl.2.2.2.1 gl.2.2.2.2
    refine ⟨n, e1, e2, e3, ?_⟩
    simp only [d1, d2, rd_at R1 l i hi, e, Option.bind_some, wrap_i i l.length hi hm, Bool.and_true, cond_true]
    try rfl) (by
    intro k left
    show laws_szImageS_l5_step (laws_szImageS_l5 k) l left (l.length : Int) = _
    unfold laws_szImageS_l5_step
    have d1 : decide ((l.length : Int) < (l.length : Int)) = false := decn (by omega)
    simp only [d1, cond_false]
    try rfl) (left - (l.length : Int)) (by omega) (by omega) with q | ⟨n, q1, q2, q3, q4⟩
  · have q' : laws_szImageS_l5 K0 l (left - (l.length : Int)) 0 = some (Sum.inl (-1, ())) := q
    simp only [q', Option.bind_some]
    exact ⟨-1, rfl, by omega, by omega, fun h => by omega⟩
  · have q' : laws_szImageS_l5 K0 l (left - (l.length : Int)) 0 = some (Sum.inr (n, ())) := q4
    simp only [q', Option.bind_some]
    exact ⟨n, rfl, by omega, by omega, fun _ => small_row (by omega) q3⟩
theorem laws_szJob_ok (p0 : Int) (p1 : Int) (p2 : ByteArray) (p3 : ByteArray) (left : Int) (h0 : 0 ≤ left) (h1 : left ≤ 1048576) (g2 : good (.str) p2) (g3 : good (.str) p3) : ∃ n, laws_szJob p0 p1 p2 p3 left = some (n, ()) ∧ n ≤ left ∧ -1 ≤ n ∧ (0 ≤ n → small (.pair (.int .i64) (.pair (.int .i64) (.pair (.str) (.str)))) (p0, p1, p2, p3)) := by
  unfold laws_szJob
  have w1 : wrap64 (left - (p2.size : Int)) = left - (p2.size : Int) := wrap_id (by have := maxLen_lt g2; omega) (by omega)
  simp only [w1]
  clear w1
  by_cases c1 : (left - (p2.size : Int)) < 0
  · refine ⟨-1, ?_, by omega, by omega, fun h => by omega⟩; simp only [decp c1, cond_true]
  simp only [decn c1, cond_false]
  have w2 : wrap64 ((left - (p2.size : Int)) - (p3.size : Int)) = (left - (p2.size : Int)) - (p3.size : Int) := wrap_id (by have := maxLen_lt g3; omega) (by omega)
  simp only [w2]
  clear w2
  by_cases c2 : ((left - (p2.size : Int)) - (p3.size : Int)) < 0
  · refine ⟨-1, ?_, by omega, by omega, fun h => by omega⟩; simp only [decp c2, cond_true]
  simp only [decn c2, cond_false]
  exact ⟨((left - (p2.size : Int)) - (p3.size : Int)), rfl, by omega, by omega, fun _ => ⟨trivial, trivial, (by show p2.size ≤ 1048576; omega), (by show p3.size ≤ 1048576; omega)⟩⟩
theorem laws_szJobState_ok (p0 : List (ByteArray × ByteArray × List Int × List ByteArray × List (ByteArray × List Int))) (p1 : ByteArray) (p2 : Int) (p3 : Int) (p4 : ByteArray) (p5 : ByteArray) (left : Int) (h0 : 0 ≤ left) (h1 : left ≤ 1048576) (g0 : good (.slice (.pair (.str) (.pair (.str) (.pair (.slice (.int .i64)) (.pair (.slice (.str)) (.slice (.pair (.str) (.slice (.int .i64))))))))) p0) (g1 : good (.str) p1) (g4 : good (.str) p4) (g5 : good (.str) p5) : ∃ n, laws_szJobState p0 p1 p2 p3 p4 p5 left = some (n, ()) ∧ n ≤ left ∧ -1 ≤ n ∧ (0 ≤ n → small (.pair (.slice (.pair (.str) (.pair (.str) (.pair (.slice (.int .i64)) (.pair (.slice (.str)) (.slice (.pair (.str) (.slice (.int .i64))))))))) (.pair (.str) (.pair (.int .i64) (.pair (.int .i64) (.pair (.str) (.str)))))) (p0, p1, p2, p3, p4, p5)) := by
  unfold laws_szJobState
  obtain ⟨n1, e1, l1, m1, s1⟩ := laws_szImageS_ok p0 left (by omega) (by omega) g0
  simp only [e1, Option.bind_some]
  by_cases c1 : n1 < 0
  · refine ⟨-1, ?_, by omega, by omega, fun h => by omega⟩; simp only [decp c1, cond_true]
  simp only [decn c1, cond_false]
  have w2 : wrap64 (n1 - (p1.size : Int)) = n1 - (p1.size : Int) := wrap_id (by have := maxLen_lt g1; omega) (by omega)
  simp only [w2]
  clear w2
  by_cases c2 : (n1 - (p1.size : Int)) < 0
  · refine ⟨-1, ?_, by omega, by omega, fun h => by omega⟩; simp only [decp c2, cond_true]
  simp only [decn c2, cond_false]
  obtain ⟨n3, e3, l3, m3, s3⟩ := laws_szJob_ok p2 p3 p4 p5 (n1 - (p1.size : Int)) (by omega) (by omega) g4 g5
  simp only [e3, Option.bind_some]
  by_cases c3 : n3 < 0
  · refine ⟨-1, ?_, by omega, by omega, fun h => by omega⟩; simp only [decp c3, cond_true]
  simp only [decn c3, cond_false]
  exact ⟨n3, rfl, by omega, by omega, fun _ => ⟨(s1 (by omega)), (by show p1.size ≤ 1048576; omega), (s3 (by omega)).1, (s3 (by omega)).2.1, (s3 (by omega)).2.2.1, (s3 (by omega)).2.2.2⟩⟩
theorem laws_toInt64S_ok (l : List Int) (h : lens (.slice (.int .i64)) l) : laws_toInt64S l = some (l, ()) := by
  unfold laws_toInt64S
  have hl0 := h.1
  rw [decp (show 0 ≤ (l.length : Int) by omega), decp (show (l.length : Int) ≤ (l.length : Int) by omega), roomy_ok (by omega)]
  have q := to_loop (fun k l i ys => laws_toInt64S_l3 k l (i : Int) ys) l (by omega) (by
    intro k i ys hi hy
    show laws_toInt64S_l3_step (laws_toInt64S_l3 k) l (i : Int) ys = _
    unfold laws_toInt64S_l3_step
    have hl := lens_at h i hi
    have d1 : decide ((i : Int) < (l.length : Int)) = true := decp (by omega)
    have d2 : decide ((0 : Int) ≤ (i : Int)) = true := decp (by omega)
    have d3 : decide ((i : Int) < (ys.length : Int)) = true := decp (by omega)
    simp only [d1, d2, d3, rd_at (.int .i64) l i hi, Option.bind_some, wrap_i i l.length hi (by omega), Int.toNat_natCast, Bool.and_true, cond_true]
    try rfl) (by
    intro k ys
    show laws_toInt64S_l3_step (laws_toInt64S_l3 k) l (l.length : Int) ys = _
    unfold laws_toInt64S_l3_step
    have d1 : decide ((l.length : Int) < (l.length : Int)) = false := decn (by omega)
    simp only [d1, cond_false]
    try rfl) (List.replicate ((l.length : Int).toNat) (Ty.dflt (.int .i64))) (by simp)
  have q' : laws_toInt64S_l3 K0 l 0 (List.replicate ((l.length : Int).toNat) (Ty.dflt (.int .i64))) = some (l, ()) := q
  simp only [q', Option.bind_some, Bool.and_true, cond_true]
theorem laws_toStringS_ok (l : List ByteArray) (h : lens (.slice (.str)) l) : laws_toStringS l = some (l, ()) := by
  unfold laws_toStringS
  have hl0 := h.1
  rw [decp (show 0 ≤ (l.length : Int) by omega), decp (show (l.length : Int) ≤ (l.length : Int) by omega), roomy_ok (by omega)]
  have q := to_loop (fun k l i ys => laws_toStringS_l3 k l (i : Int) ys) l (by omega) (by
    intro k i ys hi hy
    show laws_toStringS_l3_step (laws_toStringS_l3 k) l (i : Int) ys = _
    unfold laws_toStringS_l3_step
    have hl := lens_at h i hi
    have d1 : decide ((i : Int) < (l.length : Int)) = true := decp (by omega)
    have d2 : decide ((0 : Int) ≤ (i : Int)) = true := decp (by omega)
    have d3 : decide ((i : Int) < (ys.length : Int)) = true := decp (by omega)
    simp only [d1, d2, d3, rd_at (.str) l i hi, Option.bind_some, wrap_i i l.length hi (by omega), Int.toNat_natCast, Bool.and_true, cond_true]
    try rfl) (by
    intro k ys
    show laws_toStringS_l3_step (laws_toStringS_l3 k) l (l.length : Int) ys = _
    unfold laws_toStringS_l3_step
    have d1 : decide ((l.length : Int) < (l.length : Int)) = false := decn (by omega)
    simp only [d1, cond_false]
    try rfl) (List.replicate ((l.length : Int).toNat) (Ty.dflt (.str))) (by simp)
  have q' : laws_toStringS_l3 K0 l 0 (List.replicate ((l.length : Int).toNat) (Ty.dflt (.str))) = some (l, ()) := q
  simp only [q', Option.bind_some, Bool.and_true, cond_true]
theorem laws_toSnap_ok (p0 : ByteArray) (p1 : List Int) (h1 : lens (.slice (.int .i64)) p1) : laws_toSnap p0 p1 = some (p0, p1, ()) := by
  unfold laws_toSnap
  first | rfl | simp only [laws_toInt64S_ok, h1, Option.bind_some]
theorem laws_toSnapS_ok (l : List (ByteArray × List Int)) (h : lens (.slice R2) l) : laws_toSnapS l = some (l, ()) := by
  unfold laws_toSnapS
  have hl0 := h.1
  rw [decp (show 0 ≤ (l.length : Int) by omega), decp (show (l.length : Int) ≤ (l.length : Int) by omega), roomy_ok (by omega)]
  have q := to_loop (fun k l i ys => laws_toSnapS_l3 k l (i : Int) ys) l (by omega) (by
    intro k i ys hi hy
    show laws_toSnapS_l3_step (laws_toSnapS_l3 k) l (i : Int) ys = _
    unfold laws_toSnapS_l3_step
    have hl := lens_at h i hi
    have d1 : decide ((i : Int) < (l.length : Int)) = true := decp (by omega)
    have d2 : decide ((0 : Int) ≤ (i : Int)) = true := decp (by omega)
    have d3 : decide ((i : Int) < (ys.length : Int)) = true := decp (by omega)
    have e := laws_toSnap_ok l[i].1 l[i].2 hl.2
    simp only [d1, d2, d3, rd_at R2 l i hi, e, Option.bind_some, wrap_i i l.length hi (by omega), Int.toNat_natCast, Bool.and_true, cond_true]
    try rfl) (by
    intro k ys
    show laws_toSnapS_l3_step (laws_toSnapS_l3 k) l (l.length : Int) ys = _
    unfold laws_toSnapS_l3_step
    have d1 : decide ((l.length : Int) < (l.length : Int)) = false := decn (by omega)
    simp only [d1, cond_false]
    try rfl) (List.replicate ((l.length : Int).toNat) (Ty.dflt R2)) (by simp)
  have q' : laws_toSnapS_l3 K0 l 0 (List.replicate ((l.length : Int).toNat) (Ty.dflt R2)) = some (l, ()) := q
  simp only [q', Option.bind_some, Bool.and_true, cond_true]
theorem laws_toImage_ok (p0 : ByteArray) (p1 : ByteArray) (p2 : List Int) (p3 : List ByteArray) (p4 : List (ByteArray × List Int)) (h2 : lens (.slice (.int .i64)) p2) (h3 : lens (.slice (.str)) p3) (h4 : lens (.slice (.pair (.str) (.slice (.int .i64)))) p4) : laws_toImage p0 p1 p2 p3 p4 = some (p0, p1, p2, p3, p4, ()) := by
  unfold laws_toImage
  first | rfl | simp only [laws_toInt64S_ok, laws_toStringS_ok, laws_toSnapS_ok, h2, h3, h4, Option.bind_some]
theorem laws_toImageS_ok (l : List (ByteArray × ByteArray × List Int × List ByteArray × List (ByteArray × List Int))) (h : lens (.slice R1) l) : laws_toImageS l = some (l, ()) := by
  unfold laws_toImageS
  have hl0 := h.1
  rw [decp (show 0 ≤ (l.length : Int) by omega), decp (show (l.length : Int) ≤ (l.length : Int) by omega), roomy_ok (by omega)]
  have q := to_loop (fun k l i ys => laws_toImageS_l3 k l (i : Int) ys) l (by omega) (by
    intro k i ys hi hy
    show laws_toImageS_l3_step (laws_toImageS_l3 k) l (i : Int) ys = _
    unfold laws_toImageS_l3_step
    have hl := lens_at h i hi
    have d1 : decide ((i : Int) < (l.length : Int)) = true := decp (by omega)
    have d2 : decide ((0 : Int) ≤ (i : Int)) = true := decp (by omega)
    have d3 : decide ((i : Int) < (ys.length : Int)) = true := decp (by omega)
    have e := laws_toImage_ok l[i].1 l[i].2.1 l[i].2.2.1 l[i].2.2.2.1 l[i].2.2.2.2 hl.2.2.1 hl.2.2.2.1 hl.2.2.2.2
    simp only [d1, d2, d3, rd_at R1 l i hi, e, Option.bind_some, wrap_i i l.length hi (by omega), Int.toNat_natCast, Bool.and_true, cond_true]
    try rfl) (by
    intro k ys
    show laws_toImageS_l3_step (laws_toImageS_l3 k) l (l.length : Int) ys = _
    unfold laws_toImageS_l3_step
    have d1 : decide ((l.length : Int) < (l.length : Int)) = false := decn (by omega)
    simp only [d1, cond_false]
    try rfl) (List.replicate ((l.length : Int).toNat) (Ty.dflt R1)) (by simp)
  have q' : laws_toImageS_l3 K0 l 0 (List.replicate ((l.length : Int).toNat) (Ty.dflt R1)) = some (l, ()) := q
  simp only [q', Option.bind_some, Bool.and_true, cond_true]
theorem laws_toJob_ok (p0 : Int) (p1 : Int) (p2 : ByteArray) (p3 : ByteArray) : laws_toJob p0 p1 p2 p3 = some (p0, p1, p2, p3, ()) := by
  unfold laws_toJob
  first | rfl | simp only [Option.bind_some]
theorem laws_toJobState_ok (p0 : List (ByteArray × ByteArray × List Int × List ByteArray × List (ByteArray × List Int))) (p1 : ByteArray) (p2 : Int) (p3 : Int) (p4 : ByteArray) (p5 : ByteArray) (h0 : lens (.slice (.pair (.str) (.pair (.str) (.pair (.slice (.int .i64)) (.pair (.slice (.str)) (.slice (.pair (.str) (.slice (.int .i64))))))))) p0) : laws_toJobState p0 p1 p2 p3 p4 p5 = some (p0, p1, p2, p3, p4, p5, ()) := by
  unfold laws_toJobState
  first | rfl | simp only [laws_toImageS_ok, laws_toJob_ok, h0, Option.bind_some]
theorem laws_eqInt64S_ok (l : List Int) (h : lens (.slice (.int .i64)) l) : laws_eqInt64S l l = some (true, ()) := by
  unfold laws_eqInt64S
  have hl0 := h.1
  have q := eq_loop (fun k l l2 i => laws_eqInt64S_l4 k l l2 (i : Int)) l (by omega) (by
    intro k i hi
    show laws_eqInt64S_l4_step (laws_eqInt64S_l4 k) l l (i : Int) = _
    unfold laws_eqInt64S_l4_step
    have hl := lens_at h i hi
    have d1 : decide ((i : Int) < (l.length : Int)) = true := decp (by omega)
    have d2 : decide ((0 : Int) ≤ (i : Int)) = true := decp (by omega)
    simp only [d1, d2, rd_at (.int .i64) l i hi, Option.bind_some, wrap_i i l.length hi (by omega), Bool.and_true, cond_true, Bool.not_true, cond_false, bne_self_eq_false, seq_ne_self, beq_self_eq_true]
    try rfl) (by
    intro k
    show laws_eqInt64S_l4_step (laws_eqInt64S_l4 k) l l (l.length : Int) = _
    unfold laws_eqInt64S_l4_step
    have d1 : decide ((l.length : Int) < (l.length : Int)) = false := decn (by omega)
    simp only [d1, cond_false]
    try rfl)
  have q' : laws_eqInt64S_l4 K0 l l 0 = some (Sum.inr ()) := q
  simp only [bne_self_eq_false, cond_false, q', Option.bind_some]
theorem laws_eqStringS_ok (l : List ByteArray) (h : lens (.slice (.str)) l) : laws_eqStringS l l = some (true, ()) := by
  unfold laws_eqStringS
  have hl0 := h.1
  have q := eq_loop (fun k l l2 i => laws_eqStringS_l4 k l l2 (i : Int)) l (by omega) (by
    intro k i hi
    show laws_eqStringS_l4_step (laws_eqStringS_l4 k) l l (i : Int) = _
    unfold laws_eqStringS_l4_step
    have hl := lens_at h i hi
    have d1 : decide ((i : Int) < (l.length : Int)) = true := decp (by omega)
    have d2 : decide ((0 : Int) ≤ (i : Int)) = true := decp (by omega)
    simp only [d1, d2, rd_at (.str) l i hi, Option.bind_some, wrap_i i l.length hi (by omega), Bool.and_true, cond_true, Bool.not_true, cond_false, bne_self_eq_false, seq_ne_self, beq_self_eq_true]
    try rfl) (by
    intro k
    show laws_eqStringS_l4_step (laws_eqStringS_l4 k) l l (l.length : Int) = _
    unfold laws_eqStringS_l4_step
    have d1 : decide ((l.length : Int) < (l.length : Int)) = false := decn (by omega)
    simp only [d1, cond_false]
    try rfl)
  have q' : laws_eqStringS_l4 K0 l l 0 = some (Sum.inr ()) := q
  simp only [bne_self_eq_false, cond_false, q', Option.bind_some]
theorem laws_eqSnap_ok (p0 : ByteArray) (p1 : List Int) (h1 : lens (.slice (.int .i64)) p1) : laws_eqSnap p0 p1 p0 p1 = some (true, ()) := by
  unfold laws_eqSnap
  simp [laws_eqInt64S_ok, h1, seq_self]
theorem laws_eqSnapS_ok (l : List (ByteArray × List Int)) (h : lens (.slice R2) l) : laws_eqSnapS l l = some (true, ()) := by
  unfold laws_eqSnapS
  have hl0 := h.1
  have q := eq_loop (fun k l l2 i => laws_eqSnapS_l4 k l l2 (i : Int)) l (by omega) (by
    intro k i hi
    show laws_eqSnapS_l4_step (laws_eqSnapS_l4 k) l l (i : Int) = _
    unfold laws_eqSnapS_l4_step
    have hl := lens_at h i hi
    have d1 : decide ((i : Int) < (l.length : Int)) = true := decp (by omega)
    have d2 : decide ((0 : Int) ≤ (i : Int)) = true := decp (by omega)
    have e := laws_eqSnap_ok l[i].1 l[i].2 hl.2
    simp only [d1, d2, rd_at R2 l i hi, e, Option.bind_some, wrap_i i l.length hi (by omega), Bool.and_true, cond_true, Bool.not_true, cond_false, bne_self_eq_false, seq_ne_self, beq_self_eq_true]
    try rfl) (by
    intro k
    show laws_eqSnapS_l4_step (laws_eqSnapS_l4 k) l l (l.length : Int) = _
    unfold laws_eqSnapS_l4_step
    have d1 : decide ((l.length : Int) < (l.length : Int)) = false := decn (by omega)
    simp only [d1, cond_false]
    try rfl)
  have q' : laws_eqSnapS_l4 K0 l l 0 = some (Sum.inr ()) := q
  simp only [bne_self_eq_false, cond_false, q', Option.bind_some]
theorem laws_eqImage_ok (p0 : ByteArray) (p1 : ByteArray) (p2 : List Int) (p3 : List ByteArray) (p4 : List (ByteArray × List Int)) (h2 : lens (.slice (.int .i64)) p2) (h3 : lens (.slice (.str)) p3) (h4 : lens (.slice (.pair (.str) (.slice (.int .i64)))) p4) : laws_eqImage p0 p1 p2 p3 p4 p0 p1 p2 p3 p4 = some (true, ()) := by
  unfold laws_eqImage
  simp [laws_eqInt64S_ok, laws_eqStringS_ok, laws_eqSnapS_ok, h2, h3, h4, seq_self]
theorem laws_eqImageS_ok (l : List (ByteArray × ByteArray × List Int × List ByteArray × List (ByteArray × List Int))) (h : lens (.slice R1) l) : laws_eqImageS l l = some (true, ()) := by
  unfold laws_eqImageS
  have hl0 := h.1
  have q := eq_loop (fun k l l2 i => laws_eqImageS_l4 k l l2 (i : Int)) l (by omega) (by
    intro k i hi
    show laws_eqImageS_l4_step (laws_eqImageS_l4 k) l l (i : Int) = _
    unfold laws_eqImageS_l4_step
    have hl := lens_at h i hi
    have d1 : decide ((i : Int) < (l.length : Int)) = true := decp (by omega)
    have d2 : decide ((0 : Int) ≤ (i : Int)) = true := decp (by omega)
    have e := laws_eqImage_ok l[i].1 l[i].2.1 l[i].2.2.1 l[i].2.2.2.1 l[i].2.2.2.2 hl.2.2.1 hl.2.2.2.1 hl.2.2.2.2
    simp only [d1, d2, rd_at R1 l i hi, e, Option.bind_some, wrap_i i l.length hi (by omega), Bool.and_true, cond_true, Bool.not_true, cond_false, bne_self_eq_false, seq_ne_self, beq_self_eq_true]
    try rfl) (by
    intro k
    show laws_eqImageS_l4_step (laws_eqImageS_l4 k) l l (l.length : Int) = _
    unfold laws_eqImageS_l4_step
    have d1 : decide ((l.length : Int) < (l.length : Int)) = false := decn (by omega)
    simp only [d1, cond_false]
    try rfl)
  have q' : laws_eqImageS_l4 K0 l l 0 = some (Sum.inr ()) := q
  simp only [bne_self_eq_false, cond_false, q', Option.bind_some]
theorem laws_eqJob_ok (p0 : Int) (p1 : Int) (p2 : ByteArray) (p3 : ByteArray) : laws_eqJob p0 p1 p2 p3 p0 p1 p2 p3 = some (true, ()) := by
  unfold laws_eqJob
  simp [seq_self]
theorem laws_eqJobState_ok (p0 : List (ByteArray × ByteArray × List Int × List ByteArray × List (ByteArray × List Int))) (p1 : ByteArray) (p2 : Int) (p3 : Int) (p4 : ByteArray) (p5 : ByteArray) (h0 : lens (.slice (.pair (.str) (.pair (.str) (.pair (.slice (.int .i64)) (.pair (.slice (.str)) (.slice (.pair (.str) (.slice (.int .i64))))))))) p0) : laws_eqJobState p0 p1 p2 p3 p4 p5 p0 p1 p2 p3 p4 p5 = some (true, ()) := by
  unfold laws_eqJobState
  simp [laws_eqImageS_ok, laws_eqJob_ok, h0, seq_self]
/-- A walk over a row that may end early. -/
def foldE {α S E : Type} (st : S → α → E ⊕ S) : List α → S → E ⊕ S
  | [], s => .inr s
  | x :: l, s => match st s x with
    | .inl e => .inl e
    | .inr s => foldE st l s
theorem foldE_loop {α S E R : Type} (F : Nat → Nat → S → Option R) (l : List α) (st : S → α → E ⊕ S) (ex : E → R) (fin : S → R) (hl : l.length ≤ 9223372036854775807)
    (hF : ∀ (k i : Nat) (s : S) (hi : i < l.length), F (k + 1) i s = match st s l[i] with
      | .inl e => some (ex e)
      | .inr s => F k (i + 1) s)
    (hE : ∀ (k : Nat) (s : S), F (k + 1) l.length s = some (fin s)) (s : S) : F K0 0 s = some (match foldE st l s with
      | .inl e => ex e
      | .inr s => fin s) := by
  have key : ∀ (d k i : Nat) (s : S), i + d = l.length → d < k → F k i s = some (match foldE st (l.drop i) s with
      | .inl e => ex e
      | .inr s => fin s) := by
    intro d
    induction d with
    | zero =>
      intro k i s hi hk
      obtain ⟨k, rfl⟩ : ∃ q, k = q + 1 := ⟨k - 1, by omega⟩
      have : i = l.length := by omega
      subst this
      rw [hE, List.drop_length]
      rfl
    | succ d ih =>
      intro k i s hi hk
      obtain ⟨k, rfl⟩ : ∃ q, k = q + 1 := ⟨k - 1, by omega⟩
      have hlt : i < l.length := by omega
      rw [hF k i s hlt, List.drop_eq_getElem_cons hlt]
      simp only [foldE]
      cases st s l[i] with
      | inl r => rfl
      | inr s' => exact ih k (i + 1) s' (by omega) (by omega)
  have := key l.length K0 0 s (by omega) (by rw [K0_eq]; omega)
  simpa using this
theorem foldE_filter {α S E : Type} (st : S → α → E ⊕ S) (p : α → Bool) : ∀ (l : List α) (s : S), foldE st (l.filter p) s = foldE (fun s x => bif p x then st s x else .inr s) l s
  | [], s => rfl
  | x :: l, s => by
    cases h : p x with
    | false => rw [List.filter_cons_of_neg (by simp [h])]; simp only [foldE, h, cond_false]; exact foldE_filter st p l s
    | true =>
      rw [List.filter_cons_of_pos h]
      simp only [foldE, h, cond_true]
      cases st s x with
      | inl r => rfl
      | inr s' => exact foldE_filter st p l s'
theorem filter_loop {α R : Type} (F : Nat → Nat → List α → Option R) (l : List α) (p : α → Bool) (fin : List α → R) (hl : l.length ≤ 9223372036854775807)
    (hF : ∀ (k i : Nat) (s : List α) (hi : i < l.length), s.length ≤ i → F (k + 1) i s = F k (i + 1) (bif p l[i] then s ++ [l[i]] else s))
    (hE : ∀ (k : Nat) (s : List α), F (k + 1) l.length s = some (fin s)) : F K0 0 [] = some (fin (l.filter p)) := by
  have key : ∀ (d k i : Nat) (s : List α), i + d = l.length → d < k → s.length ≤ i → F k i s = some (fin (s ++ (l.drop i).filter p)) := by
    intro d
    induction d with
    | zero =>
      intro k i s hi hk hs
      obtain ⟨k, rfl⟩ : ∃ q, k = q + 1 := ⟨k - 1, by omega⟩
      have : i = l.length := by omega
      subst this
      rw [hE, List.drop_length]
      simp
    | succ d ih =>
      intro k i s hi hk hs
      obtain ⟨k, rfl⟩ : ∃ q, k = q + 1 := ⟨k - 1, by omega⟩
      have hlt : i < l.length := by omega
      rw [hF k i s hlt hs, List.drop_eq_getElem_cons hlt]
      cases h : p l[i] with
      | true =>
        rw [cond_true, ih k (i + 1) _ (by omega) (by omega) (by simp; omega), List.filter_cons_of_pos h]
        simp
      | false =>
        rw [cond_false, ih k (i + 1) _ (by omega) (by omega) (by omega), List.filter_cons_of_neg (by simp [h])]
  have := key l.length K0 0 [] (by omega) (by rw [K0_eq]; omega) (by simp)
  simpa using this
/-- The first index from i on at which p holds. -/
def findN (p : Nat → Bool) : Nat → Nat → Option Nat
  | 0, _ => none
  | d + 1, i => bif p i then some i else findN p d (i + 1)
theorem find_loop {R : Type} (F : Nat → Nat → Option R) (n : Nat) (p : Nat → Bool) (hit : Nat → R) (miss : R) (hn : n ≤ 9223372036854775807)
    (hF : ∀ (k i : Nat), i < n → F (k + 1) i = bif p i then some (hit i) else F k (i + 1)) (hE : ∀ (k : Nat), F (k + 1) n = some miss) :
    F K0 0 = some (match findN p n 0 with
      | some i => hit i
      | none => miss) := by
  have key : ∀ (d k i : Nat), i + d = n → d < k → F k i = some (match findN p d i with
      | some i => hit i
      | none => miss) := by
    intro d
    induction d with
    | zero =>
      intro k i hi hk
      obtain ⟨k, rfl⟩ : ∃ q, k = q + 1 := ⟨k - 1, by omega⟩
      have : i = n := by omega
      subst this
      rw [hE]
      rfl
    | succ d ih =>
      intro k i hi hk
      obtain ⟨k, rfl⟩ : ∃ q, k = q + 1 := ⟨k - 1, by omega⟩
      rw [hF k i (by omega)]
      simp only [findN]
      cases p i with
      | true => rfl
      | false => exact ih k (i + 1) (by omega) (by omega)
  exact key n K0 0 (by omega) (by rw [K0_eq]; omega)
theorem findN_some {p : Nat → Bool} : ∀ {d i j : Nat}, findN p d i = some j → i ≤ j ∧ j < i + d ∧ p j = true
  | 0, _, _, h => by simp [findN] at h
  | d + 1, i, j, h => by
    simp only [findN] at h
    cases hp : p i with
    | true =>
      rw [hp, cond_true, Option.some.injEq] at h
      subst h
      exact ⟨Nat.le_refl _, by omega, hp⟩
    | false =>
      rw [hp, cond_false] at h
      obtain ⟨h1, h2, h3⟩ := findN_some h
      exact ⟨by omega, by omega, h3⟩
theorem findN_none {p : Nat → Bool} : ∀ {d i : Nat}, findN p d i = none → ∀ j, i ≤ j → j < i + d → p j = false
  | 0, i, _, j, h1, h2 => by omega
  | d + 1, i, h, j, h1, h2 => by
    simp only [findN] at h
    cases hp : p i with
    | true => rw [hp, cond_true] at h; cases h
    | false =>
      rw [hp, cond_false] at h
      by_cases e : j = i
      · rw [e]; exact hp
      · exact findN_none h j (by omega) (by omega)
theorem findN_congr {p q : Nat → Bool} : ∀ {d i : Nat}, (∀ j, i ≤ j → j < i + d → p j = q j) → findN p d i = findN q d i
  | 0, _, _ => rfl
  | d + 1, i, h => by
    simp only [findN]
    rw [h i (Nat.le_refl _) (by omega), findN_congr fun j h1 h2 => h j (by omega) (by omega)]
theorem fold_loop {α S R : Type} (F : Nat → Nat → S → Option R) (l : List α) (f : S → α → S) (fin : S → R) (hl : l.length ≤ 9223372036854775807)
    (hF : ∀ (k i : Nat) (s : S) (hi : i < l.length), F (k + 1) i s = F k (i + 1) (f s l[i])) (hE : ∀ (k : Nat) (s : S), F (k + 1) l.length s = some (fin s)) (s : S) : F K0 0 s = some (fin (l.foldl f s)) := by
  have key : ∀ (d k i : Nat) (s : S), i + d = l.length → d < k → F k i s = some (fin ((l.drop i).foldl f s)) := by
    intro d
    induction d with
    | zero =>
      intro k i s hi hk
      obtain ⟨k, rfl⟩ : ∃ q, k = q + 1 := ⟨k - 1, by omega⟩
      have : i = l.length := by omega
      subst this
      rw [hE, List.drop_length]
      rfl
    | succ d ih =>
      intro k i s hi hk
      obtain ⟨k, rfl⟩ : ∃ q, k = q + 1 := ⟨k - 1, by omega⟩
      have hlt : i < l.length := by omega
      rw [hF k i s hlt, List.drop_eq_getElem_cons hlt, List.foldl_cons]
      exact ih k (i + 1) _ (by omega) (by omega)
  have := key l.length K0 0 s (by omega) (by rw [K0_eq]; omega)
  simpa using this
theorem findN_or (p q : Nat → Bool) : ∀ (d i : Nat), (findN (fun i => p i || q i) d i).isNone = ((findN p d i).isNone && (findN q d i).isNone)
  | 0, _ => rfl
  | d + 1, i => by
    simp only [findN]
    have ih := findN_or p q d (i + 1)
    cases p i with
    | true => rfl
    | false =>
      cases q i with
      | true => simp
      | false => exact ih
/-- Two ways to say that a number lies between two others. -/
theorem out_in (x a b : Int) : (!decide (a ≤ x ∧ x ≤ b)) = (decide (x < a) || decide (x > b)) := by rw [Bool.eq_iff_iff]; simp
def nameBad (s : ByteArray) (i : Nat) : Bool := !((((decide (bt s (i : Int) ≥ 97) && decide (bt s (i : Int) ≤ 122)) || (decide (bt s (i : Int) ≥ 48) && decide (bt s (i : Int) ≤ 57))) || (bt s (i : Int) == 45)))
def nameOk (s : ByteArray) : Bool := !(decide ((s.size : Int) < 1) || decide ((s.size : Int) > 20)) && (findN (nameBad s) s.size 0).isNone
theorem spec_name (s : ByteArray) (h : s.size ≤ 9223372036854775806) : spec_l13Name s = some (nameOk s, ()) := by
  unfold spec_l13Name nameOk
  have e : spec_l13Name_l4 K0 s 0 = _ := find_loop (fun k i => spec_l13Name_l4 k s (i : Int)) s.size (nameBad s) (fun _ => Sum.inl (false, ())) (Sum.inr ()) (by omega) (by
    intro k i hi
    show spec_l13Name_l4_step (spec_l13Name_l4 k) s (i : Int) = _
    unfold spec_l13Name_l4_step nameBad
    simp only [decp (show (i : Int) < (s.size : Int) by omega), decp (show (0 : Int) ≤ (i : Int) by omega), Bool.and_true, cond_true, wrap_i i s.size hi (by omega)]) (by
    intro k
    show spec_l13Name_l4_step (spec_l13Name_l4 k) s (s.size : Int) = _
    unfold spec_l13Name_l4_step
    simp only [decn (show ¬ (s.size : Int) < (s.size : Int) by omega), cond_false])
  dsimp only
  cases hb : (decide ((s.size : Int) < 1) || decide ((s.size : Int) > 20)) with
  | true => rfl
  | false =>
    rw [cond_false, e]
    cases findN (nameBad s) s.size 0 <;> rfl
theorem impl_name (s : ByteArray) (h : s.size ≤ 9223372036854775806) : impl_yisName s = some (nameOk s, ()) := by
  unfold impl_yisName nameOk
  have e : impl_yisName_l2 K0 s (s.size : Int) 0 = _ := find_loop (fun k i => impl_yisName_l2 k s (s.size : Int) (i : Int)) s.size (nameBad s) (fun _ => Sum.inl (false, ())) (Sum.inr (s, ())) (by omega) (by
    intro k i hi
    show impl_yisName_l2_step (impl_yisName_l2 k) s (s.size : Int) (i : Int) = _
    unfold impl_yisName_l2_step nameBad
    simp only [decp (show (i : Int) < (s.size : Int) by omega), decp (show (0 : Int) ≤ (i : Int) by omega), Bool.and_true, cond_true, wrap_i i s.size hi (by omega)]) (by
    intro k
    show impl_yisName_l2_step (impl_yisName_l2 k) s (s.size : Int) (s.size : Int) = _
    unfold impl_yisName_l2_step
    simp only [decn (show ¬ (s.size : Int) < (s.size : Int) by omega), cond_false])
  rw [e]
  have hz : (!(decide ((s.size : Int) < 1) || decide ((s.size : Int) > 20))) = (decide ((s.size : Int) ≥ 1) && decide ((s.size : Int) ≤ 20)) := by
    rw [Bool.eq_iff_iff]; simp
  rw [hz]
  cases findN (nameBad s) s.size 0 with
  | none => simp only [Option.bind_some, Option.isNone_none, Bool.and_true]
  | some j => simp only [Option.bind_some, Option.isNone_some, Bool.and_false]
def iterN {S : Type} (f : Nat → S → S) : Nat → Nat → S → S
  | 0, _, s => s
  | d + 1, i, s => iterN f d (i + 1) (f i s)
/-- A walk that may end early, and carries something along. -/
theorem bad_loop {S R : Type} (F : Nat → Nat → S → Option R) (n : Nat) (bad : Nat → Bool) (f : Nat → S → S) (ex fin : S → R) (I : S → Prop) (hn : n ≤ 9223372036854775807)
    (hF : ∀ (k i : Nat) (s : S), i < n → I s → (bad i = false → I (f i s)) ∧ F (k + 1) i s = bif bad i then some (ex s) else F k (i + 1) (f i s)) (hE : ∀ (k : Nat) (s : S), I s → F (k + 1) n s = some (fin s)) (s : S) (hs : I s) :
    ((findN bad n 0).isNone = true ∧ I (iterN f n 0 s) ∧ F K0 0 s = some (fin (iterN f n 0 s))) ∨ ((findN bad n 0).isNone = false ∧ ∃ s', F K0 0 s = some (ex s')) := by
  have key : ∀ (d k i : Nat) (s : S), i + d = n → d < k → I s → ((findN bad d i).isNone = true ∧ I (iterN f d i s) ∧ F k i s = some (fin (iterN f d i s))) ∨ ((findN bad d i).isNone = false ∧ ∃ s', F k i s = some (ex s')) := by
    intro d
    induction d with
    | zero =>
      intro k i s hi hk hs
      obtain ⟨k, rfl⟩ : ∃ q, k = q + 1 := ⟨k - 1, by omega⟩
      have : i = n := by omega
      subst this
      exact .inl ⟨rfl, hs, hE k s hs⟩
    | succ d ih =>
      intro k i s hi hk hs
      obtain ⟨k, rfl⟩ : ∃ q, k = q + 1 := ⟨k - 1, by omega⟩
      obtain ⟨h1, h2⟩ := hF k i s (by omega) hs
      rw [h2]
      simp only [findN, iterN]
      cases hb : bad i with
      | true => exact .inr ⟨rfl, s, rfl⟩
      | false => exact ih k (i + 1) _ (by omega) (by omega) (h1 hb)
  exact key n K0 0 s (by omega) (by rw [K0_eq]; omega) hs
abbrev Sn := ByteArray × List Int
abbrev Im := ByteArray × ByteArray × List Int × List ByteArray × List Sn
def entBad (t : List Int) (d : Int) (i : Nat) : Bool := decide (rd (.int .i64) t (i : Int) < -2) || decide (rd (.int .i64) t (i : Int) ≥ d)
def tabOk (t : List Int) (n d : Int) : Bool := ((t.length : Int) == n) && (findN (entBad t d) t.length 0).isNone
theorem spec_table (t : List Int) (n d : Int) (h : t.length ≤ 1048576) : spec_l13Table t n d = some (tabOk t n d, ()) := by
  unfold spec_l13Table tabOk
  by_cases hn : (t.length : Int) = n
  · subst hn
    have e : spec_l13Table_l4 K0 t (t.length : Int) d 0 = _ := find_loop (fun k i => spec_l13Table_l4 k t (t.length : Int) d (i : Int)) t.length (entBad t d) (fun _ => Sum.inl (false, ())) (Sum.inr ()) (by omega) (by
      intro k i hi
      show spec_l13Table_l4_step (spec_l13Table_l4 k) t (t.length : Int) d (i : Int) = _
      unfold spec_l13Table_l4_step entBad
      simp only [decp (show (i : Int) < (t.length : Int) by omega), decp (show (0 : Int) ≤ (i : Int) by omega), Bool.and_true, Bool.or_true, cond_true, wrap_i i t.length hi (by omega)]) (by
      intro k
      show spec_l13Table_l4_step (spec_l13Table_l4 k) t (t.length : Int) d (t.length : Int) = _
      unfold spec_l13Table_l4_step
      simp only [decn (show ¬ (t.length : Int) < (t.length : Int) by omega), cond_false])
    simp only [bne_self_eq_false, cond_false, beq_self_eq_true, Bool.true_and]
    rw [e]
    cases findN (entBad t d) t.length 0 <;> rfl
  · have h1 : ((t.length : Int) != n) = true := by simpa using hn
    have h2 : ((t.length : Int) == n) = false := by simpa using hn
    rw [h1, h2]
    rfl
def tellSt (t : List Int) (i : Nat) (l : List Bool) : List Bool := bif decide (rd (.int .i64) t (i : Int) ≥ 0) then l.set (rd (.int .i64) t (i : Int)).toNat true else l
def hasE (t : List Int) (j : Nat) : Bool := !(findN (fun k => rd (.int .i64) t (k : Int) == (j : Int)) t.length 0).isNone
theorem tell_get (t : List Int) : ∀ (d i : Nat) (l : List Bool), (iterN (tellSt t) d i l).length = l.length ∧ ∀ j, j < l.length → rd .bool (iterN (tellSt t) d i l) (j : Int) = (rd .bool l (j : Int) || !(findN (fun k => rd (.int .i64) t (k : Int) == (j : Int)) d i).isNone)
  | 0, i, l => ⟨rfl, fun j hj => by simp [iterN, findN]⟩
  | d + 1, i, l => by
    simp only [iterN]
    obtain ⟨h1, h2⟩ := tell_get t d (i + 1) (tellSt t i l)
    have hl : (tellSt t i l).length = l.length := by unfold tellSt; cases decide (rd (.int .i64) t (i : Int) ≥ 0) <;> simp
    refine ⟨by rw [h1, hl], fun j hj => ?_⟩
    rw [h2 j (by rw [hl]; exact hj)]
    simp only [findN]
    by_cases he : rd (.int .i64) t (i : Int) = (j : Int)
    · have hb : (rd (.int .i64) t (i : Int) == (j : Int)) = true := by simpa using he
      rw [hb]
      have : rd .bool (tellSt t i l) (j : Int) = true := by
        unfold tellSt
        rw [he, decp (show (j : Int) ≥ 0 by omega), cond_true, Int.toNat_natCast, rd_at .bool _ j (by simpa using hj)]
        simp
      rw [this]
      simp
    · have hb : (rd (.int .i64) t (i : Int) == (j : Int)) = false := by simpa using he
      rw [hb, cond_false]
      congr 1
      unfold tellSt
      by_cases hp : rd (.int .i64) t (i : Int) ≥ 0
      · have hne : (rd (.int .i64) t (i : Int)).toNat ≠ j := by
          intro h
          apply he
          have h0 : (0 : Int) ≤ rd (.int .i64) t (i : Int) := hp
          have := Int.toNat_of_nonneg h0
          rw [h] at this
          exact this.symm
        rw [decp hp, cond_true, rd_at .bool _ j (by simpa using hj), rd_at .bool l j hj, List.getElem_set_ne hne]
      · rw [decn hp, cond_false]
theorem impl_table (t : List Int) (n b : ByteArray) (tb : List Int) (dt : List ByteArray) (sn : List Sn) (l : List Bool) (ht : t.length ≤ 1048576) (hd : dt.length ≤ 1048576) (hl : l.length = dt.length) :
    ∃ X, impl_ImageFault_1_v10 t n b tb dt sn l = some (tabOk t (tb.length : Int) (dt.length : Int), X, ()) ∧ (tabOk t (tb.length : Int) (dt.length : Int) = true → X = iterN (tellSt t) t.length 0 l) := by
  have hw : wrap64 ((dt.length : Int) - 1) = (dt.length : Int) - 1 := wrap_id (by omega) (by omega)
  have hloop := bad_loop (fun k i s => impl_ImageFault_1_v10_l2 k t n b tb dt sn t (t.length : Int) (i : Int) s) t.length (entBad t (dt.length : Int)) (tellSt t) (fun s => Sum.inl (false, s, ())) (fun s => Sum.inr (t, n, b, tb, dt, sn, s, ())) (fun s => s.length = dt.length) (by omega) (by
    intro k i s hi hs
    refine ⟨fun _ => ?_, ?_⟩
    · unfold tellSt; cases decide (rd (.int .i64) t (i : Int) ≥ 0) <;> simp [hs]
    · show impl_ImageFault_1_v10_l2_step (impl_ImageFault_1_v10_l2 k) t n b tb dt sn t (t.length : Int) (i : Int) s = _
      unfold impl_ImageFault_1_v10_l2_step entBad tellSt
      simp only [decp (show (i : Int) < (t.length : Int) by omega), decp (show (0 : Int) ≤ (i : Int) by omega), hw, yin_eq, Option.bind_some, Bool.and_true, cond_true, Bool.cond_self, wrap_i i t.length hi (by omega), out_in]
      obtain ⟨e, he⟩ : ∃ e : Int, e = rd (.int .i64) t (i : Int) := ⟨_, rfl⟩
      rw [← he]
      by_cases h1 : e < -2
      · rw [decp h1]; rfl
      rw [decn h1, Bool.false_or, Bool.false_or]
      by_cases h2 : e ≥ (dt.length : Int)
      · rw [decp h2, decp (show e > (dt.length : Int) - 1 by omega)]; rfl
      · rw [decn h2, decn (show ¬ e > (dt.length : Int) - 1 by omega)]
        simp only [cond_false]
        by_cases h3 : e ≥ 0
        · rw [decp h3, decp (show e < (s.length : Int) by rw [hs]; omega)]; rfl
        · rw [decn h3]; rfl) (by
    intro k s hs
    show impl_ImageFault_1_v10_l2_step (impl_ImageFault_1_v10_l2 k) t n b tb dt sn t (t.length : Int) (t.length : Int) s = _
    unfold impl_ImageFault_1_v10_l2_step
    simp only [decn (show ¬ (t.length : Int) < (t.length : Int) by omega), cond_false]) l hl
  unfold impl_ImageFault_1_v10 tabOk
  rcases hloop with ⟨h1, h2, h3⟩ | ⟨h1, s', h3⟩
  · have h3' : impl_ImageFault_1_v10_l2 K0 t n b tb dt sn t (t.length : Int) 0 l = _ := h3
    rw [h3', h1]
    simp only [Option.bind_some, Bool.and_true]
    exact ⟨_, rfl, fun _ => rfl⟩
  · have h3' : impl_ImageFault_1_v10_l2 K0 t n b tb dt sn t (t.length : Int) 0 l = _ := h3
    rw [h3', h1]
    simp only [Option.bind_some, Bool.and_false]
    exact ⟨_, rfl, fun h => by cases h⟩
/-- Is there a snap of the same name ahead of it? -/
def dupS (sn : List Sn) (i : Nat) : Bool := !(findN (fun k => seq (rd R2 sn (k : Int)).1 (rd R2 sn (i : Int)).1) i 0).isNone
theorem impl_contains (l : List Sn) (x : Sn) (h : l.length ≤ 1048576) : slices_ContainsFunc_Snap l x.1 x.2 = some (!(findN (fun k => seq (rd R2 l (k : Int)).1 x.1) l.length 0).isNone, ()) := by
  unfold slices_ContainsFunc_Snap slices_IndexFunc_Snap
  have e : slices_IndexFunc_Snap_l2 K0 l x.1 x.2 (l.length : Int) 0 = _ := find_loop (fun k i => slices_IndexFunc_Snap_l2 k l x.1 x.2 (l.length : Int) (i : Int)) l.length (fun k => seq (rd R2 l (k : Int)).1 x.1) (fun i => Sum.inl ((i : Int), ())) (Sum.inr ()) (by omega) (by
    intro k i hi
    show slices_IndexFunc_Snap_l2_step (slices_IndexFunc_Snap_l2 k) l x.1 x.2 (l.length : Int) (i : Int) = _
    unfold slices_IndexFunc_Snap_l2_step impl_ImageFault_2
    simp only [decp (show (i : Int) < (l.length : Int) by omega), decp (show (0 : Int) ≤ (i : Int) by omega), Option.bind_some, Bool.and_true, cond_true, wrap_i i l.length hi (by omega)]) (by
    intro k
    show slices_IndexFunc_Snap_l2_step (slices_IndexFunc_Snap_l2 k) l x.1 x.2 (l.length : Int) (l.length : Int) = _
    unfold slices_IndexFunc_Snap_l2_step
    simp only [decn (show ¬ (l.length : Int) < (l.length : Int) by omega), cond_false])
  rw [e]
  cases findN (fun k => seq (rd R2 l (k : Int)).1 x.1) l.length 0 with
  | none => rfl
  | some j =>
    simp only [Option.bind_some, Option.isNone_some, Bool.not_false]
    rw [decp (show (j : Int) ≥ 0 by omega)]
theorem contains_take (sn : List Sn) (i : Nat) (hi : i < sn.length) : (!(findN (fun k => seq (rd R2 (sn.take i) (k : Int)).1 (rd R2 sn (i : Int)).1) (sn.take i).length 0).isNone) = dupS sn i := by
  unfold dupS
  have hl : (sn.take i).length = i := by rw [List.length_take]; omega
  rw [hl]
  congr 2
  refine findN_congr fun k _ hk => ?_
  rw [rd_at R2 (sn.take i) k (by rw [hl]; omega), rd_at R2 sn k (by omega), List.getElem_take]
def snapBad (n d : Int) (sn : List Sn) (i : Nat) : Bool := (!nameOk (rd R2 sn (i : Int)).1 || !tabOk (rd R2 sn (i : Int)).2 n d) || dupS sn i
/-- Is a text of Data told of? -/
def told (tb : List Int) (sn : List Sn) (j : Nat) : Bool := hasE tb j || !(findN (fun k => hasE (rd R2 sn (k : Int)).2 j) sn.length 0).isNone
def dataBad (tb : List Int) (dt : List ByteArray) (sn : List Sn) (j : Nat) : Bool := (((rd .str dt (j : Int)).size : Int) != 16) || !told tb sn j
def imgBad (m : Im) : Bool :=
  (((((!nameOk m.1 || (!seq m.2.1 (⟨#[]⟩ : ByteArray) && !nameOk m.2.1)) || (decide ((m.2.2.1.length : Int) < 1) || decide ((m.2.2.1.length : Int) > 64))) || decide ((m.2.2.2.1.length : Int) > 128)) || decide ((m.2.2.2.2.length : Int) > 8)) || !tabOk m.2.2.1 (m.2.2.1.length : Int) (m.2.2.2.1.length : Int)) ||
    (!(findN (snapBad (m.2.2.1.length : Int) (m.2.2.2.1.length : Int) m.2.2.2.2) m.2.2.2.2.length 0).isNone || !(findN (dataBad m.2.2.1 m.2.2.2.1 m.2.2.2.2) m.2.2.2.1.length 0).isNone)
theorem small_snap {l : List Sn} (h : small (.slice R2) l) (i : Nat) (hi : i < l.length) : (rd R2 l (i : Int)).1.size ≤ 1048576 ∧ (rd R2 l (i : Int)).2.length ≤ 1048576 := by
  rw [rd_at R2 l i hi]
  have := h.2 _ (List.getElem_mem hi)
  exact ⟨this.1, this.2.1⟩
theorem snaps_tell (sn : List Sn) : ∀ (d i : Nat) (l : List Bool), (iterN (fun i l => iterN (tellSt (rd R2 sn (i : Int)).2) (rd R2 sn (i : Int)).2.length 0 l) d i l).length = l.length ∧ ∀ j, j < l.length →
    rd .bool (iterN (fun i l => iterN (tellSt (rd R2 sn (i : Int)).2) (rd R2 sn (i : Int)).2.length 0 l) d i l) (j : Int) = (rd .bool l (j : Int) || !(findN (fun k => hasE (rd R2 sn (k : Int)).2 j) d i).isNone)
  | 0, i, l => ⟨rfl, fun j hj => by simp [iterN, findN]⟩
  | d + 1, i, l => by
    simp only [iterN]
    obtain ⟨g1, g2⟩ := tell_get (rd R2 sn (i : Int)).2 (rd R2 sn (i : Int)).2.length 0 l
    obtain ⟨h1, h2⟩ := snaps_tell sn d (i + 1) (iterN (tellSt (rd R2 sn (i : Int)).2) (rd R2 sn (i : Int)).2.length 0 l)
    refine ⟨by rw [h1, g1], fun j hj => ?_⟩
    rw [h2 j (by rw [g1]; exact hj), g2 j hj]
    simp only [findN]
    have : (!(findN (fun k => rd (.int .i64) (rd R2 sn (i : Int)).2 (k : Int) == (j : Int)) (rd R2 sn (i : Int)).2.length 0).isNone) = hasE (rd R2 sn (i : Int)).2 j := rfl
    rw [this]
    cases hasE (rd R2 sn (i : Int)).2 j <;> simp
theorem impl_image (m : Im) (h : small R1 m) : impl_ImageFault m.1 m.2.1 m.2.2.1 m.2.2.2.1 m.2.2.2.2 = some (bif imgBad m then 1 else 0, ()) := by
  obtain ⟨hn, hb, ht, hd, hs⟩ := h
  have ht : m.2.2.1.length ≤ 1048576 := ht.1
  have hd : m.2.2.2.1.length ≤ 1048576 := hd.1
  have hsl : m.2.2.2.2.length ≤ 1048576 := hs.1
  have hn : m.1.size ≤ 1048576 := hn
  have hb : m.2.1.size ≤ 1048576 := hb
  unfold impl_ImageFault imgBad
  rw [impl_name _ (Nat.le_trans hn (by decide)), impl_name _ (Nat.le_trans hb (by decide))]
  simp only [Option.bind_some, yin_eq, Option.getD_some, Option.isSome_some, Bool.or_true, Bool.and_true, cond_true, out_in]
  cases ((((!nameOk m.1 || (!seq m.2.1 (⟨#[]⟩ : ByteArray) && !nameOk m.2.1)) || (decide ((m.2.2.1.length : Int) < 1) || decide ((m.2.2.1.length : Int) > 64))) || decide ((m.2.2.2.1.length : Int) > 128)) || decide ((m.2.2.2.2.length : Int) > 8)) with
  | true => rfl
  | false =>
    simp only [cond_false, Bool.false_or]
    rw [decp (show (0 : Int) ≤ (m.2.2.2.1.length : Int) by omega), decp (show (m.2.2.2.1.length : Int) ≤ (m.2.2.2.1.length : Int) by omega), roomy_ok (show (m.2.2.2.1.length : Int) * 1 ≤ 140737488355328 by omega), Int.toNat_natCast]
    simp only [Bool.and_true, cond_true]
    have hrep : (List.replicate m.2.2.2.1.length (Ty.dflt .bool)).length = m.2.2.2.1.length := by simp
    have hfalse : ∀ j, j < m.2.2.2.1.length → rd .bool (List.replicate m.2.2.2.1.length (Ty.dflt .bool)) (j : Int) = false := fun j hj => by
      rw [rd_at .bool _ j (by simpa using hj)]; simp [Ty.dflt]
    generalize List.replicate m.2.2.2.1.length (Ty.dflt .bool) = l0 at hrep hfalse
    obtain ⟨X, hX, hX2⟩ := impl_table m.2.2.1 m.1 m.2.1 m.2.2.1 m.2.2.2.1 m.2.2.2.2 l0 ht hd hrep
    rw [hX]
    simp only [Option.bind_some]
    cases hT : tabOk m.2.2.1 (m.2.2.1.length : Int) (m.2.2.2.1.length : Int) with
    | false => rfl
    | true =>
      simp only [Bool.not_true, cond_false, Bool.false_or]
      have hXe := hX2 hT
      obtain ⟨t1, t2⟩ := tell_get m.2.2.1 m.2.2.1.length 0 l0
      rw [← hXe] at t1 t2
      have hloop := bad_loop (fun k i s => impl_ImageFault_l8 k m.2.2.2.2 (m.2.2.2.2.length : Int) (i : Int) m.1 m.2.1 m.2.2.1 m.2.2.2.1 m.2.2.2.2 s) m.2.2.2.2.length (snapBad (m.2.2.1.length : Int) (m.2.2.2.1.length : Int) m.2.2.2.2)
        (fun i l => iterN (tellSt (rd R2 m.2.2.2.2 (i : Int)).2) (rd R2 m.2.2.2.2 (i : Int)).2.length 0 l) (fun _ => Sum.inl (1, ())) (fun s => Sum.inr (m.1, m.2.1, m.2.2.1, m.2.2.2.1, m.2.2.2.2, s, ())) (fun s => s.length = m.2.2.2.1.length) (by omega) (by
        intro k i s hi hs'
        refine ⟨fun _ => by rw [(tell_get _ _ 0 s).1]; exact hs', ?_⟩
        show impl_ImageFault_l8_step (impl_ImageFault_l8 k) m.2.2.2.2 (m.2.2.2.2.length : Int) (i : Int) m.1 m.2.1 m.2.2.1 m.2.2.2.1 m.2.2.2.2 s = _
        unfold impl_ImageFault_l8_step snapBad
        obtain ⟨z1, z2⟩ := small_snap hs i hi
        obtain ⟨Y, hY, hY2⟩ := impl_table (rd R2 m.2.2.2.2 (i : Int)).2 m.1 m.2.1 m.2.2.1 m.2.2.2.1 m.2.2.2.2 s z2 hd hs'
        simp only [decp (show (i : Int) < (m.2.2.2.2.length : Int) by omega), decp (show (i : Int) ≤ (m.2.2.2.2.length : Int) by omega), decp (show (0 : Int) ≤ (i : Int) by omega), Bool.and_true, cond_true, impl_name _ (Nat.le_trans z1 (by decide)), hY, Option.getD_some, Option.isSome_some, Bool.or_true, Bool.true_and, Bool.cond_self, Int.toNat_natCast, wrap_i i m.2.2.2.2.length hi (by omega), impl_contains _ _ (show (m.2.2.2.2.take i).length ≤ 1048576 by rw [List.length_take]; omega), contains_take _ i hi]
        cases nameOk (rd R2 m.2.2.2.2 (i : Int)).1 with
        | false => rfl
        | true =>
          cases hT2 : tabOk (rd R2 m.2.2.2.2 (i : Int)).2 (m.2.2.1.length : Int) (m.2.2.2.1.length : Int) with
          | false => rfl
          | true =>
            rw [hY2 hT2]
            cases dupS m.2.2.2.2 i <;> rfl) (by
        intro k s _
        show impl_ImageFault_l8_step (impl_ImageFault_l8 k) m.2.2.2.2 (m.2.2.2.2.length : Int) (m.2.2.2.2.length : Int) m.1 m.2.1 m.2.2.1 m.2.2.2.1 m.2.2.2.2 s = _
        unfold impl_ImageFault_l8_step
        simp only [decn (show ¬ (m.2.2.2.2.length : Int) < (m.2.2.2.2.length : Int) by omega), cond_false]) X (by rw [t1]; exact hrep)
      rcases hloop with ⟨q1, q2, q3⟩ | ⟨q1, s', q3⟩
      · have q3' : impl_ImageFault_l8 K0 m.2.2.2.2 (m.2.2.2.2.length : Int) 0 m.1 m.2.1 m.2.2.1 m.2.2.2.1 m.2.2.2.2 X = _ := q3
        rw [q3', q1]
        simp only [Option.bind_some, Bool.not_true, Bool.false_or]
        obtain ⟨u1, u2⟩ := snaps_tell m.2.2.2.2 m.2.2.2.2.length 0 X
        generalize iterN (fun i l => iterN (tellSt (rd R2 m.2.2.2.2 (i : Int)).2) (rd R2 m.2.2.2.2 (i : Int)).2.length 0 l) m.2.2.2.2.length 0 X = Z at u1 u2 q2
        have e : impl_ImageFault_l14 K0 m.2.2.2.1 (m.2.2.2.1.length : Int) 0 Z = _ := find_loop (fun k i => impl_ImageFault_l14 k m.2.2.2.1 (m.2.2.2.1.length : Int) (i : Int) Z) m.2.2.2.1.length (dataBad m.2.2.1 m.2.2.2.1 m.2.2.2.2) (fun _ => Sum.inl (1, ())) (Sum.inr ()) (by omega) (by
          intro k i hi
          show impl_ImageFault_l14_step (impl_ImageFault_l14 k) m.2.2.2.1 (m.2.2.2.1.length : Int) (i : Int) Z = _
          unfold impl_ImageFault_l14_step dataBad
          have hz : rd .bool Z (i : Int) = told m.2.2.1 m.2.2.2.2 i := by
            rw [u2 i (by rw [t1, hrep]; exact hi), t2 i (by rw [hrep]; exact hi), hfalse i hi]
            rfl
          simp only [decp (show (i : Int) < (m.2.2.2.1.length : Int) by omega), decp (show (0 : Int) ≤ (i : Int) by omega), decp (show (i : Int) < (Z.length : Int) by rw [q2]; omega), hz, Bool.and_true, Bool.or_true, cond_true, wrap_i i m.2.2.2.1.length hi (by omega)]) (by
          intro k
          show impl_ImageFault_l14_step (impl_ImageFault_l14 k) m.2.2.2.1 (m.2.2.2.1.length : Int) (m.2.2.2.1.length : Int) Z = _
          unfold impl_ImageFault_l14_step
          simp only [decn (show ¬ (m.2.2.2.1.length : Int) < (m.2.2.2.1.length : Int) by omega), cond_false])
        rw [e]
        cases findN (dataBad m.2.2.1 m.2.2.2.1 m.2.2.2.2) m.2.2.2.1.length 0 <;> rfl
      · have q3' : impl_ImageFault_l8 K0 m.2.2.2.2 (m.2.2.2.2.length : Int) 0 m.1 m.2.1 m.2.2.1 m.2.2.2.1 m.2.2.2.2 X = _ := q3
        rw [q3', q1]
        rfl
theorem findN_any {t : Ty} (p : t.val → Bool) (l : List t.val) : (findN (fun k => p (rd t l (k : Int))) l.length 0).isNone = !l.any p := by
  cases h : findN (fun k => p (rd t l (k : Int))) l.length 0 with
  | none =>
    have hn := findN_none h
    symm
    simp only [Option.isNone_none, Bool.not_eq_true', List.any_eq_false]
    intro x hx
    obtain ⟨i, hi, rfl⟩ := List.getElem_of_mem hx
    have := hn i (by omega) (by omega)
    rw [rd_at t l i hi] at this
    simp [this]
  | some j =>
    obtain ⟨_, h2, h3⟩ := findN_some h
    rw [Nat.zero_add] at h2
    rw [rd_at t l j h2] at h3
    symm
    simp only [Option.isNone_some, Bool.not_eq_false', List.any_eq_true]
    exact ⟨l[j], List.getElem_mem h2, h3⟩
theorem hasE_any (t : List Int) (j : Nat) : hasE t j = t.any (fun e => e == (j : Int)) := by
  unfold hasE
  rw [findN_any (t := .int .i64) (fun e => e == (j : Int)) t, Bool.not_not]
noncomputable def cntSt (j : Int) (s : Int) (e : Int) : Int := wrap64 (s + (bif e == j then 1 else 0))
theorem cnt_ok (j : Int) : ∀ (t : List Int) (s : Int), 0 ≤ s → s + (t.length : Int) ≤ 4000000000000000000 → ∃ c : Nat, c ≤ t.length ∧ t.foldl (cntSt j) s = s + c ∧ (c = 0 ↔ t.any (fun e => e == j) = false)
  | [], s, _, _ => ⟨0, by simp, by simp, by simp⟩
  | e :: t, s, h0, h1 => by
    simp only [List.length_cons] at h1
    rw [List.foldl_cons]
    unfold cntSt
    cases he : (e == j) with
    | true =>
      rw [cond_true, wrap_id (by omega) (by omega)]
      obtain ⟨c, c1, c2, c3⟩ := cnt_ok j t (s + 1) (by omega) (by omega)
      refine ⟨c + 1, by simp; omega, ?_, by simp [he]⟩
      rw [show (fun (s e : Int) => wrap64 (s + bif e == j then 1 else 0)) = cntSt j from rfl, c2]
      omega
    | false =>
      rw [cond_false, wrap_id (by omega) (by omega), Int.add_zero]
      obtain ⟨c, c1, c2, c3⟩ := cnt_ok j t s h0 (by omega)
      refine ⟨c, by simp; omega, ?_, by simp [he, c3]⟩
      rw [show (fun (s e : Int) => wrap64 (s + bif e == j then 1 else 0)) = cntSt j from rfl, c2]
theorem cnts_ok (j : Int) : ∀ (sn : List Sn) (s : Int), (∀ x ∈ sn, x.2.length ≤ 1048576) → 0 ≤ s → s + 1048576 * (sn.length : Int) ≤ 4000000000000000000 → ∃ c : Nat, (c : Int) ≤ 1048576 * (sn.length : Int) ∧ sn.foldl (fun s x => x.2.foldl (cntSt j) s) s = s + c ∧ (c = 0 ↔ sn.any (fun x => x.2.any (fun e => e == j)) = false)
  | [], s, _, _, _ => ⟨0, by simp, by simp, by simp⟩
  | x :: sn, s, hx, h0, h1 => by
    simp only [List.length_cons] at h1
    have h2 := hx x (by simp)
    rw [List.foldl_cons]
    obtain ⟨c, c1, c2, c3⟩ := cnt_ok j x.2 s h0 (by omega)
    rw [c2]
    obtain ⟨d, d1, d2, d3⟩ := cnts_ok j sn (s + c) (fun y hy => hx y (List.mem_cons_of_mem _ hy)) (by omega) (by omega)
    refine ⟨c + d, by simp only [List.length_cons]; omega, by rw [d2]; omega, ?_⟩
    simp only [List.any_cons, Bool.or_eq_false_iff]
    rw [← c3, ← d3]
    omega
theorem spec_bool (b : Bool) : spec_l01Bool b = some (bif b then 1 else 0, ()) := by cases b <;> rfl
theorem spec_uses (m : Im) (h : small R1 m) (j : Int) : spec_l13Uses m.1 m.2.1 m.2.2.1 m.2.2.2.1 m.2.2.2.2 j = some (m.2.2.2.2.foldl (fun s x => x.2.foldl (cntSt j) s) (m.2.2.1.foldl (cntSt j) 0), ()) := by
  obtain ⟨hn, hb, ht, hd, hs⟩ := h
  have ht : m.2.2.1.length ≤ 1048576 := ht.1
  have hsl : m.2.2.2.2.length ≤ 1048576 := hs.1
  unfold spec_l13Uses
  have e1 : spec_l13Uses_l3 K0 j 0 0 m.1 m.2.1 m.2.2.1 m.2.2.2.1 m.2.2.2.2 = _ := fold_loop (fun k i s => spec_l13Uses_l3 k j s (i : Int) m.1 m.2.1 m.2.2.1 m.2.2.2.1 m.2.2.2.2) m.2.2.1 (cntSt j) (fun s => (j, s, m.1, m.2.1, m.2.2.1, m.2.2.2.1, m.2.2.2.2, ())) (by omega) (by
    intro k i s hi
    show spec_l13Uses_l3_step (spec_l13Uses_l3 k) j s (i : Int) m.1 m.2.1 m.2.2.1 m.2.2.2.1 m.2.2.2.2 = _
    unfold spec_l13Uses_l3_step cntSt
    simp only [decp (show (i : Int) < (m.2.2.1.length : Int) by omega), decp (show (0 : Int) ≤ (i : Int) by omega), spec_bool, Option.bind_some, Bool.and_true, cond_true, rd_at (.int .i64) m.2.2.1 i hi, wrap_i i m.2.2.1.length hi (by omega)]) (by
    intro k s
    show spec_l13Uses_l3_step (spec_l13Uses_l3 k) j s (m.2.2.1.length : Int) m.1 m.2.1 m.2.2.1 m.2.2.2.1 m.2.2.2.2 = _
    unfold spec_l13Uses_l3_step
    simp only [decn (show ¬ (m.2.2.1.length : Int) < (m.2.2.1.length : Int) by omega), cond_false]) 0
  rw [e1]
  simp only [Option.bind_some]
  generalize m.2.2.1.foldl (cntSt j) 0 = s0
  have e2 : spec_l13Uses_l7 K0 j s0 0 m.1 m.2.1 m.2.2.1 m.2.2.2.1 m.2.2.2.2 = _ := fold_loop (fun k i s => spec_l13Uses_l7 k j s (i : Int) m.1 m.2.1 m.2.2.1 m.2.2.2.1 m.2.2.2.2) m.2.2.2.2 (fun s x => x.2.foldl (cntSt j) s) (fun s => (s, ())) (by omega) (by
    intro k i s hi
    show spec_l13Uses_l7_step (spec_l13Uses_l7 k) j s (i : Int) m.1 m.2.1 m.2.2.1 m.2.2.2.1 m.2.2.2.2 = _
    unfold spec_l13Uses_l7_step
    have hz := (small_snap hs i hi).2
    have e3 : spec_l13Uses_l10 K0 j s (i : Int) 0 m.1 m.2.1 m.2.2.1 m.2.2.2.1 m.2.2.2.2 = _ := fold_loop (fun k q s => spec_l13Uses_l10 k j s (i : Int) (q : Int) m.1 m.2.1 m.2.2.1 m.2.2.2.1 m.2.2.2.2) (rd R2 m.2.2.2.2 (i : Int)).2 (cntSt j) (fun s => (j, s, (i : Int), m.1, m.2.1, m.2.2.1, m.2.2.2.1, m.2.2.2.2, ())) (by omega) (by
      intro k q s hq
      show spec_l13Uses_l10_step (spec_l13Uses_l10 k) j s (i : Int) (q : Int) m.1 m.2.1 m.2.2.1 m.2.2.2.1 m.2.2.2.2 = _
      unfold spec_l13Uses_l10_step cntSt
      simp only [decp (show (i : Int) < (m.2.2.2.2.length : Int) by omega), decp (show (0 : Int) ≤ (i : Int) by omega), decp (show (q : Int) < ((rd R2 m.2.2.2.2 (i : Int)).2.length : Int) by omega), decp (show (0 : Int) ≤ (q : Int) by omega), spec_bool, Option.bind_some, Bool.and_true, cond_true, rd_at (.int .i64) _ q hq, wrap_i q _ hq (by omega)]) (by
      intro k s
      show spec_l13Uses_l10_step (spec_l13Uses_l10 k) j s (i : Int) ((rd R2 m.2.2.2.2 (i : Int)).2.length : Int) m.1 m.2.1 m.2.2.1 m.2.2.2.1 m.2.2.2.2 = _
      unfold spec_l13Uses_l10_step
      simp only [decp (show (i : Int) < (m.2.2.2.2.length : Int) by omega), decp (show (0 : Int) ≤ (i : Int) by omega), decn (show ¬ ((rd R2 m.2.2.2.2 (i : Int)).2.length : Int) < ((rd R2 m.2.2.2.2 (i : Int)).2.length : Int) by omega), Bool.and_true, cond_true, cond_false]) s
    simp only [decp (show (i : Int) < (m.2.2.2.2.length : Int) by omega), cond_true]
    rw [e3]
    simp only [Option.bind_some, wrap_i i m.2.2.2.2.length hi (by omega), rd_at R2 m.2.2.2.2 i hi]) (by
    intro k s
    show spec_l13Uses_l7_step (spec_l13Uses_l7 k) j s (m.2.2.2.2.length : Int) m.1 m.2.1 m.2.2.1 m.2.2.2.1 m.2.2.2.2 = _
    unfold spec_l13Uses_l7_step
    simp only [decn (show ¬ (m.2.2.2.2.length : Int) < (m.2.2.2.2.length : Int) by omega), cond_false]) s0
  rw [e2]
  rfl
theorem uses_told (m : Im) (h : small R1 m) (j : Nat) : (m.2.2.2.2.foldl (fun s x => x.2.foldl (cntSt (j : Int)) s) (m.2.2.1.foldl (cntSt (j : Int)) 0) == 0) = !told m.2.2.1 m.2.2.2.2 j := by
  obtain ⟨hn, hb, ht, hd, hs⟩ := h
  have ht : m.2.2.1.length ≤ 1048576 := ht.1
  have hsl : m.2.2.2.2.length ≤ 1048576 := hs.1
  have hx : ∀ x ∈ m.2.2.2.2, x.2.length ≤ 1048576 := fun x hx => (hs.2 x hx).2.1
  obtain ⟨c, c1, c2, c3⟩ := cnt_ok (j : Int) m.2.2.1 0 (by omega) (by omega)
  rw [c2]
  obtain ⟨d, d1, d2, d3⟩ := cnts_ok (j : Int) m.2.2.2.2 (0 + c) hx (by omega) (by omega)
  rw [d2]
  unfold told
  rw [hasE_any, findN_any (t := R2) (fun x => hasE x.2 j) m.2.2.2.2, Bool.not_not]
  have e : (fun x : Sn => hasE x.2 j) = fun x => x.2.any (fun e => e == (j : Int)) := by funext x; exact hasE_any x.2 j
  have e' : (List.any m.2.2.2.2 fun x => hasE x.2 j) = m.2.2.2.2.any (fun x => x.2.any (fun e => e == (j : Int))) := by rw [← e]
  rw [e']
  rw [Bool.eq_iff_iff]
  simp only [beq_iff_eq, Bool.not_eq_true', Bool.or_eq_false_iff]
  rw [← c3, ← d3]
  omega
theorem spec_image (m : Im) (h : small R1 m) : spec_ImageFault m.1 m.2.1 m.2.2.1 m.2.2.2.1 m.2.2.2.2 = some (bif imgBad m then 1 else 0, ()) := by
  have h' := h
  obtain ⟨hn, hb, ht, hd, hs⟩ := h
  have ht : m.2.2.1.length ≤ 1048576 := ht.1
  have hd : m.2.2.2.1.length ≤ 1048576 := hd.1
  have hsl : m.2.2.2.2.length ≤ 1048576 := hs.1
  have hn : m.1.size ≤ 1048576 := hn
  have hb : m.2.1.size ≤ 1048576 := hb
  unfold spec_ImageFault imgBad
  rw [spec_name _ (Nat.le_trans hn (by decide)), spec_name _ (Nat.le_trans hb (by decide)), spec_table _ _ _ ht]
  simp only [Option.bind_some, Option.getD_some, Option.isSome_some, Bool.or_true, Bool.and_true, cond_true]
  rw [Bool.or_assoc _ (decide ((m.2.2.1.length : Int) < 1))]
  cases (((((!nameOk m.1 || (!seq m.2.1 (⟨#[]⟩ : ByteArray) && !nameOk m.2.1)) || (decide ((m.2.2.1.length : Int) < 1) || decide ((m.2.2.1.length : Int) > 64))) || decide ((m.2.2.2.1.length : Int) > 128)) || decide ((m.2.2.2.2.length : Int) > 8)) || !tabOk m.2.2.1 (m.2.2.1.length : Int) (m.2.2.2.1.length : Int)) with
  | true => rfl
  | false =>
    simp only [cond_false, Bool.false_or]
    have e1 : spec_ImageFault_l5 K0 (m.2.2.1.length : Int) 0 m.1 m.2.1 m.2.2.1 m.2.2.2.1 m.2.2.2.2 = _ := find_loop (fun k i => spec_ImageFault_l5 k (m.2.2.1.length : Int) (i : Int) m.1 m.2.1 m.2.2.1 m.2.2.2.1 m.2.2.2.2) m.2.2.2.2.length (snapBad (m.2.2.1.length : Int) (m.2.2.2.1.length : Int) m.2.2.2.2) (fun _ => Sum.inl (1, ())) (Sum.inr (m.1, m.2.1, m.2.2.1, m.2.2.2.1, m.2.2.2.2, ())) (by omega) (by
      intro k i hi
      show spec_ImageFault_l5_step (spec_ImageFault_l5 k) (m.2.2.1.length : Int) (i : Int) m.1 m.2.1 m.2.2.1 m.2.2.2.1 m.2.2.2.2 = _
      unfold spec_ImageFault_l5_step snapBad dupS
      obtain ⟨z1, z2⟩ := small_snap hs i hi
      have e2 : spec_ImageFault_l10 K0 (m.2.2.1.length : Int) (i : Int) 0 m.1 m.2.1 m.2.2.1 m.2.2.2.1 m.2.2.2.2 = _ := find_loop (fun k q => spec_ImageFault_l10 k (m.2.2.1.length : Int) (i : Int) (q : Int) m.1 m.2.1 m.2.2.1 m.2.2.2.1 m.2.2.2.2) i (fun k => seq (rd R2 m.2.2.2.2 (k : Int)).1 (rd R2 m.2.2.2.2 (i : Int)).1) (fun _ => Sum.inl (1, ())) (Sum.inr ((m.2.2.1.length : Int), (i : Int), m.1, m.2.1, m.2.2.1, m.2.2.2.1, m.2.2.2.2, ())) (by omega) (by
        intro k q hq
        show spec_ImageFault_l10_step (spec_ImageFault_l10 k) (m.2.2.1.length : Int) (i : Int) (q : Int) m.1 m.2.1 m.2.2.1 m.2.2.2.1 m.2.2.2.2 = _
        unfold spec_ImageFault_l10_step
        simp only [decp (show (q : Int) < (i : Int) by omega), decp (show (0 : Int) ≤ (q : Int) by omega), decp (show (q : Int) < (m.2.2.2.2.length : Int) by omega), decp (show (0 : Int) ≤ (i : Int) by omega), decp (show (i : Int) < (m.2.2.2.2.length : Int) by omega), Bool.and_true, cond_true, wrap_i q i hq (by omega)]) (by
        intro k
        show spec_ImageFault_l10_step (spec_ImageFault_l10 k) (m.2.2.1.length : Int) (i : Int) (i : Int) m.1 m.2.1 m.2.2.1 m.2.2.2.1 m.2.2.2.2 = _
        unfold spec_ImageFault_l10_step
        simp only [decn (show ¬ (i : Int) < (i : Int) by omega), cond_false])
      simp only [decp (show (i : Int) < (m.2.2.2.2.length : Int) by omega), decp (show (0 : Int) ≤ (i : Int) by omega), spec_name _ (Nat.le_trans z1 (by decide)), spec_table _ _ _ z2, Option.getD_some, Option.isSome_some, Bool.and_true, Bool.or_true, cond_true]
      cases (!nameOk (rd R2 m.2.2.2.2 (i : Int)).1 || !tabOk (rd R2 m.2.2.2.2 (i : Int)).2 (m.2.2.1.length : Int) (m.2.2.2.1.length : Int)) with
      | true => rfl
      | false =>
        simp only [cond_false, Bool.false_or]
        rw [e2]
        cases findN (fun k => seq (rd R2 m.2.2.2.2 (k : Int)).1 (rd R2 m.2.2.2.2 (i : Int)).1) i 0 with
        | some q => rfl
        | none => simp only [Option.bind_some, Option.isNone_none, Bool.not_true, cond_false, wrap_i i m.2.2.2.2.length hi (by omega)]) (by
      intro k
      show spec_ImageFault_l5_step (spec_ImageFault_l5 k) (m.2.2.1.length : Int) (m.2.2.2.2.length : Int) m.1 m.2.1 m.2.2.1 m.2.2.2.1 m.2.2.2.2 = _
      unfold spec_ImageFault_l5_step
      simp only [decn (show ¬ (m.2.2.2.2.length : Int) < (m.2.2.2.2.length : Int) by omega), cond_false])
    rw [e1]
    cases findN (snapBad (m.2.2.1.length : Int) (m.2.2.2.1.length : Int) m.2.2.2.2) m.2.2.2.2.length 0 with
    | some q => rfl
    | none =>
      simp only [Option.bind_some, Option.isNone_none, Bool.not_true, Bool.false_or]
      have e3 : spec_ImageFault_l15 K0 0 m.1 m.2.1 m.2.2.1 m.2.2.2.1 m.2.2.2.2 = _ := find_loop (fun k i => spec_ImageFault_l15 k (i : Int) m.1 m.2.1 m.2.2.1 m.2.2.2.1 m.2.2.2.2) m.2.2.2.1.length (dataBad m.2.2.1 m.2.2.2.1 m.2.2.2.2) (fun _ => Sum.inl (1, ())) (Sum.inr ()) (by omega) (by
        intro k i hi
        show spec_ImageFault_l15_step (spec_ImageFault_l15 k) (i : Int) m.1 m.2.1 m.2.2.1 m.2.2.2.1 m.2.2.2.2 = _
        unfold spec_ImageFault_l15_step dataBad
        simp only [decp (show (i : Int) < (m.2.2.2.1.length : Int) by omega), decp (show (0 : Int) ≤ (i : Int) by omega), spec_uses m h', uses_told m h' i, Option.getD_some, Option.isSome_some, Bool.and_true, Bool.or_true, cond_true, wrap_i i m.2.2.2.1.length hi (by omega)]) (by
        intro k
        show spec_ImageFault_l15_step (spec_ImageFault_l15 k) (m.2.2.2.1.length : Int) m.1 m.2.1 m.2.2.1 m.2.2.2.1 m.2.2.2.2 = _
        unfold spec_ImageFault_l15_step
        simp only [decn (show ¬ (m.2.2.2.1.length : Int) < (m.2.2.2.1.length : Int) by omega), cond_false])
      rw [e3]
      cases findN (dataBad m.2.2.1 m.2.2.2.1 m.2.2.2.2) m.2.2.2.1.length 0 <;> rfl
/-- The place of an image's name. -/
def imAt (l : List Im) (s : ByteArray) : Int := match findN (fun i => seq (rd R1 l (i : Int)).1 s) l.length 0 with
  | some i => (i : Int)
  | none => -1
theorem imAt_lt (l : List Im) (s : ByteArray) : imAt l s < 0 ∨ (0 ≤ imAt l s ∧ imAt l s < (l.length : Int)) := by
  unfold imAt
  cases h : findN (fun i => seq (rd R1 l (i : Int)).1 s) l.length 0 with
  | none => left; simp
  | some i => right; have := findN_some h; simp only; omega
theorem spec_find (l : List Im) (s : ByteArray) (h : l.length ≤ 1048576) : spec_l13Find l s = some (imAt l s, ()) := by
  unfold spec_l13Find
  have e : spec_l13Find_l2 K0 l s 0 = _ := find_loop (fun k i => spec_l13Find_l2 k l s (i : Int)) l.length (fun i => seq (rd R1 l (i : Int)).1 s) (fun i => Sum.inl ((i : Int), ())) (Sum.inr ()) (by omega) (by
    intro k i hi
    show spec_l13Find_l2_step (spec_l13Find_l2 k) l s (i : Int) = _
    unfold spec_l13Find_l2_step
    simp only [decp (show (i : Int) < (l.length : Int) by omega), decp (show (0 : Int) ≤ (i : Int) by omega), Bool.and_true, cond_true, wrap_i i l.length hi (by omega)]) (by
    intro k
    show spec_l13Find_l2_step (spec_l13Find_l2 k) l s (l.length : Int) = _
    unfold spec_l13Find_l2_step
    simp only [decn (show ¬ (l.length : Int) < (l.length : Int) by omega), cond_false])
  rw [e]
  unfold imAt
  cases findN (fun i => seq (rd R1 l (i : Int)).1 s) l.length 0 <;> rfl
theorem impl_at (l : List Im) (s : ByteArray) (h : l.length ≤ 1048576) : impl_yimageAt l s = some (imAt l s, ()) := by
  unfold impl_yimageAt slices_IndexFunc_Image
  have e : slices_IndexFunc_Image_l2 K0 l s (l.length : Int) 0 = _ := find_loop (fun k i => slices_IndexFunc_Image_l2 k l s (l.length : Int) (i : Int)) l.length (fun i => seq (rd R1 l (i : Int)).1 s) (fun i => Sum.inl ((i : Int), ())) (Sum.inr ()) (by omega) (by
    intro k i hi
    show slices_IndexFunc_Image_l2_step (slices_IndexFunc_Image_l2 k) l s (l.length : Int) (i : Int) = _
    unfold slices_IndexFunc_Image_l2_step impl_yimageAt_1
    simp only [decp (show (i : Int) < (l.length : Int) by omega), decp (show (0 : Int) ≤ (i : Int) by omega), Option.bind_some, Bool.and_true, cond_true, wrap_i i l.length hi (by omega)]) (by
    intro k
    show slices_IndexFunc_Image_l2_step (slices_IndexFunc_Image_l2 k) l s (l.length : Int) (l.length : Int) = _
    unfold slices_IndexFunc_Image_l2_step
    simp only [decn (show ¬ (l.length : Int) < (l.length : Int) by omega), cond_false])
  rw [e]
  unfold imAt
  cases findN (fun i => seq (rd R1 l (i : Int)).1 s) l.length 0 <;> rfl
def nil' : ByteArray := ⟨#[]⟩
/-- Does the way back from an image end within so many steps? -/
def ends (l : List Im) : Nat → Nat → Bool
  | 0, i => seq (rd R1 l (i : Int)).2.1 (⟨#[]⟩ : ByteArray)
  | k + 1, i => seq (rd R1 l (i : Int)).2.1 (⟨#[]⟩ : ByteArray) || (!decide (imAt l (rd R1 l (i : Int)).2.1 < 0) && ends l k (imAt l (rd R1 l (i : Int)).2.1).toNat)
theorem ends_mono (l : List Im) : ∀ (k i : Nat), ends l k i = true → ends l (k + 1) i = true
  | 0, i, h => by simp only [ends] at h ⊢; rw [h]; rfl
  | k + 1, i, h => by
    rw [ends] at h ⊢
    simp only [Bool.or_eq_true, Bool.and_eq_true] at h ⊢
    rcases h with h | ⟨h1, h2⟩
    · exact .inl h
    · exact .inr ⟨h1, ends_mono l k _ h2⟩
theorem ends_le (l : List Im) (k m i : Nat) (hk : k ≤ m) (h : ends l k i = true) : ends l m i = true := by
  induction m with
  | zero => have : k = 0 := by omega
            subst this; exact h
  | succ m ih =>
    by_cases e : k = m + 1
    · subst e; exact h
    · exact ends_mono l m i (ih (by omega))
theorem countP_lt {α : Type} (p q : α → Bool) : ∀ (l : List α), (∀ x ∈ l, p x = true → q x = true) → (∃ x ∈ l, q x = true ∧ p x = false) → l.countP p + 1 ≤ l.countP q
  | [], _, h => by obtain ⟨x, hx, _⟩ := h; simp at hx
  | y :: l, hm, h => by
    have hle : l.countP p ≤ l.countP q := List.countP_mono_left fun x hx => hm x (List.mem_cons_of_mem _ hx)
    rw [List.countP_cons, List.countP_cons]
    by_cases hy : q y = true ∧ p y = false
    · rw [hy.1, hy.2]; simp; omega
    · have h' : ∃ x ∈ l, q x = true ∧ p x = false := by
        obtain ⟨x, hx, h1⟩ := h
        rcases List.mem_cons.1 hx with rfl | hx
        · exact absurd h1 hy
        · exact ⟨x, hx, h1⟩
      have := countP_lt p q l (fun x hx => hm x (List.mem_cons_of_mem _ hx)) h'
      have h2 := hm y (by simp)
      cases hp : p y <;> cases hq : q y <;> simp_all <;> omega
/-- A way that ends, but not sooner, goes by as many images. -/
theorem ends_count (l : List Im) : ∀ (k i : Nat), i < l.length → ends l (k + 1) i = true → ends l k i = false → k + 2 ≤ (List.range l.length).countP (ends l (k + 1))
  | 0, i, hi, h1, h0 => by
    have hnext : ∃ x, x < l.length ∧ ends l 0 x = true := by
      rw [ends] at h1
      rw [ends] at h0
      rw [h0, Bool.false_or, Bool.and_eq_true] at h1
      rcases imAt_lt l (rd R1 l (i : Int)).2.1 with hj | hj
      · rw [decp hj] at h1; simp at h1
      · exact ⟨_, by omega, h1.2⟩
    obtain ⟨x, hx, hx0⟩ := hnext
    have h2 := countP_lt (fun _ => false) (ends l 0) (List.range l.length) (by simp) ⟨x, by simpa using hx, hx0, rfl⟩
    have h3 := countP_lt (ends l 0) (ends l 1) (List.range l.length) (fun y _ hy => ends_mono l 0 y hy) ⟨i, by simpa using hi, h1, h0⟩
    show 0 + 2 ≤ (List.range l.length).countP (ends l 1)
    omega
  | k + 1, i, hi, h1, h0 => by
    have hnext : ∃ x, x < l.length ∧ ends l (k + 1) x = true ∧ ends l k x = false := by
      rw [ends] at h1 h0
      simp only [Bool.or_eq_false_iff] at h0
      rw [h0.1, Bool.false_or, Bool.and_eq_true] at h1
      have h02 := h0.2
      rw [h1.1, Bool.true_and] at h02
      rcases imAt_lt l (rd R1 l (i : Int)).2.1 with hj | hj
      · have := h1.1; rw [decp hj] at this; simp at this
      · exact ⟨_, by omega, h1.2, h02⟩
    obtain ⟨x, hx, hx1, hx0⟩ := hnext
    have h2 := ends_count l k x hx hx1 hx0
    have h3 := countP_lt (ends l (k + 1)) (ends l (k + 2)) (List.range l.length) (fun y _ hy => ends_mono l (k + 1) y hy) ⟨i, by simpa using hi, h1, h0⟩
    show k + 1 + 2 ≤ (List.range l.length).countP (ends l (k + 2))
    omega
theorem ends_short (l : List Im) (i : Nat) (hi : i < l.length) : ∀ (k : Nat), ends l k i = true → ends l l.length i = true := by
  intro k
  induction k with
  | zero => intro h; exact ends_le l 0 _ i (by omega) h
  | succ k ih =>
    intro h
    cases h0 : ends l k i with
    | true => exact ih h0
    | false =>
      have h2 := ends_count l k i hi h h0
      have h3 : (List.range l.length).countP (ends l (k + 1)) ≤ l.length := by
        have := List.countP_le_length (p := ends l (k + 1)) (l := List.range l.length)
        simpa using this
      exact ends_le l (k + 1) _ i (by omega) h
theorem ends_same (l : List Im) (i : Nat) (hi : i < l.length) (hl : l.length ≤ 12) : ends l 13 i = ends l (l.length + 1) i := by
  rw [Bool.eq_iff_iff]
  constructor
  · intro h; exact ends_le l _ _ i (by omega) (ends_short l i hi 13 h)
  · intro h; exact ends_le l _ _ i (by omega) h
def imBad (l : List Im) (i : Nat) : Bool := imgBad (rd R1 l (i : Int)) || (imAt l (rd R1 l (i : Int)).1 != (i : Int))
def chBad (l : List Im) : Bool := decide ((l.length : Int) > 12) || (!(findN (imBad l) l.length 0).isNone || !(findN (fun i => !ends l 13 i) l.length 0).isNone)
theorem small_im {l : List Im} (h : small (.slice R1) l) (i : Nat) (hi : i < l.length) : small R1 (rd R1 l (i : Int)) := by
  rw [rd_at R1 l i hi]
  exact h.2 _ (List.getElem_mem hi)
theorem code_ne (b : Bool) : ((bif b then (1 : Int) else 0) != 0) = b := by cases b <;> rfl
theorem spec_walk (l : List Im) (i0 : Int) (hl : l.length ≤ 1048576) : ∀ (d k n : Nat) (a : Nat), n + d = 13 → d < k → a < l.length → spec_ChainFault_l13 k l i0 (a : Int) (n : Int) = some (bif ends l d a then Sum.inr (l, i0, ()) else Sum.inl (1, ())) := by
  intro d
  induction d with
  | zero =>
    intro k n a hn hk ha
    obtain ⟨k, rfl⟩ : ∃ q, k = q + 1 := ⟨k - 1, by omega⟩
    have : n = 13 := by omega
    subst this
    show spec_ChainFault_l13_step (spec_ChainFault_l13 k) l i0 (a : Int) ((13 : Nat) : Int) = _
    unfold spec_ChainFault_l13_step ends
    simp only [decp (show (a : Int) < (l.length : Int) by omega), decp (show (0 : Int) ≤ (a : Int) by omega), Bool.and_true, cond_true, spec_find l _ hl, Option.bind_some]
    rw [decp (show ((13 : Nat) : Int) > 12 by omega), Bool.or_true, cond_true]
    cases seq (rd R1 l (a : Int)).2.1 (⟨#[]⟩ : ByteArray) <;> rfl
  | succ d ih =>
    intro k n a hn hk ha
    obtain ⟨k, rfl⟩ : ∃ q, k = q + 1 := ⟨k - 1, by omega⟩
    show spec_ChainFault_l13_step (spec_ChainFault_l13 k) l i0 (a : Int) (n : Int) = _
    unfold spec_ChainFault_l13_step
    rw [ends]
    simp only [decp (show (a : Int) < (l.length : Int) by omega), decp (show (0 : Int) ≤ (a : Int) by omega), Bool.and_true, cond_true, spec_find l _ hl, Option.bind_some]
    rw [decn (show ¬ (n : Int) > 12 by omega), Bool.or_false]
    cases seq (rd R1 l (a : Int)).2.1 (⟨#[]⟩ : ByteArray) with
    | true => rfl
    | false =>
      simp only [Bool.not_false, cond_true, Bool.false_or]
      rcases imAt_lt l (rd R1 l (a : Int)).2.1 with hj | hj
      · rw [decp hj]; rfl
      · rw [decn (show ¬ imAt l (rd R1 l (a : Int)).2.1 < 0 by omega)]
        simp only [cond_false, Bool.not_false, Bool.true_and]
        have := ih k (n + 1) (imAt l (rd R1 l (a : Int)).2.1).toNat (by omega) (by omega) (by omega)
        rw [Int.toNat_of_nonneg hj.1] at this
        rw [← this, wrap_id (show (-9223372036854775808 : Int) ≤ (n : Int) + 1 by omega) (by omega), show ((n + 1 : Nat) : Int) = (n : Int) + 1 by omega]
theorem impl_walk (l l2 : List Im) (x y : Int) (hl : l.length ≤ 1048576) : ∀ (d k n : Nat) (a : Nat), n + d = l.length + 1 → d < k → a < l.length → impl_ChainFault_l13 k l (n : Int) l2 x y (rd R1 l (a : Int)).1 (rd R1 l (a : Int)).2.1 (rd R1 l (a : Int)).2.2.1 (rd R1 l (a : Int)).2.2.2.1 (rd R1 l (a : Int)).2.2.2.2 = some (bif ends l d a then Sum.inr (l, l2, x, y, ()) else Sum.inl (1, ())) := by
  intro d
  induction d with
  | zero =>
    intro k n a hn hk ha
    obtain ⟨k, rfl⟩ : ∃ q, k = q + 1 := ⟨k - 1, by omega⟩
    show impl_ChainFault_l13_step (impl_ChainFault_l13 k) l (n : Int) l2 x y _ _ _ _ _ = _
    unfold impl_ChainFault_l13_step ends
    simp only [impl_at l _ hl, Option.bind_some]
    rw [decp (show (n : Int) > (l.length : Int) by omega), Bool.or_true, cond_true]
    cases seq (rd R1 l (a : Int)).2.1 (⟨#[]⟩ : ByteArray) <;> rfl
  | succ d ih =>
    intro k n a hn hk ha
    obtain ⟨k, rfl⟩ : ∃ q, k = q + 1 := ⟨k - 1, by omega⟩
    show impl_ChainFault_l13_step (impl_ChainFault_l13 k) l (n : Int) l2 x y _ _ _ _ _ = _
    unfold impl_ChainFault_l13_step
    rw [ends]
    simp only [impl_at l _ hl, Option.bind_some]
    rw [decn (show ¬ (n : Int) > (l.length : Int) by omega), Bool.or_false]
    cases seq (rd R1 l (a : Int)).2.1 (⟨#[]⟩ : ByteArray) with
    | true => rfl
    | false =>
      simp only [Bool.not_false, cond_true, Bool.false_or]
      rcases imAt_lt l (rd R1 l (a : Int)).2.1 with hj | hj
      · rw [decp hj]; rfl
      · rw [decn (show ¬ imAt l (rd R1 l (a : Int)).2.1 < 0 by omega), decp hj.1, decp hj.2]
        simp only [cond_false, cond_true, Bool.not_false, Bool.true_and, Bool.and_self]
        have := ih k (n + 1) (imAt l (rd R1 l (a : Int)).2.1).toNat (by omega) (by omega) (by omega)
        rw [Int.toNat_of_nonneg hj.1] at this
        rw [← this, wrap_id (show (-9223372036854775808 : Int) ≤ (n : Int) + 1 by omega) (by omega), show ((n + 1 : Nat) : Int) = (n : Int) + 1 by omega]
theorem spec_chain (l : List Im) (h : small (.slice R1) l) : spec_ChainFault l = some (bif chBad l then 1 else 0, ()) := by
  have hl : l.length ≤ 1048576 := h.1
  unfold spec_ChainFault chBad
  have e1 : spec_ChainFault_l4 K0 l 0 = _ := find_loop (fun k i => spec_ChainFault_l4 k l (i : Int)) l.length (imBad l) (fun _ => Sum.inl (1, ())) (Sum.inr (l, ())) (by omega) (by
    intro k i hi
    show spec_ChainFault_l4_step (spec_ChainFault_l4 k) l (i : Int) = _
    unfold spec_ChainFault_l4_step imBad
    simp only [decp (show (i : Int) < (l.length : Int) by omega), decp (show (0 : Int) ≤ (i : Int) by omega), spec_image _ (small_im h i hi), spec_find l _ hl, Option.bind_some, Option.getD_some, Option.isSome_some, code_ne, Bool.and_true, Bool.or_true, cond_true, wrap_i i l.length hi (by omega)]) (by
    intro k
    show spec_ChainFault_l4_step (spec_ChainFault_l4 k) l (l.length : Int) = _
    unfold spec_ChainFault_l4_step
    simp only [decn (show ¬ (l.length : Int) < (l.length : Int) by omega), cond_false])
  have e2 : spec_ChainFault_l9 K0 l 0 = _ := find_loop (fun k i => spec_ChainFault_l9 k l (i : Int)) l.length (fun i => !ends l 13 i) (fun _ => Sum.inl (1, ())) (Sum.inr ()) (by omega) (by
    intro k i hi
    show spec_ChainFault_l9_step (spec_ChainFault_l9 k) l (i : Int) = _
    unfold spec_ChainFault_l9_step
    have hw : spec_ChainFault_l13 K0 l (i : Int) (i : Int) 0 = _ := spec_walk l (i : Int) hl 13 K0 0 i (by omega) (by rw [K0_eq]; omega) hi
    simp only [decp (show (i : Int) < (l.length : Int) by omega), cond_true]
    rw [hw]
    cases ends l 13 i with
    | true => simp only [cond_true, Option.bind_some, Bool.not_true, cond_false, wrap_i i l.length hi (by omega)]
    | false => rfl) (by
    intro k
    show spec_ChainFault_l9_step (spec_ChainFault_l9 k) l (l.length : Int) = _
    unfold spec_ChainFault_l9_step
    simp only [decn (show ¬ (l.length : Int) < (l.length : Int) by omega), cond_false])
  dsimp only
  cases decide ((l.length : Int) > 12) with
  | true => rfl
  | false =>
    rw [cond_false, e1, Bool.false_or]
    cases findN (imBad l) l.length 0 with
    | some j => rfl
    | none =>
      simp only [Option.bind_some]
      rw [e2]
      cases findN (fun i => !ends l 13 i) l.length 0 <;> rfl
theorem impl_chain (l : List Im) (h : small (.slice R1) l) : impl_ChainFault l = some (bif chBad l then 1 else 0, ()) := by
  have hl : l.length ≤ 1048576 := h.1
  unfold impl_ChainFault chBad
  have e1 : impl_ChainFault_l4 K0 l l (l.length : Int) 0 = _ := find_loop (fun k i => impl_ChainFault_l4 k l l (l.length : Int) (i : Int)) l.length (imBad l) (fun _ => Sum.inl (1, ())) (Sum.inr (l, ())) (by omega) (by
    intro k i hi
    show impl_ChainFault_l4_step (impl_ChainFault_l4 k) l l (l.length : Int) (i : Int) = _
    unfold impl_ChainFault_l4_step imBad
    simp only [decp (show (i : Int) < (l.length : Int) by omega), decp (show (0 : Int) ≤ (i : Int) by omega), impl_image _ (small_im h i hi), impl_at l _ hl, Option.bind_some, Option.getD_some, Option.isSome_some, code_ne, Bool.and_true, Bool.or_true, cond_true, wrap_i i l.length hi (by omega)]) (by
    intro k
    show impl_ChainFault_l4_step (impl_ChainFault_l4 k) l l (l.length : Int) (l.length : Int) = _
    unfold impl_ChainFault_l4_step
    simp only [decn (show ¬ (l.length : Int) < (l.length : Int) by omega), cond_false])
  dsimp only
  by_cases h12 : (l.length : Int) > 12
  · rw [decp h12]; rfl
  rw [decn h12, cond_false, e1, Bool.false_or]
  have e2 : impl_ChainFault_l10 K0 l l (l.length : Int) 0 = _ := find_loop (fun k i => impl_ChainFault_l10 k l l (l.length : Int) (i : Int)) l.length (fun i => !ends l 13 i) (fun _ => Sum.inl (1, ())) (Sum.inr ()) (by omega) (by
    intro k i hi
    show impl_ChainFault_l10_step (impl_ChainFault_l10 k) l l (l.length : Int) (i : Int) = _
    unfold impl_ChainFault_l10_step
    have hw : impl_ChainFault_l13 K0 l 0 l (l.length : Int) (i : Int) _ _ _ _ _ = _ := impl_walk l l (l.length : Int) (i : Int) hl (l.length + 1) K0 0 i (by omega) (by rw [K0_eq]; omega) hi
    simp only [decp (show (i : Int) < (l.length : Int) by omega), decp (show (0 : Int) ≤ (i : Int) by omega), Bool.and_true, cond_true]
    rw [hw, ends_same l i hi (by omega)]
    cases ends l (l.length + 1) i with
    | true => simp only [cond_true, Option.bind_some, Bool.not_true, cond_false, wrap_i i l.length hi (by omega)]
    | false => rfl) (by
    intro k
    show impl_ChainFault_l10_step (impl_ChainFault_l10 k) l l (l.length : Int) (l.length : Int) = _
    unfold impl_ChainFault_l10_step
    simp only [decn (show ¬ (l.length : Int) < (l.length : Int) by omega), cond_false])
  cases findN (imBad l) l.length 0 with
  | some j => rfl
  | none =>
    simp only [Option.bind_some]
    rw [e2]
    cases findN (fun i => !ends l 13 i) l.length 0 <;> rfl
def behind (l : List Im) (s : ByteArray) : Nat := l.countP (fun x => seq x.2.1 s)
theorem behind_fold (s : ByteArray) : ∀ (l : List Im) (c : Int), 0 ≤ c → c + (l.length : Int) ≤ 4000000000000000000 → l.foldl (fun c x => bif seq x.2.1 s then wrap64 (c + 1) else c) c = c + (behind l s : Int)
  | [], c, _, _ => by simp [behind]
  | x :: l, c, h0, h1 => by
    simp only [List.length_cons] at h1
    rw [List.foldl_cons]
    unfold behind
    rw [List.countP_cons]
    cases seq x.2.1 s with
    | true =>
      rw [cond_true, wrap_id (by omega) (by omega), behind_fold s l (c + 1) (by omega) (by omega)]
      simp only [if_true]
      unfold behind
      omega
    | false =>
      rw [cond_false, behind_fold s l c h0 (by omega)]
      simp only [Bool.false_eq_true, if_false, Nat.add_zero]
      rfl
theorem spec_behind (l : List Im) (s : ByteArray) (h : l.length ≤ 1048576) : spec_l14Behind l s = some ((behind l s : Int), ()) := by
  unfold spec_l14Behind
  have e : spec_l14Behind_l3 K0 l s 0 0 = _ := fold_loop (fun k i c => spec_l14Behind_l3 k l s c (i : Int)) l (fun c x => bif seq x.2.1 s then wrap64 (c + 1) else c) (fun c => (c, ())) (by omega) (by
    intro k i c hi
    show spec_l14Behind_l3_step (spec_l14Behind_l3 k) l s c (i : Int) = _
    unfold spec_l14Behind_l3_step
    simp only [decp (show (i : Int) < (l.length : Int) by omega), decp (show (0 : Int) ≤ (i : Int) by omega), rd_at R1 l i hi, Bool.and_true, cond_true, Bool.cond_self, wrap_i i l.length hi (by omega)]) (by
    intro k c
    show spec_l14Behind_l3_step (spec_l14Behind_l3 k) l s c (l.length : Int) = _
    unfold spec_l14Behind_l3_step
    simp only [decn (show ¬ (l.length : Int) < (l.length : Int) by omega), cond_false]) 0
  rw [e, behind_fold s l 0 (by omega) (by omega), Int.zero_add]
  rfl
theorem behind_any (l : List Im) (s : ByteArray) : decide ((behind l s : Int) > 0) = l.any (fun x => seq x.2.1 s) := by
  unfold behind
  rw [Bool.eq_iff_iff]
  simp only [decide_eq_true_eq, List.any_eq_true]
  constructor
  · intro h
    have : 0 < l.countP (fun x => seq x.2.1 s) := by omega
    rw [List.countP_pos_iff] at this
    exact this
  · intro h
    have : 0 < l.countP (fun x => seq x.2.1 s) := List.countP_pos_iff.2 h
    omega
theorem impl_behind (l : List Im) (s : ByteArray) (h : l.length ≤ 1048576) : impl_ybehind l s = some (l.any (fun x => seq x.2.1 s), ()) := by
  unfold impl_ybehind slices_ContainsFunc_Image slices_IndexFunc_Image_v2
  have e : slices_IndexFunc_Image_v2_l2 K0 l s (l.length : Int) 0 = _ := find_loop (fun k i => slices_IndexFunc_Image_v2_l2 k l s (l.length : Int) (i : Int)) l.length (fun i => seq (rd R1 l (i : Int)).2.1 s) (fun i => Sum.inl ((i : Int), ())) (Sum.inr ()) (by omega) (by
    intro k i hi
    show slices_IndexFunc_Image_v2_l2_step (slices_IndexFunc_Image_v2_l2 k) l s (l.length : Int) (i : Int) = _
    unfold slices_IndexFunc_Image_v2_l2_step impl_ybehind_1
    simp only [decp (show (i : Int) < (l.length : Int) by omega), decp (show (0 : Int) ≤ (i : Int) by omega), Option.bind_some, Bool.and_true, cond_true, wrap_i i l.length hi (by omega)]) (by
    intro k
    show slices_IndexFunc_Image_v2_l2_step (slices_IndexFunc_Image_v2_l2 k) l s (l.length : Int) (l.length : Int) = _
    unfold slices_IndexFunc_Image_v2_l2_step
    simp only [decn (show ¬ (l.length : Int) < (l.length : Int) by omega), cond_false])
  have hf : (findN (fun i => seq (rd R1 l (i : Int)).2.1 s) l.length 0).isNone = !l.any (fun x => seq x.2.1 s) := findN_any (t := R1) (fun x => seq x.2.1 s) l
  rw [e]
  cases hq : findN (fun i => seq (rd R1 l (i : Int)).2.1 s) l.length 0 with
  | none =>
    rw [hq] at hf
    have : l.any (fun x => seq x.2.1 s) = false := by simpa using hf
    rw [this]
    rfl
  | some j =>
    rw [hq] at hf
    have : l.any (fun x => seq x.2.1 s) = true := by simpa using hf
    rw [this]
    simp only [Option.bind_some]
    rw [decp (show (j : Int) ≥ 0 by omega)]
/-! bits -/
def bitv (d : ByteArray) (b k : Int) : Int := bits .and .u8 (shr .u8 (bt d b) k) 1
theorem u8_and_one (x : Int) : bits .and .u8 x 1 = 0 ∨ bits .and .u8 x 1 = 1 := by
  unfold bits
  simp only
  have h2 : (BitVec.ofInt IntKind.u8.bits x &&& BitVec.ofInt IntKind.u8.bits 1).toNat ≤ 1 := by
    rw [BitVec.toNat_and]
    exact Nat.le_trans Nat.and_le_right (by decide)
  have h3 : (BitVec.ofInt IntKind.u8.bits x &&& BitVec.ofInt IntKind.u8.bits 1).toNat = 0 ∨ (BitVec.ofInt IntKind.u8.bits x &&& BitVec.ofInt IntKind.u8.bits 1).toNat = 1 := by omega
  rcases h3 with h | h
  · left; rw [h]; decide
  · right; rw [h]; decide
def hb (d : ByteArray) (i : Nat) : Bool := decide (i / 8 < d.size) && (bitv d ((i / 8 : Nat) : Int) ((i % 8 : Nat) : Int) == 1)
theorem div8 (i : Nat) (h : i ≤ 1048576) : wrap64 (Int.tdiv (i : Int) 8) = ((i / 8 : Nat) : Int) ∧ Int.tmod (i : Int) 8 = ((i % 8 : Nat) : Int) := by
  have h1 : Int.tdiv (i : Int) 8 = ((i / 8 : Nat) : Int) := by rw [Int.tdiv_eq_ediv_of_nonneg (by omega)]; omega
  have h2 : Int.tmod (i : Int) 8 = ((i % 8 : Nat) : Int) := by rw [Int.tmod_eq_emod_of_nonneg (by omega)]; omega
  rw [h1, h2]
  exact ⟨wrap_id (by omega) (by omega), rfl⟩
theorem impl_hasBit (d : ByteArray) (i : Nat) (h : i ≤ 1048576) : impl_yhasBit d (i : Int) = some (hb d i, ()) := by
  obtain ⟨h1, h2⟩ := div8 i h
  unfold impl_yhasBit hb bitv
  simp only [h1, h2]
  rw [decp (show (i : Int) ≥ 0 by omega), decp (show 0 ≤ ((i / 8 : Nat) : Int) by omega), decp (show 0 ≤ ((i % 8 : Nat) : Int) by omega)]
  have e : decide (((i / 8 : Nat) : Int) < (d.size : Int)) = decide (i / 8 < d.size) := by rw [Bool.eq_iff_iff, decide_eq_true_iff, decide_eq_true_iff]; omega
  rw [e]
  cases decide (i / 8 < d.size) <;> rfl
theorem spec_hasBit (d : ByteArray) (i : Nat) (h : i ≤ 1048576) (hd : d.size ≤ 65536) : spec_HasBit d (i : Int) = some (hb d i, ()) := by
  obtain ⟨h1, h2⟩ := div8 i h
  have h3 : IntKind.u64.wrap ((i % 8 : Nat) : Int) = ((i % 8 : Nat) : Int) := by
    unfold IntKind.wrap
    simp [IntKind.signed, IntKind.bits]
    omega
  unfold spec_HasBit hb bitv
  simp only [h1, h2, h3]
  rw [decp (show (i : Int) ≥ 0 by omega), decp (show 0 ≤ ((i / 8 : Nat) : Int) by omega), decp (show 0 ≤ ((i % 8 : Nat) : Int) by omega), decp (show (d.size : Int) ≤ 65536 by omega)]
  have e : decide (((i / 8 : Nat) : Int) < (d.size : Int)) = decide (i / 8 < d.size) := by rw [Bool.eq_iff_iff, decide_eq_true_iff, decide_eq_true_iff]; omega
  rw [e]
  cases decide (i / 8 < d.size) <;> rfl
theorem sum01 {α : Type} (v : α → Int) (hv : ∀ x, v x = 0 ∨ v x = 1) : ∀ (l : List α) (s : Int), 0 ≤ s → s + (l.length : Int) ≤ 4000000000000000000 → ∃ c : Nat, c ≤ l.length ∧ l.foldl (fun s x => wrap64 (s + v x)) s = s + c ∧ (c = 0 ↔ ∀ x ∈ l, v x = 0)
  | [], s, _, _ => ⟨0, by simp, by simp, by simp⟩
  | x :: l, s, h0, h1 => by
    simp only [List.length_cons] at h1
    rw [List.foldl_cons]
    rcases hv x with hx | hx
    · rw [hx, Int.add_zero, wrap_id (by omega) (by omega)]
      obtain ⟨c, c1, c2, c3⟩ := sum01 v hv l s h0 (by omega)
      exact ⟨c, by simp; omega, c2, by rw [c3]; simp [hx]⟩
    · rw [hx, wrap_id (by omega) (by omega)]
      obtain ⟨c, c1, c2, c3⟩ := sum01 v hv l (s + 1) (by omega) (by omega)
      refine ⟨c + 1, by simp; omega, by rw [c2]; omega, by simp [hx]⟩
theorem sum01s {α : Type} (g : Int → α → Int) (z : α → Prop) (hg : ∀ s x, 0 ≤ s → s ≤ 3000000000000000000 → ∃ c : Nat, c ≤ 8 ∧ g s x = s + c ∧ (c = 0 ↔ z x)) : ∀ (l : List α) (s : Int), 0 ≤ s → s + 8 * (l.length : Int) ≤ 3000000000000000000 → ∃ c : Nat, l.foldl g s = s + c ∧ (c = 0 ↔ ∀ x ∈ l, z x)
  | [], s, _, _ => ⟨0, by simp, by simp⟩
  | x :: l, s, h0, h1 => by
    simp only [List.length_cons] at h1
    rw [List.foldl_cons]
    obtain ⟨c, c1, c2, c3⟩ := hg s x h0 (by omega)
    rw [c2]
    obtain ⟨d, d2, d3⟩ := sum01s g z hg l (s + c) (by omega) (by omega)
    refine ⟨c + d, by rw [d2]; omega, ?_⟩
    simp only [List.mem_cons, forall_eq_or_imp]
    rw [← c3, ← d3]
    omega
/-- Is any bit set? -/
def anyBit (d : ByteArray) : Bool := !(findN (hb d) (8 * d.size) 0).isNone
theorem spec_count (d : ByteArray) (hd : d.size ≤ 8) : ∃ c, spec_CountBits d = some (c, ()) ∧ decide (c > 0) = anyBit d := by
  have hw : wrap64 ((8 : Int) * (d.size : Int)) = ((8 * d.size : Nat) : Int) := by rw [wrap_id (by omega) (by omega)]; omega
  unfold spec_CountBits
  have hrl : (List.range (8 * d.size)).length = 8 * d.size := by simp
  have e : spec_CountBits_l3 K0 d 0 0 = _ := fold_loop (fun k i s => spec_CountBits_l3 k d s (i : Int)) (List.range (8 * d.size)) (fun s x => wrap64 (s + (bif hb d x then 1 else 0))) (fun s => (s, ())) (by omega) (by
    intro k i s hi
    rw [hrl] at hi
    show spec_CountBits_l3_step (spec_CountBits_l3 k) d s (i : Int) = _
    unfold spec_CountBits_l3_step
    simp only [hw, decp (show (i : Int) < ((8 * d.size : Nat) : Int) by omega), cond_true, spec_hasBit d i (by omega) (by omega), spec_bool, Option.bind_some, List.getElem_range, wrap_i i (8 * d.size) hi (by omega)]) (by
    intro k s
    rw [hrl]
    show spec_CountBits_l3_step (spec_CountBits_l3 k) d s ((8 * d.size : Nat) : Int) = _
    unfold spec_CountBits_l3_step
    simp only [hw, decn (show ¬ ((8 * d.size : Nat) : Int) < ((8 * d.size : Nat) : Int) by omega), cond_false]) 0
  obtain ⟨c, c1, c2, c3⟩ := sum01 (fun x => (bif hb d x then (1 : Int) else 0)) (fun x => by cases hb d x <;> simp) (List.range (8 * d.size)) 0 (by omega) (by rw [hrl]; omega)
  rw [e, c2]
  refine ⟨_, rfl, ?_⟩
  unfold anyBit
  rw [Bool.eq_iff_iff]
  simp only [decide_eq_true_eq, Bool.not_eq_true']
  constructor
  · intro h
    cases hf : findN (hb d) (8 * d.size) 0 with
    | some j => rfl
    | none =>
      have : c = 0 := c3.2 fun x hx => by rw [findN_none hf x (by omega) (by simpa using hx)]; rfl
      omega
  · intro h
    cases hf : findN (hb d) (8 * d.size) 0 with
    | none => rw [hf] at h; cases h
    | some j =>
      obtain ⟨_, h2, h3⟩ := findN_some hf
      have : c ≠ 0 := fun h0 => by
        have := c3.1 h0 j (by simp; omega)
        rw [h3] at this
        cases this
      omega
theorem impl_count (d : ByteArray) (hd : d.size ≤ 8) : ∃ c, impl_ycountBits d = some (c, ()) ∧ decide (c > 0) = anyBit d := by
  unfold impl_ycountBits
  have hrl : (List.range d.size).length = d.size := by simp
  have hwv : ∀ b k, wrap64 (bitv d b k) = bitv d b k := fun b k => by rcases u8_and_one (shr .u8 (bt d b) k) with h | h <;> (unfold bitv; rw [h]; exact wrap_id (by decide) (by decide))
  have e : impl_ycountBits_l3 K0 d 0 (d.size : Int) 0 = _ := fold_loop (fun k i s => impl_ycountBits_l3 k d s (d.size : Int) (i : Int)) (List.range d.size) (fun (s : Int) (x : Nat) => (List.range 8).foldl (fun (s : Int) (k : Nat) => wrap64 (s + bitv d (x : Int) (k : Int))) s) (fun s => (s, ())) (by omega) (by
    intro k i s hi
    rw [hrl] at hi
    show impl_ycountBits_l3_step (impl_ycountBits_l3 k) d s (d.size : Int) (i : Int) = _
    unfold impl_ycountBits_l3_step
    have e2 : impl_ycountBits_l6 K0 d s (i : Int) (d.size : Int) (i : Int) 0 = _ := fold_loop (fun k q s => impl_ycountBits_l6 k d s (i : Int) (d.size : Int) (i : Int) (q : Int)) (List.range 8) (fun (s : Int) (k : Nat) => wrap64 (s + bitv d (i : Int) (k : Int))) (fun s => (d, s, (d.size : Int), (i : Int), ())) (by simp) (by
      intro k q s hq
      simp only [List.length_range] at hq
      show impl_ycountBits_l6_step (impl_ycountBits_l6 k) d s (i : Int) (d.size : Int) (i : Int) (q : Int) = _
      unfold impl_ycountBits_l6_step
      have hv := hwv (i : Int) (q : Int)
      unfold bitv at hv ⊢
      simp only [decp (show (q : Int) < 8 by omega), decp (show (0 : Int) ≤ (q : Int) by omega), decp (show (0 : Int) ≤ (i : Int) by omega), decp (show (i : Int) < (d.size : Int) by omega), Bool.and_true, cond_true, hv, List.getElem_range, wrap_i q 8 hq (by omega)]) (by
      intro k s
      show impl_ycountBits_l6_step (impl_ycountBits_l6 k) d s (i : Int) (d.size : Int) (i : Int) (((List.range 8).length : Nat) : Int) = _
      unfold impl_ycountBits_l6_step
      simp only [List.length_range, decn (show ¬ ((8 : Nat) : Int) < 8 by omega), cond_false]) s
    simp only [decp (show (i : Int) < (d.size : Int) by omega), cond_true]
    rw [e2]
    simp only [Option.bind_some, List.getElem_range, wrap_i i d.size hi (by omega)]) (by
    intro k s
    rw [hrl]
    show impl_ycountBits_l3_step (impl_ycountBits_l3 k) d s (d.size : Int) (d.size : Int) = _
    unfold impl_ycountBits_l3_step
    simp only [decn (show ¬ (d.size : Int) < (d.size : Int) by omega), cond_false]) 0
  obtain ⟨c, c2, c3⟩ := sum01s (fun (s : Int) (x : Nat) => (List.range 8).foldl (fun (s : Int) (k : Nat) => wrap64 (s + bitv d (x : Int) (k : Int))) s) (fun x => ∀ k ∈ List.range 8, bitv d (x : Int) ((k : Nat) : Int) = 0) (fun s x h0 h1 => by
    obtain ⟨c, c1, c2, c3⟩ := sum01 (fun (k : Nat) => bitv d (x : Int) (k : Int)) (fun k => u8_and_one _) (List.range 8) s h0 (by simp; omega)
    exact ⟨c, by simpa using c1, c2, c3⟩) (List.range d.size) 0 (by omega) (by rw [hrl]; omega)
  rw [e, c2]
  refine ⟨_, rfl, ?_⟩
  unfold anyBit
  rw [Bool.eq_iff_iff]
  simp only [decide_eq_true_eq, Bool.not_eq_true']
  constructor
  · intro h
    cases hf : findN (hb d) (8 * d.size) 0 with
    | some j => rfl
    | none =>
      have : c = 0 := c3.2 fun x hx k hk => by
        simp only [List.mem_range] at hx hk
        have := findN_none hf (8 * x + k) (by omega) (by omega)
        unfold hb at this
        rw [show (8 * x + k) / 8 = x by omega, show (8 * x + k) % 8 = k by omega, decp hx, Bool.true_and] at this
        rcases u8_and_one (shr .u8 (bt d (x : Int)) (k : Int)) with h1 | h1
        · exact h1
        · unfold bitv at this; rw [h1] at this; cases this
      omega
  · intro h
    cases hf : findN (hb d) (8 * d.size) 0 with
    | none => rw [hf] at h; cases h
    | some j =>
      obtain ⟨_, h2, h3⟩ := findN_some hf
      have : c ≠ 0 := fun h0 => by
        unfold hb at h3
        simp only [Bool.and_eq_true, decide_eq_true_eq, beq_iff_eq] at h3
        have := c3.1 h0 (j / 8) (by simp; exact h3.1) (j % 8) (by simp; omega)
        rw [h3.2] at this
        cases this
      omega
theorem countP_split {α : Type} (p b : α → Bool) : ∀ (l : List α), l.countP p = l.countP (fun x => p x && b x) + l.countP (fun x => p x && !b x)
  | [] => rfl
  | x :: l => by
    rw [List.countP_cons, List.countP_cons, List.countP_cons, countP_split p b l]
    cases p x <;> cases b x <;> simp <;> omega
theorem countP_one {α : Type} (r : α → Bool) (l : List α) (k : Nat) (hk : k < l.length) (h1 : r l[k] = true) (h2 : ∀ i, (hi : i < l.length) → i ≠ k → r l[i] = false) : l.countP r = 1 := by
  have e : l = l.take k ++ l[k] :: l.drop (k + 1) := by rw [← List.drop_eq_getElem_cons hk, List.take_append_drop]
  rw [e, List.countP_append, List.countP_cons, h1]
  have z1 : (l.take k).countP r = 0 := by
    rw [List.countP_eq_zero]
    intro x hx
    obtain ⟨i, hi, rfl⟩ := List.getElem_of_mem hx
    rw [List.length_take] at hi
    rw [List.getElem_take, h2 i (by omega) (by omega)]
    simp
  have z2 : (l.drop (k + 1)).countP r = 0 := by
    rw [List.countP_eq_zero]
    intro x hx
    obtain ⟨i, hi, rfl⟩ := List.getElem_of_mem hx
    rw [List.length_drop] at hi
    rw [List.getElem_drop, h2 (k + 1 + i) (by omega) (by omega)]
    simp
  rw [z1, z2]
  rfl
theorem seq_left {x y z : ByteArray} (h : seq x y = true) : seq z x = seq z y := by
  unfold seq at h ⊢
  rw [beq_iff_eq] at h
  rw [h]
theorem imAt_seq (l : List Im) {x y : ByteArray} (h : seq x y = true) : imAt l x = imAt l y := by
  unfold imAt
  have : (fun i : Nat => seq (rd R1 l (i : Int)).1 x) = fun i : Nat => seq (rd R1 l (i : Int)).1 y := by funext i; exact seq_left h
  rw [this]
structure Good (l : List Im) : Prop where
  len : l.length ≤ 12
  img : ∀ i, i < l.length → imgBad (rd R1 l (i : Int)) = false
  uniq : ∀ i, i < l.length → imAt l (rd R1 l (i : Int)).1 = (i : Int)
  ends : ∀ i, i < l.length → ends l 13 i = true
theorem good_of {l : List Im} (h : chBad l = false) : Good l := by
  unfold chBad at h
  simp only [Bool.or_eq_false_iff, decide_eq_false_iff_not, Bool.not_eq_false', Option.isNone_iff_eq_none] at h
  obtain ⟨h1, h2, h3⟩ := h
  refine ⟨by omega, fun i hi => ?_, fun i hi => ?_, fun i hi => ?_⟩
  · have := findN_none h2 i (by omega) (by omega)
    unfold imBad at this
    simp only [Bool.or_eq_false_iff] at this
    exact this.1
  · have := findN_none h2 i (by omega) (by omega)
    unfold imBad at this
    simp only [Bool.or_eq_false_iff] at this
    have := this.2
    simpa using this
  · have := findN_none h3 i (by omega) (by omega)
    simpa using this
theorem Good.back {l : List Im} (h : Good l) (i : Nat) (hi : i < l.length) (hb : seq (rd R1 l (i : Int)).2.1 (⟨#[]⟩ : ByteArray) = false) : 0 ≤ imAt l (rd R1 l (i : Int)).2.1 ∧ imAt l (rd R1 l (i : Int)).2.1 < (l.length : Int) := by
  have := h.ends i hi
  rw [Go.Ab.FnExactJobFault.Pure.ends, hb, Bool.false_or, Bool.and_eq_true] at this
  rcases imAt_lt l (rd R1 l (i : Int)).2.1 with hj | hj
  · have := this.1; rw [decp hj] at this; simp at this
  · exact hj
theorem Good.table {l : List Im} (h : Good l) (i : Nat) (hi : i < l.length) : (rd R1 l (i : Int)).2.2.1.length ≤ 64 := by
  have := h.img i hi
  unfold imgBad at this
  simp only [Bool.or_eq_false_iff, decide_eq_false_iff_not] at this
  have h9 : ¬ ((rd R1 l (i : Int)).2.2.1.length : Int) > 64 := this.1.1.1.1.2.2
  omega
def multiI (l : List Im) (a : Im) : Bool := !(findN (fun i => seq (rd R1 l (i : Int)).2.1 a.2.1 && !seq (rd R1 l (i : Int)).1 a.1) l.length 0).isNone
theorem multi_same {l : List Im} (h : Good l) (k : Nat) (hk : k < l.length) : decide ((behind l (rd R1 l (k : Int)).2.1 : Int) > 1) = multiI l (rd R1 l (k : Int)) := by
  have hq : multiI l (rd R1 l (k : Int)) = l.any (fun x => seq x.2.1 (rd R1 l (k : Int)).2.1 && !seq x.1 (rd R1 l (k : Int)).1) := by
    unfold multiI
    rw [findN_any (t := R1) (fun x => seq x.2.1 (rd R1 l (k : Int)).2.1 && !seq x.1 (rd R1 l (k : Int)).1) l, Bool.not_not]
  rw [hq]
  unfold behind
  rw [countP_split (fun x => seq x.2.1 (rd R1 l (k : Int)).2.1) (fun x => seq x.1 (rd R1 l (k : Int)).1) l]
  have h1 : l.countP (fun x => seq x.2.1 (rd R1 l (k : Int)).2.1 && seq x.1 (rd R1 l (k : Int)).1) = 1 := by
    refine countP_one _ l k hk ?_ fun i hi hne => ?_
    · rw [rd_at R1 l k hk, seq_self, seq_self]; rfl
    · rw [Bool.eq_false_iff]
      intro hr
      rw [Bool.and_eq_true] at hr
      have e := imAt_seq l hr.2
      have u1 := h.uniq i hi
      rw [rd_at R1 l i hi] at u1
      rw [u1, h.uniq k hk] at e
      omega
  rw [h1, Bool.eq_iff_iff]
  simp only [decide_eq_true_eq, List.any_eq_true]
  constructor
  · intro hc
    have : 0 < l.countP (fun x => seq x.2.1 (rd R1 l (k : Int)).2.1 && !seq x.1 (rd R1 l (k : Int)).1) := by omega
    rw [List.countP_pos_iff] at this
    exact this
  · intro hc
    have : 0 < l.countP (fun x => seq x.2.1 (rd R1 l (k : Int)).2.1 && !seq x.1 (rd R1 l (k : Int)).1) := List.countP_pos_iff.2 hc
    omega
def ytB (kind : Int) (target : ByteArray) : Bool := decide (1 ≤ kind ∧ kind ≤ 3) && ((!seq target (⟨#[]⟩ : ByteArray)) == (kind == 3))
/-- What a job may not begin at. -/
def startB (l : List Im) (act : ByteArray) (k : Nat) (kind : Int) (target : ByteArray) : Bool :=
  let a := rd R1 l (k : Int)
  bif kind == 1 then seq a.2.1 (⟨#[]⟩ : ByteArray) else
  bif kind == 2 then (seq a.2.1 (⟨#[]⟩ : ByteArray) || (multiI l a || (decide ((a.2.2.2.2.length : Int) > 0) || decide (((rd R1 l (imAt l a.2.1)).2.2.1.length : Int) < (a.2.2.1.length : Int))))) else
  bif kind == 3 then ((decide (imAt l target < 0) || seq target act) || (((l.any (fun x => seq x.2.1 target) || !seq (rd R1 l (imAt l target)).2.1 (⟨#[]⟩ : ByteArray)) || decide (((rd R1 l (imAt l target)).2.2.2.2.length : Int) > 0)) || (((rd R1 l (imAt l target)).2.2.1.length : Int) != (a.2.2.1.length : Int)))) else false
theorem impl_start {l : List Im} (h : Good l) (hl : l.length ≤ 1048576) (act : ByteArray) (k : Nat) (hk : k < l.length) (ha : imAt l act = (k : Int)) (x0 x1 : Int) (x2 x3 : ByteArray) (kind next : Int) (dirty target : ByteArray) :
    ∃ c, impl_JobState_ystart l act x0 x1 x2 x3 kind next dirty target = some (c, ()) ∧ (c != 0) = startB l act k kind target := by
  unfold impl_JobState_ystart startB
  rw [impl_at l act hl, ha]
  simp only [Option.bind_some, decp (show (0 : Int) ≤ (k : Int) by omega), decp (show (k : Int) < (l.length : Int) by omega), Bool.and_true, cond_true]
  cases (kind == 1) with
  | true =>
    simp only [cond_true]
    cases seq (rd R1 l (k : Int)).2.1 (⟨#[]⟩ : ByteArray) <;> exact ⟨_, rfl, rfl⟩
  | false =>
    simp only [cond_false]
    cases (kind == 2) with
    | true =>
      simp only [cond_true]
      cases hb : seq (rd R1 l (k : Int)).2.1 (⟨#[]⟩ : ByteArray) with
      | true => exact ⟨_, rfl, rfl⟩
      | false =>
        simp only [cond_false, Bool.false_or]
        have hbk := h.back k hk hb
        have e : impl_JobState_ystart_l10 K0 l (l.length : Int) 0 l act x0 x1 x2 x3 (rd R1 l (k : Int)).1 (rd R1 l (k : Int)).2.1 (rd R1 l (k : Int)).2.2.1 (rd R1 l (k : Int)).2.2.2.1 (rd R1 l (k : Int)).2.2.2.2 = _ :=
          find_loop (fun q i => impl_JobState_ystart_l10 q l (l.length : Int) (i : Int) l act x0 x1 x2 x3 (rd R1 l (k : Int)).1 (rd R1 l (k : Int)).2.1 (rd R1 l (k : Int)).2.2.1 (rd R1 l (k : Int)).2.2.2.1 (rd R1 l (k : Int)).2.2.2.2) l.length (fun i => seq (rd R1 l (i : Int)).2.1 (rd R1 l (k : Int)).2.1 && !seq (rd R1 l (i : Int)).1 (rd R1 l (k : Int)).1) (fun _ => Sum.inl (7, ())) (Sum.inr (l, act, x0, x1, x2, x3, (rd R1 l (k : Int)).1, (rd R1 l (k : Int)).2.1, (rd R1 l (k : Int)).2.2.1, (rd R1 l (k : Int)).2.2.2.1, (rd R1 l (k : Int)).2.2.2.2, ())) (by omega) (by
            intro q i hi
            show impl_JobState_ystart_l10_step (impl_JobState_ystart_l10 q) l (l.length : Int) (i : Int) l act x0 x1 x2 x3 _ _ _ _ _ = _
            unfold impl_JobState_ystart_l10_step
            simp only [decp (show (i : Int) < (l.length : Int) by omega), decp (show (0 : Int) ≤ (i : Int) by omega), Bool.and_true, cond_true, wrap_i i l.length hi (by omega)]) (by
            intro q
            show impl_JobState_ystart_l10_step (impl_JobState_ystart_l10 q) l (l.length : Int) (l.length : Int) l act x0 x1 x2 x3 _ _ _ _ _ = _
            unfold impl_JobState_ystart_l10_step
            simp only [decn (show ¬ (l.length : Int) < (l.length : Int) by omega), cond_false])
        rw [e]
        unfold multiI
        cases findN (fun i => seq (rd R1 l (i : Int)).2.1 (rd R1 l (k : Int)).2.1 && !seq (rd R1 l (i : Int)).1 (rd R1 l (k : Int)).1) l.length 0 with
        | some j => exact ⟨_, rfl, rfl⟩
        | none =>
          simp only [Option.bind_some, Option.isNone_none, Bool.not_true, Bool.false_or]
          cases decide (((rd R1 l (k : Int)).2.2.2.2.length : Int) > 0) with
          | true => exact ⟨_, rfl, rfl⟩
          | false =>
            simp only [cond_false, Bool.false_or, impl_at l _ hl, Option.bind_some, decp hbk.1, decp hbk.2, Bool.and_self, cond_true]
            cases decide (((rd R1 l (imAt l (rd R1 l (k : Int)).2.1)).2.2.1.length : Int) < ((rd R1 l (k : Int)).2.2.1.length : Int)) <;> exact ⟨_, rfl, rfl⟩
    | false =>
      simp only [cond_false]
      cases (kind == 3) with
      | false => exact ⟨_, rfl, rfl⟩
      | true =>
        simp only [cond_true, impl_at l target hl, Option.bind_some, impl_behind l target hl]
        rcases imAt_lt l target with hj | hj
        · rw [decp hj]; exact ⟨_, rfl, rfl⟩
        · rw [decn (show ¬ imAt l target < 0 by omega), decp hj.1, decp hj.2]
          simp only [Bool.false_or, Bool.and_self, cond_true]
          cases seq target act with
          | true => exact ⟨_, rfl, rfl⟩
          | false =>
            simp only [cond_false, Bool.false_or]
            cases ((l.any (fun x => seq x.2.1 target) || !seq (rd R1 l (imAt l target)).2.1 (⟨#[]⟩ : ByteArray)) || decide (((rd R1 l (imAt l target)).2.2.2.2.length : Int) > 0)) with
            | true => exact ⟨_, rfl, rfl⟩
            | false =>
              simp only [cond_false, Bool.false_or]
              cases (((rd R1 l (imAt l target)).2.2.1.length : Int) != ((rd R1 l (k : Int)).2.2.1.length : Int)) <;> exact ⟨_, rfl, rfl⟩
theorem yt_spec (kind : Int) (target : ByteArray) : ((decide (kind < 1) || decide (kind > 3)) || !(seq target (⟨#[]⟩ : ByteArray) == (kind != 3))) = !ytB kind target := by
  unfold ytB
  rw [Bool.not_and, out_in]
  congr 1
  cases seq target (⟨#[]⟩ : ByteArray) <;> cases h : (kind == 3) <;> simp [bne, h]
theorem spec_may {l : List Im} (h : Good l) (hl : l.length ≤ 1048576) (act : ByteArray) (k : Nat) (hk : k < l.length) (ha : imAt l act = (k : Int)) (x0 x1 : Int) (x2 x3 : ByteArray) (kind : Int) (target : ByteArray) :
    ∃ c, spec_l14May l act x0 x1 x2 x3 kind target = some (c, ()) ∧ (c != 0) = (!ytB kind target || startB l act k kind target) := by
  unfold spec_l14May
  rw [spec_find l act hl, ha]
  simp only [Option.bind_some, decp (show (0 : Int) ≤ (k : Int) by omega), decp (show (k : Int) < (l.length : Int) by omega), Bool.and_true, cond_true, yt_spec]
  cases hy : ytB kind target with
  | false => exact ⟨_, rfl, rfl⟩
  | true =>
    simp only [Bool.not_true, cond_false, Bool.false_or]
    have hr : 1 ≤ kind ∧ kind ≤ 3 := by
      unfold ytB at hy
      simp only [Bool.and_eq_true, decide_eq_true_eq] at hy
      exact hy.1
    unfold startB
    have h123 : kind = 1 ∨ kind = 2 ∨ kind = 3 := by omega
    rcases h123 with rfl | rfl | rfl
    · simp only [show ((1 : Int) == 3) = false from rfl, show ((1 : Int) == 1) = true from rfl, cond_false, cond_true]
      cases seq (rd R1 l (k : Int)).2.1 (⟨#[]⟩ : ByteArray) <;> exact ⟨_, rfl, rfl⟩
    · simp only [show ((2 : Int) == 3) = false from rfl, show ((2 : Int) == 1) = false from rfl, show ((2 : Int) == 2) = true from rfl, cond_false, cond_true]
      cases hb : seq (rd R1 l (k : Int)).2.1 (⟨#[]⟩ : ByteArray) with
      | true => exact ⟨_, rfl, rfl⟩
      | false =>
        have hbk := h.back k hk hb
        simp only [cond_false, Bool.false_or, spec_behind l _ hl, Option.bind_some, multi_same h k hk]
        cases multiI l (rd R1 l (k : Int)) with
        | true => exact ⟨_, rfl, rfl⟩
        | false =>
          simp only [Bool.false_or]
          cases decide (((rd R1 l (k : Int)).2.2.2.2.length : Int) > 0) with
          | true => exact ⟨_, rfl, rfl⟩
          | false =>
            simp only [cond_false, Bool.false_or, spec_find l _ hl, Option.bind_some, decp hbk.1, decp hbk.2, Bool.and_self, cond_true]
            cases decide (((rd R1 l (imAt l (rd R1 l (k : Int)).2.1)).2.2.1.length : Int) < ((rd R1 l (k : Int)).2.2.1.length : Int)) <;> exact ⟨_, rfl, rfl⟩
    · simp only [show ((3 : Int) == 3) = true from rfl, show ((3 : Int) == 1) = false from rfl, show ((3 : Int) == 2) = false from rfl, cond_false, cond_true, spec_find l target hl, Option.bind_some, spec_behind l target hl, behind_any]
      rcases imAt_lt l target with hj | hj
      · rw [decp hj]; exact ⟨_, rfl, rfl⟩
      · rw [decn (show ¬ imAt l target < 0 by omega), decp hj.1, decp hj.2]
        simp only [Bool.false_or, Bool.and_self, Bool.or_true, cond_true]
        cases seq target act with
        | true => exact ⟨_, rfl, rfl⟩
        | false =>
          simp only [cond_false, Bool.false_or]
          cases ((l.any (fun x => seq x.2.1 target) || !seq (rd R1 l (imAt l target)).2.1 (⟨#[]⟩ : ByteArray)) || decide (((rd R1 l (imAt l target)).2.2.2.2.length : Int) > 0)) with
          | true => exact ⟨_, rfl, rfl⟩
          | false =>
            simp only [cond_false, Bool.false_or]
            cases (((rd R1 l (imAt l target)).2.2.1.length : Int) != ((rd R1 l (k : Int)).2.2.1.length : Int)) <;> exact ⟨_, rfl, rfl⟩
/-- Is a bit set from here on? -/
def laterBit (d : ByteArray) (n : Nat) : Bool := !(findN (fun i => hb d (n + i)) (64 - n) 0).isNone
theorem impl_later (d : ByteArray) (n : Nat) (hn : n ≤ 64) (l : List Im) (act : ByteArray) (x0 x1 : Int) (x2 x3 : ByteArray) (kind next : Int) (target : ByteArray) :
    impl_JobFault_l13 K0 (n : Int) l act x0 x1 x2 x3 kind next d target = some (bif laterBit d n then Sum.inl (1, ()) else Sum.inr (l, act, x0, x1, x2, x3, kind, next, d, target, ())) := by
  have e := find_loop (fun k i => impl_JobFault_l13 k ((n + i : Nat) : Int) l act x0 x1 x2 x3 kind next d target) (64 - n) (fun i => hb d (n + i)) (fun _ => Sum.inl (1, ())) (Sum.inr (l, act, x0, x1, x2, x3, kind, next, d, target, ())) (by omega) (by
    intro k i hi
    show impl_JobFault_l13_step (impl_JobFault_l13 k) ((n + i : Nat) : Int) l act x0 x1 x2 x3 kind next d target = _
    unfold impl_JobFault_l13_step
    have hw : wrap64 (((n + i : Nat) : Int) + 1) = ((n + (i + 1) : Nat) : Int) := by rw [wrap_id (by omega) (by omega)]; omega
    simp only [decp (show ((n + i : Nat) : Int) < 64 by omega), cond_true, impl_hasBit d (n + i) (by omega), Option.bind_some, hw]) (by
    intro k
    show impl_JobFault_l13_step (impl_JobFault_l13 k) ((n + (64 - n) : Nat) : Int) l act x0 x1 x2 x3 kind next d target = _
    unfold impl_JobFault_l13_step
    simp only [decn (show ¬ ((n + (64 - n) : Nat) : Int) < 64 by omega), cond_false])
  have e' : impl_JobFault_l13 K0 (n : Int) l act x0 x1 x2 x3 kind next d target = _ := e
  rw [e']
  unfold laterBit
  cases findN (fun i => hb d (n + i)) (64 - n) 0 <;> rfl
theorem spec_later (d : ByteArray) (n : Nat) (hn : n ≤ 64) (hd : d.size ≤ 8) : ∃ c, spec_NextBit d (n : Int) true = some (c, ()) ∧ decide (c ≥ 0) = laterBit d n := by
  have hw : wrap64 ((8 : Int) * (d.size : Int)) = ((8 * d.size : Nat) : Int) := by rw [wrap_id (by omega) (by omega)]; omega
  have hmax : spec_l01Max 0 (n : Int) = some ((n : Int), ()) := by
    unfold spec_l01Max
    by_cases h : n = 0
    · subst h; rfl
    · first
        | (rw [decn (show ¬ (0 : Int) > (n : Int) by omega)]; rfl)
        | (rw [decp (show (n : Int) > 0 by omega)]; rfl)
        | (rw [decp (show (0 : Int) < (n : Int) by omega)]; rfl)
        | (rw [decn (show ¬ (n : Int) < 0 by omega)]; rfl)
  unfold spec_NextBit
  simp only [decn (show ¬ (d.size : Int) > 65536 by omega), cond_false, hmax, Option.bind_some, hw]
  have e := find_loop (fun k i => spec_NextBit_l6 k d (n : Int) true ((8 * d.size : Nat) : Int) ((n + i : Nat) : Int)) (8 * d.size - n) (fun i => hb d (n + i)) (fun i => Sum.inl (((n + i : Nat) : Int), ())) (Sum.inr ((n : Int), true, ((8 * d.size : Nat) : Int), ())) (by omega) (by
    intro k i hi
    show spec_NextBit_l6_step (spec_NextBit_l6 k) d (n : Int) true ((8 * d.size : Nat) : Int) ((n + i : Nat) : Int) = _
    unfold spec_NextBit_l6_step
    have hw : wrap64 (((n + i : Nat) : Int) + 1) = ((n + (i + 1) : Nat) : Int) := by rw [wrap_id (by omega) (by omega)]; omega
    simp only [decp (show ((n + i : Nat) : Int) < ((8 * d.size : Nat) : Int) by omega), cond_true, spec_hasBit d (n + i) (by omega) (by omega), Option.bind_some, hw, beq_true]) (by
    intro k
    show spec_NextBit_l6_step (spec_NextBit_l6 k) d (n : Int) true ((8 * d.size : Nat) : Int) ((n + (8 * d.size - n) : Nat) : Int) = _
    unfold spec_NextBit_l6_step
    simp only [decn (show ¬ ((n + (8 * d.size - n) : Nat) : Int) < ((8 * d.size : Nat) : Int) by omega), cond_false])
  have e' : spec_NextBit_l6 K0 d (n : Int) true ((8 * d.size : Nat) : Int) (n : Int) = _ := e
  rw [e']
  have hsame : (findN (fun i => hb d (n + i)) (64 - n) 0).isNone = (findN (fun i => hb d (n + i)) (8 * d.size - n) 0).isNone := by
    rw [show 64 - n = (8 * d.size - n) + ((64 - n) - (8 * d.size - n)) by omega]
    have hrest : ∀ b i, 8 * d.size ≤ n + i → findN (fun i => hb d (n + i)) b i = none := by
      intro b
      induction b with
      | zero => intro i _; rfl
      | succ b ih =>
        intro i hi
        simp only [findN]
        have : hb d (n + i) = false := by
          unfold hb
          rw [decn (show ¬ (n + i) / 8 < d.size by omega)]
          rfl
        rw [this]
        exact ih (i + 1) (by omega)
    have key : ∀ a b i, (8 * d.size ≤ n + (i + a)) → (findN (fun i => hb d (n + i)) (a + b) i).isNone = (findN (fun i => hb d (n + i)) a i).isNone := by
      intro a
      induction a with
      | zero => intro b i hi; rw [Nat.zero_add, hrest b i (by omega)]; rfl
      | succ a ih =>
        intro b i hi
        rw [show a + 1 + b = (a + b) + 1 by omega]
        simp only [findN]
        cases hb d (n + i) with
        | true => rfl
        | false => exact ih b (i + 1) (by omega)
    exact key _ _ 0 (by omega)
  unfold laterBit
  rw [hsame]
  cases findN (fun i => hb d (n + i)) (8 * d.size - n) 0 with
  | none => exact ⟨-1, rfl, rfl⟩
  | some j =>
    refine ⟨_, rfl, ?_⟩
    rw [decp (show ((n + j : Nat) : Int) ≥ 0 by omega)]
    rfl
theorem job_same (l : List Im) (hs : small (.slice R1) l) (act : ByteArray) (kind next : Int) (dirty target : ByteArray) : ∃ c, impl_JobFault l act kind next dirty target = some (c, ()) ∧ spec_JobFault l act kind next dirty target = some (c, ()) := by
  have hl : l.length ≤ 1048576 := hs.1
  unfold impl_JobFault spec_JobFault
  rw [impl_chain l hs, spec_chain l hs]
  simp only [Option.bind_some, code_ne]
  cases hc : chBad l with
  | true => exact ⟨_, rfl, rfl⟩
  | false =>
    have g := good_of hc
    simp only [cond_false, impl_at l act hl, spec_find l act hl, Option.bind_some, impl_behind l act hl, spec_behind l act hl, behind_any, Option.getD_some, Option.isSome_some, Bool.or_true, cond_true]
    cases hb : (decide (imAt l act < 0) || l.any (fun x => seq x.2.1 act)) with
    | true => exact ⟨_, rfl, rfl⟩
    | false =>
      simp only [cond_false]
      have hat : 0 ≤ imAt l act ∧ imAt l act < (l.length : Int) := by
        rw [Bool.or_eq_false_iff] at hb
        rcases imAt_lt l act with h | h
        · have := hb.1; rw [decp h] at this; cases this
        · exact h
      cases ((kind == 0) && ((next == 0) && (seq dirty ByteArray.empty && seq target ByteArray.empty))) with
      | true => exact ⟨_, rfl, rfl⟩
      | false =>
        simp only [cond_false, decp hat.1, decp hat.2, Bool.and_self, Bool.or_true, cond_true]
        obtain ⟨k, hk⟩ : ∃ k : Nat, imAt l act = (k : Int) := ⟨(imAt l act).toNat, by omega⟩
        have hkl : k < l.length := by omega
        have ht := g.table k hkl
        rw [hk]
        obtain ⟨m, m1, m2⟩ := spec_may g hl act k hkl hk kind next dirty target kind target
        have hyt : impl_Job_ytarget kind next dirty target = some (ytB kind target, ()) := by
          unfold impl_Job_ytarget ytB
          rw [yin_eq]
          rfl
        rw [hyt, m1]
        simp only [Option.bind_some, yin_eq, Option.getD_some, Option.isSome_some, Bool.or_true, Bool.true_and, m2, out_in]
        cases hy : ytB kind target with
        | false => exact ⟨_, rfl, rfl⟩
        | true =>
          simp only [Bool.not_true, Bool.false_or]
          by_cases hh : next < 0 ∨ next > ((rd R1 l (k : Int)).2.2.1.length : Int) ∨ (dirty.size : Int) > 8
          · refine ⟨1, ?_, ?_⟩
            · rcases hh with h | h | h <;> rw [decp h] <;> simp
            · rcases hh with h | h | h <;> rw [decp h] <;> simp
          · have h1 : ¬ next < 0 := fun h => hh (.inl h)
            have h2 : ¬ next > ((rd R1 l (k : Int)).2.2.1.length : Int) := fun h => hh (.inr (.inl h))
            have h3 : ¬ (dirty.size : Int) > 8 := fun h => hh (.inr (.inr h))
            have h4 : next ≤ 64 := by
              have h5 : ((rd R1 l (k : Int)).2.2.1.length : Int) ≤ 64 := by exact Int.ofNat_le.2 ht
              omega
            obtain ⟨n, rfl⟩ : ∃ n : Nat, next = (n : Int) := ⟨next.toNat, by omega⟩
            obtain ⟨c1, d1, d2⟩ := impl_count dirty (by omega)
            obtain ⟨c2, d3, d4⟩ := spec_count dirty (by omega)
            obtain ⟨c3, d5, d6⟩ := spec_later dirty n (by omega) (by omega)
            obtain ⟨c4, d7, d8⟩ := impl_start g hl act k hkl hk kind (n : Int) dirty target kind (n : Int) dirty target
            rw [decn h1, decn h2, decn h3, d1, d3, d5, impl_later dirty n (by omega)]
            simp only [Option.getD_some, Option.isSome_some, Bool.or_true, Bool.or_false, cond_true, d2, d4, d6]
            cases (kind == 1 && anyBit dirty) with
            | true =>
              cases startB l act k kind target <;> cases laterBit dirty n <;> exact ⟨1, rfl, rfl⟩
            | false =>
              cases laterBit dirty n with
              | true => cases startB l act k kind target <;> exact ⟨1, rfl, rfl⟩
              | false =>
                simp only [cond_false, Option.bind_some, d7, d8, Bool.or_false]
                cases startB l act k kind target <;> exact ⟨_, rfl, rfl⟩
theorem FnExactJobFault : laws_FnExactJobFault.Pure := by
  intro x0 g0
  unfold laws_FnExactJobFault
  obtain ⟨n1, e1, l1, m1, s1⟩ := laws_szJobState_ok x0.1 x0.2.1 x0.2.2.1 x0.2.2.2.1 x0.2.2.2.2.1 x0.2.2.2.2.2 1048576 (by decide) (by decide) g0.1 g0.2.1 g0.2.2.2.2.1 g0.2.2.2.2.2
  rw [e1]
  simp only [Option.bind_some]
  by_cases c1 : n1 < 0
  · rw [decp c1]; rfl
  rw [decn c1]
  simp only [cond_false]
  have s := s1 (by omega)
  have t1 := lens_of s
  have a1 := laws_toJobState_ok x0.1 x0.2.1 x0.2.2.1 x0.2.2.2.1 x0.2.2.2.2.1 x0.2.2.2.2.2 t1.1
  have q1 := laws_eqJobState_ok x0.1 x0.2.1 x0.2.2.1 x0.2.2.2.1 x0.2.2.2.2.1 x0.2.2.2.2.2 t1.1
  obtain ⟨c, k1, k2⟩ := job_same x0.1 s.1 x0.2.1 x0.2.2.1 x0.2.2.2.1 x0.2.2.2.2.1 x0.2.2.2.2.2
  simp only [a1, Option.bind_some, k1, k2, bne_self_eq_false, cond_false, q1, Bool.not_true]
end Go.Ab.FnExactJobFault.Pure
