/- The plain statement of the law FnExactTlbFind. -/
import Derived.Test.YtaopkodopglgeaaStFnExactTlbFind
import Derived.OpenShut
namespace Go.Proofs.Ytaopkodopglgeaa.PureFnExactTlbFind
set_option linter.unusedVariables false
set_option linter.unusedSimpArgs false
open Go.RowKit Go.Proofs.Ytaopkodopglgeaa.PFnExactTlbFind Go.Proofs.YtaopkodopglgeaaW.PrintWords Go.Proofs.YtaopkodopglgeaaW.PrintLast Go.Proofs.YtaopkodopglgeaaW.PrintMore

/-! ### yin -/
theorem impl_yin (a b c : Int) : impl_yin.f a b c = some (decide (b ≤ a ∧ a ≤ c)) := by
  unfold impl_yin.f
  split
  all_goals (congr 1; rw [Bool.eq_iff_iff]; simp; try omega)

/-! ### wbase -/
theorem wrap_id {x : Int} (h0 : -9223372036854775808 ≤ x) (h1 : x ≤ 9223372036854775807) : wrap64 x = x := by unfold wrap64; omega
theorem wraps_i64 (n : Int) (h0 : 0 ≤ n) (h1 : n < 2 ^ 63) : IntKind.i64.wrap n = n := by rw [IntKind.wrap_i64]; omega
theorem or_comm_i64 (x y : Int) : Go.bits .or .i64 x y = Go.bits .or .i64 y x := by
  unfold Go.bits
  simp only [BitVec.or_comm]
theorem or_low (i : Nat) (x y : Int) (hx0 : 0 ≤ x) (hx : x < 2 ^ i) (hy0 : 0 ≤ y) (hy : y % 2 ^ i = 0) (hy1 : y < 2 ^ 63) (hx1 : x < 2 ^ 63) : Go.bits .or .i64 x y = x + y := by
  rw [or_comm_i64, Int.add_comm]
  exact bits_join .i64 63 (by decide) wraps_i64 i y x hy0 hy hy1 hx0 hx hx1
theorem and_mask (i : Nat) (hi : i ≤ 63) (x : Int) (h0 : 0 ≤ x) (h1 : x < 2 ^ 63) : Go.bits .and .i64 x (2 ^ i - 1) = x % 2 ^ i :=
  bits_mask .i64 63 (by decide) wraps_i64 i hi x h0 h1

/-! ### loops -/
theorem getD_at {α : Type} (xs : List α) (i : Nat) (z : α) (h : i < xs.length) : xs.getD ((i : Int)).toNat z = xs[i] := by simp [h]
theorem wrap_succ (i n : Nat) (h : i < n) (hn : n ≤ 140737488351232) : wrap64 ((i : Int) + 1) = ((i + 1 : Nat) : Int) := by
  unfold wrap64; omega
/-- A loop that fills a list from the front. -/
theorem fill_loop {α β : Type} (F : Nat → List β → Int → Option (List β)) (xs : List α) (g : α → β)
    (hF : ∀ (k : Nat) (ys : List β) (i : Nat) (hi : i < xs.length), ys.length = xs.length → F (k + 1) ys (i : Int) = F k (ys.set i (g xs[i])) ((i + 1 : Nat) : Int))
    (hE : ∀ (k : Nat) (ys : List β), F (k + 1) ys (xs.length : Int) = some ys) :
    ∀ (d k : Nat) (ys : List β) (i : Nat), i + d = xs.length → d < k → ys.length = xs.length → ys.take i = (xs.take i).map g → F k ys (i : Int) = some (xs.map g) := by
  intro d
  induction d with
  | zero =>
    intro k ys i hi hk hl ht
    obtain ⟨k, rfl⟩ : ∃ q, k = q + 1 := ⟨k - 1, by omega⟩
    have : i = xs.length := by omega
    subst this
    rw [hE]
    rw [List.take_of_length_le (by omega), List.take_of_length_le (Nat.le_refl _)] at ht
    rw [ht]
  | succ d ih =>
    intro k ys i hi hk hl ht
    obtain ⟨k, rfl⟩ : ∃ q, k = q + 1 := ⟨k - 1, by omega⟩
    have hlt : i < xs.length := by omega
    rw [hF k ys i hlt hl]
    refine ih k _ (i + 1) (by omega) (by omega) (by rw [List.length_set, hl]) ?_
    rw [List.take_succ_eq_append_getElem (by rw [List.length_set]; omega), List.take_succ_eq_append_getElem hlt, List.map_append, ← ht]
    congr 1
    · rw [List.take_set, List.set_eq_of_length_le (by rw [List.length_take]; omega)]
    · simp
/-- The place of the first that p lets, from i on; -1: none. -/
def findAt {α : Type} (p : α → Bool) : List α → Nat → Int
  | [], _ => -1
  | x :: xs, i => if p x = true then (i : Int) else findAt p xs (i + 1)
theorem findAt_any {α : Type} (p : α → Bool) (xs : List α) : ∀ i, decide (findAt p xs i ≥ 0) = xs.any p := by
  induction xs with
  | nil => intro i; simp [findAt]
  | cons x xs ih =>
    intro i
    rw [findAt, List.any_cons]
    cases h : p x
    · simp only [Bool.false_eq_true, if_false, Bool.false_or]; exact ih (i + 1)
    · simp only [if_true, Bool.true_or]; simp
theorem find_loop {α : Type} (F : Nat → Int → Option Int) (xs : List α) (p : α → Bool)
    (hF : ∀ (k i : Nat) (hi : i < xs.length), F (k + 1) (i : Int) = if p xs[i] = true then some (i : Int) else F k ((i + 1 : Nat) : Int))
    (hE : ∀ k : Nat, F (k + 1) (xs.length : Int) = some (-1)) :
    ∀ (d k i : Nat), i + d = xs.length → d < k → F k (i : Int) = some (findAt p (xs.drop i) i) := by
  intro d
  induction d with
  | zero =>
    intro k i hi hk
    obtain ⟨k, rfl⟩ : ∃ q, k = q + 1 := ⟨k - 1, by omega⟩
    have : i = xs.length := by omega
    subst this
    rw [hE, List.drop_length, findAt]
  | succ d ih =>
    intro k i hi hk
    obtain ⟨k, rfl⟩ : ∃ q, k = q + 1 := ⟨k - 1, by omega⟩
    have hlt : i < xs.length := by omega
    rw [hF k i hlt, List.drop_eq_getElem_cons hlt, findAt]
    split
    · rfl
    · exact ih k (i + 1) (by omega) (by omega)
/-- A loop that goes on while p holds; then R, else B. -/
theorem all_loop {α γ : Type} (F : Nat → Int → Option γ) (xs : List α) (p : α → Bool) (B : Option γ) (R : Option γ) (K : Nat)
    (hF : ∀ (k i : Nat) (hi : i < xs.length), F (k + 1) (i : Int) = if p xs[i] = true then F k ((i + 1 : Nat) : Int) else B)
    (hE : ∀ k : Nat, K ≤ k → F (k + 1) (xs.length : Int) = R) :
    ∀ (d k i : Nat), i + d = xs.length → d + K < k → F k (i : Int) = if (xs.drop i).all p = true then R else B := by
  intro d
  induction d with
  | zero =>
    intro k i hi hk
    obtain ⟨k, rfl⟩ : ∃ q, k = q + 1 := ⟨k - 1, by omega⟩
    have : i = xs.length := by omega
    subst this
    rw [hE k (by omega), List.drop_length]; rfl
  | succ d ih =>
    intro k i hi hk
    obtain ⟨k, rfl⟩ : ∃ q, k = q + 1 := ⟨k - 1, by omega⟩
    have hlt : i < xs.length := by omega
    rw [hF k i hlt, List.drop_eq_getElem_cons hlt, List.all_cons]
    cases h : p xs[i]
    · simp
    · simp only [if_true, Bool.true_and]; exact ih k (i + 1) (by omega) (by omega)
/-- A search whose answer is told at once; c rounds a step. -/
theorem find_then {α γ : Type} (F : Nat → Int → Option γ) (xs : List α) (p : α → Bool) (G : Int → Option γ) (c K : Nat)
    (hF : ∀ (k i : Nat) (hi : i < xs.length), K ≤ k → F (k + c) (i : Int) = if p xs[i] = true then G (i : Int) else F k ((i + 1 : Nat) : Int))
    (hE : ∀ k : Nat, F (k + 1) (xs.length : Int) = G (-1)) :
    ∀ (d k i : Nat), i + d = xs.length → c * d + K < k → F k (i : Int) = G (findAt p (xs.drop i) i) := by
  intro d
  induction d with
  | zero =>
    intro k i hi hk
    obtain ⟨k, rfl⟩ : ∃ q, k = q + 1 := ⟨k - 1, by omega⟩
    have : i = xs.length := by omega
    subst this
    rw [hE, List.drop_length, findAt]
  | succ d ih =>
    intro k i hi hk
    rw [Nat.mul_add] at hk
    obtain ⟨k, rfl⟩ : ∃ q, k = q + c := ⟨k - c, by omega⟩
    have hlt : i < xs.length := by omega
    rw [hF k i hlt (by omega), List.drop_eq_getElem_cons hlt, findAt]
    split
    · rfl
    · exact ih k (i + 1) (by omega) (by omega)
theorem findAt_spec {α : Type} (p : α → Bool) (xs : List α) : ∀ i, findAt p xs i = -1 ∨ ∃ j, ∃ h : j < xs.length, findAt p xs i = ((i + j : Nat) : Int) ∧ p xs[j] = true := by
  induction xs with
  | nil => intro i; left; rfl
  | cons x xs ih =>
    intro i
    rw [findAt]
    split
    · rename_i h; right; exact ⟨0, by simp, by simp, h⟩
    · rcases ih (i + 1) with h | ⟨j, hj, h1, h2⟩
      · left; exact h
      · right; exact ⟨j + 1, by simpa using hj, by rw [h1]; omega, by simpa using h2⟩

/-! ### tlb -/
def entOk (e : S50) : Bool := decide (0 ≤ e.f0 ∧ e.f0 ≤ 255) && decide (0 ≤ e.f1 ∧ e.f1 ≤ 1023) && decide (0 ≤ e.f2 ∧ e.f2 ≤ 1023) && decide (0 ≤ e.f3 ∧ e.f3 ≤ 255) && (!e.f4 || (decide (Int.tmod e.f1 32 = 0) && decide (Int.tmod e.f2 32 = 0)))
theorem spec_entry (e : S50) : spec_l03TlbEntry.f e.f0 e.f1 e.f2 e.f3 e.f4 = some (entOk e) := by
  unfold spec_l03TlbEntry.f entOk
  cases e.f4 <;> simp only [Bool.not_true, Bool.not_false, Bool.false_or, Bool.true_or, Bool.and_true, if_true, Bool.false_eq_true, if_false] <;> repeat' split
  all_goals (congr 1; rw [Bool.eq_iff_iff]; simp; try omega)
theorem impl_entry (e : S50) : impl_ytlbEntryOk.f e.f0 e.f1 e.f2 e.f3 e.f4 = some (entOk e) := by
  unfold impl_ytlbEntryOk.f entOk
  simp only [impl_yin, Option.bind_some]
  generalize decide (0 ≤ e.f0 ∧ e.f0 ≤ 255) = a
  generalize decide (0 ≤ e.f1 ∧ e.f1 ≤ 1023) = b
  generalize decide (0 ≤ e.f2 ∧ e.f2 ≤ 1023) = c
  generalize decide (0 ≤ e.f3 ∧ e.f3 ≤ 255) = d
  have h0 : (Int.tmod e.f2 32 == 0) = decide (Int.tmod e.f2 32 = 0) := by rw [Bool.eq_iff_iff]; simp
  cases a <;> cases b <;> cases c <;> cases d <;> cases e.f4 <;> simp [h0]
  split <;> rename_i h <;> simp [h]
def sameB (a b : S50) : Bool := decide (a.f0 = b.f0) && decide (a.f1 = b.f1) && (a.f4 == b.f4)
theorem impl_same (a b : S50) : impl_TlbFault_c1.f a.f0 a.f1 a.f2 a.f3 a.f4 b.f0 b.f1 b.f2 b.f3 b.f4 = some (sameB a b) := by
  unfold impl_TlbFault_c1.f impl_ysameTlb.f sameB
  by_cases h0 : a.f0 = b.f0 <;> by_cases h1 : a.f1 = b.f1 <;> simp [h0, h1]
/-- Is the i-th entry right, and none ahead of it the same? -/
def okAt (l : List S50) (i : Nat) : Bool := entOk (l.getD i z50) && (l.take i).all (fun x => !sameB x (l.getD i z50))
def okFrom (l : List S50) : Nat → Nat → Bool
  | 0, _ => true
  | d + 1, i => okAt l i && okFrom l d (i + 1)
def tlbOk (l : List S50) (nx : Int) : Bool := decide ((l.length : Int) ≤ 16) && decide (0 ≤ nx ∧ nx ≤ 15) && okFrom l l.length 0
theorem spec_fault_loop (l : List S50) (nx : Int) (hl : l.length ≤ 16) : ∀ (d k i : Nat), i + d = l.length → 20 * d < k → spec_TlbFault.l0 k (i : Int) l nx = some (if okFrom l d i = true then 0 else 1) := by
  intro d
  induction d with
  | zero =>
    intro k i hi hk
    obtain ⟨k, rfl⟩ : ∃ q, k = q + 1 := ⟨k - 1, by omega⟩
    have : i = l.length := by omega
    subst this
    rw [spec_TlbFault.l0, if_neg (by omega)]; rfl
  | succ d ih =>
    intro k i hi hk
    obtain ⟨k, rfl⟩ : ∃ q, k = q + 1 := ⟨k - 1, by omega⟩
    have hlt : i < l.length := by omega
    have hr : rd_T50 l (i : Int) = l.getD i z50 := by unfold rd_T50; rw [Int.toNat_natCast]
    rw [spec_TlbFault.l0, if_pos (by omega), if_pos (by omega), hr, spec_entry]
    simp only [Option.bind_some]
    rw [okFrom, okAt]
    cases he : entOk (l.getD i z50)
    · simp
    simp only [if_true, Bool.true_and]
    generalize hx : l.getD i z50 = x
    have h := all_loop (fun k j => spec_TlbFault.l1 k (i : Int) j l nx x.f0 x.f1 x.f2 x.f3 x.f4) (l.take i) (fun y => !sameB y x) (some 1) (some (if okFrom l d (i + 1) = true then 0 else 1)) (20 * d + 1) (by
      intro k j hj
      have hj2 : j < i := by simp at hj; omega
      have hjr : rd_T50 l (j : Int) = l[j] := getD_at l j z50 (by omega)
      show spec_TlbFault.l1 (k + 1) (i : Int) (j : Int) l nx x.f0 x.f1 x.f2 x.f3 x.f4 = _
      rw [spec_TlbFault.l1, if_pos (by omega), if_pos (by omega), if_pos (by omega), hjr, wrap_succ j l.length (by omega) (by omega), List.getElem_take]
      unfold sameB
      by_cases h0 : l[j].f0 = x.f0 <;> by_cases h1 : l[j].f1 = x.f1 <;> cases h2 : (l[j].f4 == x.f4) <;> simp [h0, h1]) (by
      intro k hk
      show spec_TlbFault.l1 (k + 1) (i : Int) ((l.take i).length : Int) l nx x.f0 x.f1 x.f2 x.f3 x.f4 = _
      rw [List.length_take, Nat.min_eq_left (by omega), spec_TlbFault.l1, if_neg (by omega), wrap_succ i l.length hlt (by omega)]
      exact ih k (i + 1) (by omega) (by omega)) (l.take i).length k 0 (by omega) (by rw [List.length_take]; omega)
    have h2 : spec_TlbFault.l1 k (i : Int) 0 l nx x.f0 x.f1 x.f2 x.f3 x.f4 = _ := h
    rw [h2, List.drop_zero]
    cases (l.take i).all (fun y => !sameB y x) <;> simp
theorem spec_fault (k : Nat) (hk : 330 ≤ k) (l : List S50) (nx : Int) : spec_TlbFault.f k l nx = some (if tlbOk l nx = true then 0 else 1) := by
  obtain ⟨k, rfl⟩ : ∃ q, k = q + 1 := ⟨k - 1, by omega⟩
  unfold spec_TlbFault.f tlbOk
  by_cases h1 : (l.length : Int) > 16
  · rw [if_pos h1, spec_TlbFault.j0]; simp; omega
  rw [if_neg h1]
  by_cases h2 : nx < 0
  · rw [if_pos h2, spec_TlbFault.j0]; simp; omega
  rw [if_neg h2, spec_TlbFault.j0]
  by_cases h3 : nx ≥ 16
  · have : decide (nx ≥ 16) = true := by simpa using h3
    rw [this]; simp; omega
  have e1 : decide (nx ≥ 16) = false := by simpa using h3
  have e2 : decide (0 ≤ nx ∧ nx ≤ 15) = true := by simp; omega
  have e3 : decide ((l.length : Int) ≤ 16) = true := by simp; omega
  have h := spec_fault_loop l nx (by omega) l.length k 0 (by omega) (by omega)
  rw [e1, e2, e3, if_neg (by decide)]
  exact h
theorem impl_any (k : Nat) (l : List S50) (x : S50) (hl : l.length ≤ 16) (hk : 17 ≤ k) : slices_ContainsFunc_TlbEntry_at_impl_TlbFault_c1.f k l x.f0 x.f1 x.f2 x.f3 x.f4 = some (!l.all (fun y => !sameB y x)) := by
  have h := find_loop (fun k i => slices_IndexFunc_TlbEntry_at_impl_TlbFault_c1.l0 k l (l.length : Int) i x.f0 x.f1 x.f2 x.f3 x.f4) l (fun y => sameB y x) (by
    intro k i hi
    show slices_IndexFunc_TlbEntry_at_impl_TlbFault_c1.l0 (k + 1) l (l.length : Int) (i : Int) x.f0 x.f1 x.f2 x.f3 x.f4 = _
    have hr : rd_T50 l (i : Int) = l[i] := getD_at l i z50 hi
    rw [slices_IndexFunc_TlbEntry_at_impl_TlbFault_c1.l0, if_pos (by omega), if_pos (by omega), if_pos (by omega), hr, wrap_succ i l.length hi (by omega), impl_same]
    rfl) (by
    intro k
    show slices_IndexFunc_TlbEntry_at_impl_TlbFault_c1.l0 (k + 1) l (l.length : Int) (l.length : Int) x.f0 x.f1 x.f2 x.f3 x.f4 = _
    rw [slices_IndexFunc_TlbEntry_at_impl_TlbFault_c1.l0, if_neg (by omega)]) l.length k 0 (by omega) (by omega)
  have h2 : slices_IndexFunc_TlbEntry_at_impl_TlbFault_c1.f k l x.f0 x.f1 x.f2 x.f3 x.f4 = some (findAt (fun y => sameB y x) l 0) := h
  unfold slices_ContainsFunc_TlbEntry_at_impl_TlbFault_c1.f
  rw [h2]
  simp only [Option.bind_some]
  rw [findAt_any, List.any_eq_not_all_not]
theorem impl_fault_loop (l : List S50) (nx : Int) (hl : l.length ≤ 16) : ∀ (d k i : Nat), i + d = l.length → d + 20 < k → impl_TlbFault.l0 k l (l.length : Int) (i : Int) l nx = some (if okFrom l d i = true then 0 else 1) := by
  intro d
  induction d with
  | zero =>
    intro k i hi hk
    obtain ⟨k, rfl⟩ : ∃ q, k = q + 1 := ⟨k - 1, by omega⟩
    have : i = l.length := by omega
    subst this
    rw [impl_TlbFault.l0, if_neg (by omega)]; rfl
  | succ d ih =>
    intro k i hi hk
    obtain ⟨k, rfl⟩ : ∃ q, k = q + 1 := ⟨k - 1, by omega⟩
    have hlt : i < l.length := by omega
    have hr : rd_T50 l (i : Int) = l.getD i z50 := by unfold rd_T50; rw [Int.toNat_natCast]
    rw [impl_TlbFault.l0, if_pos (by omega), if_pos (by omega), if_pos (by omega), hr, impl_entry]
    simp only [Option.bind_some]
    rw [okFrom, okAt]
    cases he : entOk (l.getD i z50)
    · simp
    simp only [if_true, Bool.true_and]
    rw [if_pos (by omega), Int.toNat_natCast, impl_any _ _ _ (by rw [List.length_take]; omega) (by omega), wrap_succ i l.length hlt (by omega), ih k (i + 1) (by omega) (by omega)]
    cases (l.take i).all (fun y => !sameB y (l.getD i z50)) <;> simp
theorem impl_fault (k : Nat) (hk : 40 ≤ k) (l : List S50) (nx : Int) : impl_TlbFault.f k l nx = some (if tlbOk l nx = true then 0 else 1) := by
  obtain ⟨k, rfl⟩ : ∃ q, k = q + 1 := ⟨k - 1, by omega⟩
  unfold impl_TlbFault.f tlbOk
  by_cases h1 : (l.length : Int) > 16
  · rw [if_pos h1, impl_TlbFault.j0]; simp; omega
  rw [if_neg h1, impl_yin]
  simp only [Option.bind_some]
  rw [impl_TlbFault.j0]
  have e3 : decide ((l.length : Int) ≤ 16) = true := by simp; omega
  cases e2 : decide (0 ≤ nx ∧ nx ≤ 15)
  · simp
  have h := impl_fault_loop l nx (by omega) l.length k 0 (by omega) (by omega)
  rw [e3, Bool.not_true, if_neg (by decide)]
  exact h
theorem okFrom_at (l : List S50) : ∀ (d i j : Nat), okFrom l d i = true → i ≤ j → j < i + d → okAt l j = true := by
  intro d
  induction d with
  | zero => intro i j _ h1 h2; omega
  | succ d ih =>
    intro i j h h1 h2
    rw [okFrom, Bool.and_eq_true] at h
    by_cases e : j = i
    · rw [e]; exact h.1
    · exact ih (i + 1) j h.2 (by omega) (by omega)
theorem tlb_entry {l : List S50} {nx : Int} (h : tlbOk l nx = true) (j : Nat) (hj : j < l.length) : entOk l[j] = true := by
  unfold tlbOk at h
  simp only [Bool.and_eq_true] at h
  have h2 := okFrom_at l l.length 0 j h.2 (by omega) (by omega)
  unfold okAt at h2
  rw [Bool.and_eq_true] at h2
  have : l.getD j z50 = l[j] := by simp [hj]
  rw [this] at h2
  exact h2.1
theorem tlb_len {l : List S50} {nx : Int} (h : tlbOk l nx = true) : l.length ≤ 16 := by
  unfold tlbOk at h
  simp only [Bool.and_eq_true, decide_eq_true_eq] at h
  omega

/-! ### tlbcv -/
def cvEnt (x : S177) : S50 := ⟨x.f0, x.f1, x.f2, x.f3, x.f4⟩
theorem toEnts (k : Nat) (l : List S177) (hk : l.length < k) (hl : l.length ≤ 1048576) : laws_toTlbEntryS.f k l = some (l.map cvEnt) := by
  unfold laws_toTlbEntryS.f
  rw [if_pos (by omega), if_pos (by omega)]
  have h := fill_loop (fun k ys i => laws_toTlbEntryS.l0 k l ys i) l cvEnt (by
    intro k ys i hi hy
    show laws_toTlbEntryS.l0 (k + 1) l ys (i : Int) = _
    rw [laws_toTlbEntryS.l0, if_pos (by omega), if_pos (by omega)]
    unfold laws_toTlbEntry.f
    simp only [Option.bind_some]
    rw [if_pos (by omega), wrap_succ i l.length hi (by omega)]
    unfold rd_T177
    rw [getD_at _ _ _ hi, Int.toNat_natCast]; rfl) (by
    intro k ys
    show laws_toTlbEntryS.l0 (k + 1) l ys (l.length : Int) = _
    rw [laws_toTlbEntryS.l0, if_neg (by omega)]) l.length k (List.replicate ((l.length : Int)).toNat z50) 0 (by omega) hk (by simp) (by simp)
  exact h
theorem eqEnt_self (b : S50) : laws_eqTlbEntry.f b.f0 b.f1 b.f2 b.f3 b.f4 b.f0 b.f1 b.f2 b.f3 b.f4 = some true := by
  unfold laws_eqTlbEntry.f
  cases b.f4 <;> simp
theorem eqEnts (k : Nat) (l : List S50) (hk : l.length < k) (hl : l.length ≤ 1048576) : laws_eqTlbEntryS.f k l l = some true := by
  unfold laws_eqTlbEntryS.f
  rw [if_pos rfl]
  have h := all_loop (fun k i => laws_eqTlbEntryS.l0 k l l i) l (fun _ => true) none (some true) 0 (by
    intro k i hi
    show laws_eqTlbEntryS.l0 (k + 1) l l (i : Int) = _
    rw [laws_eqTlbEntryS.l0, if_pos (by omega), if_pos (by omega), if_pos (by omega), eqEnt_self]
    simp only [Option.bind_some, if_true]
    rw [wrap_succ i l.length hi (by omega)]) (by
    intro k _
    show laws_eqTlbEntryS.l0 (k + 1) l l (l.length : Int) = _
    rw [laws_eqTlbEntryS.l0, if_neg (by omega)]) l.length k 0 (by omega) (by omega)
  have h2 := h
  simp only [List.all_eq_true, implies_true, if_true] at h2
  exact h2
theorem szTlb (l : List S177) (nx : Int) (hm : l.length ≤ maxLen) : laws_szTlb.f l nx 1048576 = some (if l.length > 1048576 then -1 else 1048576 - (l.length : Int)) := by
  unfold maxLen at hm
  have e : wrap64 (1048576 - (l.length : Int)) = 1048576 - (l.length : Int) := by unfold wrap64; omega
  unfold laws_szTlb.f laws_szTlbEntryS.f
  rw [e]
  by_cases h : l.length > 1048576
  · rw [if_pos h, if_pos (by omega)]; rfl
  · rw [if_neg h, if_neg (by omega)]
    simp only [Option.bind_some]
    rw [if_neg (by omega)]
theorem toTlb (k : Nat) (l : List S177) (nx : Int) (hk : l.length < k) (hl : l.length ≤ 1048576) : laws_toTlb.f k l nx = some (l.map cvEnt, nx) := by
  unfold laws_toTlb.f
  rw [toEnts k l hk hl]; rfl
theorem eqTlb (k : Nat) (l : List S50) (nx : Int) (hk : l.length < k) (hl : l.length ≤ 1048576) : laws_eqTlb.f k l nx l nx = some true := by
  unfold laws_eqTlb.f
  rw [eqEnts k l hk hl]
  simp

def holdsB (e : S50) (va : Int) : Bool := if e.f4 = true then (e.f1 / 32) == (va / 8192) else e.f1 == (va / 256)
/-- Does this entry answer for the place? -/
def hitB (asid va : Int) (e : S50) : Bool := holdsB e va && (decide (e.f0 = asid) || (Go.bits .and .i64 e.f3 128 != 0))
def mayB (f acc : Int) (user : Bool) : Bool := !(Go.bits .and .i64 f (if acc = 2 then 4 else if acc = 3 then 8 else 2) == 0) && (if user = true then Go.bits .and .i64 f 16 != 0 else (!(acc == 3) || Go.bits .and .i64 f 16 == 0))
theorem spec_may (k : Nat) (hk : 1 ≤ k) (f acc : Int) (user : Bool) : spec_l03May.f k f acc user = some (mayB f acc user) := by
  obtain ⟨k, rfl⟩ : ∃ q, k = q + 1 := ⟨k - 1, by omega⟩
  unfold spec_l03May.f mayB
  simp only [spec_l03May.j0]
  by_cases h2 : acc = 2
  · subst h2; cases user <;> simp <;> split <;> simp_all
  by_cases h3 : acc = 3
  · subst h3; cases user <;> simp <;> split <;> simp_all
  rw [if_neg h2, if_neg h3]
  cases user <;> simp [h2, h3] <;> split <;> simp_all
theorem and_nat (n c : Nat) (hn : n < 256) (hc : c < 256) : Go.bits .and .i64 (n : Int) (c : Int) = ((n &&& c : Nat) : Int) := (bits_nat .i64 63 (by decide) wraps_i64 n c (by omega) (by omega)).1
theorem or_nat (n c : Nat) (hn : n < 256) (hc : c < 256) : Go.bits .or .i64 (n : Int) (c : Int) = ((n ||| c : Nat) : Int) := (bits_nat .i64 63 (by decide) wraps_i64 n c (by omega) (by omega)).2
theorem flags_key : ∀ n : Fin 256, ((n.val ||| 1) < 256) ∧ (((n.val ||| 1) &&& 3 = 3) ↔ ¬ n.val &&& 2 = 0) ∧ (((n.val ||| 1) &&& 5 = 5) ↔ ¬ n.val &&& 4 = 0) ∧ (((n.val ||| 1) &&& 9 = 9) ↔ ¬ n.val &&& 8 = 0) ∧
    (((n.val ||| 1) &&& 19 = 19) ↔ (¬ n.val &&& 2 = 0 ∧ ¬ n.val &&& 16 = 0)) ∧ (((n.val ||| 1) &&& 21 = 21) ↔ (¬ n.val &&& 4 = 0 ∧ ¬ n.val &&& 16 = 0)) ∧ (((n.val ||| 1) &&& 25 = 25) ↔ (¬ n.val &&& 8 = 0 ∧ ¬ n.val &&& 16 = 0)) ∧ ((n.val ||| 1) &&& 16 = n.val &&& 16) := by decide +kernel
theorem impl_lets (k : Nat) (hk : 1 ≤ k) (f acc : Int) (user : Bool) (h0 : 0 ≤ f) (h1 : f ≤ 255) (ha : 1 ≤ acc) (hb : acc ≤ 3) : impl_ylets.f k (Go.bits .or .i64 f 1) acc user = some (mayB f acc user) := by
  obtain ⟨k, rfl⟩ : ∃ q, k = q + 1 := ⟨k - 1, by omega⟩
  obtain ⟨n, rfl⟩ := Int.eq_ofNat_of_zero_le h0
  have hn : n < 256 := by omega
  obtain ⟨g0, g3, g5, g9, g19, g21, g25, g16⟩ := flags_key ⟨n, hn⟩
  have z1 : Go.bits .or .i64 (Go.bits .or .i64 16 2) 1 = 19 := by decide
  have z2 : Go.bits .or .i64 (Go.bits .or .i64 16 4) 1 = 21 := by decide
  have z3 : Go.bits .or .i64 (Go.bits .or .i64 16 8) 1 = 25 := by decide
  have z4 : Go.bits .or .i64 (Go.bits .or .i64 0 2) 1 = 3 := by decide
  have z5 : Go.bits .or .i64 (Go.bits .or .i64 0 4) 1 = 5 := by decide
  have z6 : Go.bits .or .i64 (Go.bits .or .i64 0 8) 1 = 9 := by decide
  have o1 : Go.bits .or .i64 (n : Int) 1 = ((n ||| 1 : Nat) : Int) := or_nat n 1 hn (by decide)
  have a3 : Go.bits .and .i64 ((n ||| 1 : Nat) : Int) 3 = (((n ||| 1) &&& 3 : Nat) : Int) := and_nat _ 3 g0 (by decide)
  have a5 : Go.bits .and .i64 ((n ||| 1 : Nat) : Int) 5 = (((n ||| 1) &&& 5 : Nat) : Int) := and_nat _ 5 g0 (by decide)
  have a9 : Go.bits .and .i64 ((n ||| 1 : Nat) : Int) 9 = (((n ||| 1) &&& 9 : Nat) : Int) := and_nat _ 9 g0 (by decide)
  have a19 : Go.bits .and .i64 ((n ||| 1 : Nat) : Int) 19 = (((n ||| 1) &&& 19 : Nat) : Int) := and_nat _ 19 g0 (by decide)
  have a21 : Go.bits .and .i64 ((n ||| 1 : Nat) : Int) 21 = (((n ||| 1) &&& 21 : Nat) : Int) := and_nat _ 21 g0 (by decide)
  have a25 : Go.bits .and .i64 ((n ||| 1 : Nat) : Int) 25 = (((n ||| 1) &&& 25 : Nat) : Int) := and_nat _ 25 g0 (by decide)
  have a16 : Go.bits .and .i64 ((n ||| 1 : Nat) : Int) 16 = (((n ||| 1) &&& 16 : Nat) : Int) := and_nat _ 16 g0 (by decide)
  have b2 : Go.bits .and .i64 (n : Int) 2 = ((n &&& 2 : Nat) : Int) := and_nat n 2 hn (by decide)
  have b4 : Go.bits .and .i64 (n : Int) 4 = ((n &&& 4 : Nat) : Int) := and_nat n 4 hn (by decide)
  have b8 : Go.bits .and .i64 (n : Int) 8 = ((n &&& 8 : Nat) : Int) := and_nat n 8 hn (by decide)
  have b16 : Go.bits .and .i64 (n : Int) 16 = ((n &&& 16 : Nat) : Int) := and_nat n 16 hn (by decide)
  have hacc : acc = 1 ∨ acc = 2 ∨ acc = 3 := by omega
  unfold impl_ylets.f mayB
  simp only [impl_ylets.j0, z1, z2, z3, z4, z5, z6, o1, a3, a5, a9, a19, a21, a25, a16, b2, b4, b8, b16, g16]
  clear z1 z2 z3 z4 z5 z6 o1 a3 a5 a9 a19 a21 a25 a16
  have c3 : ((((n ||| 1) &&& 3 : Nat) : Int) = 3) = ((n ||| 1) &&& 3 = 3) := by apply propext; omega
  have c5 : ((((n ||| 1) &&& 5 : Nat) : Int) = 5) = ((n ||| 1) &&& 5 = 5) := by apply propext; omega
  have c9 : ((((n ||| 1) &&& 9 : Nat) : Int) = 9) = ((n ||| 1) &&& 9 = 9) := by apply propext; omega
  have c19 : ((((n ||| 1) &&& 19 : Nat) : Int) = 19) = ((n ||| 1) &&& 19 = 19) := by apply propext; omega
  have c21 : ((((n ||| 1) &&& 21 : Nat) : Int) = 21) = ((n ||| 1) &&& 21 = 21) := by apply propext; omega
  have c25 : ((((n ||| 1) &&& 25 : Nat) : Int) = 25) = ((n ||| 1) &&& 25 = 25) := by apply propext; omega
  have d2 : ((((n &&& 2 : Nat) : Int)) == 0) = decide (n &&& 2 = 0) := by rw [Bool.eq_iff_iff]; simp
  have d4 : ((((n &&& 4 : Nat) : Int)) == 0) = decide (n &&& 4 = 0) := by rw [Bool.eq_iff_iff]; simp
  have d8 : ((((n &&& 8 : Nat) : Int)) == 0) = decide (n &&& 8 = 0) := by rw [Bool.eq_iff_iff]; simp
  have d16 : ((((n &&& 16 : Nat) : Int)) == 0) = decide (n &&& 16 = 0) := by rw [Bool.eq_iff_iff]; simp
  simp only [bne, c3, c5, c9, c19, c21, c25, g3, g5, g9, g19, g21, g25]
  rcases hacc with rfl | rfl | rfl
  · simp only [Int.reduceEq, if_false, if_true, b2, b16, d2, d16]
    cases user <;> by_cases h2 : n &&& 2 = 0 <;> by_cases h16 : n &&& 16 = 0 <;> simp [h2, h16]
  · simp only [Int.reduceEq, if_false, if_true, b4, b16, d4, d16]
    cases user <;> by_cases h2 : n &&& 4 = 0 <;> by_cases h16 : n &&& 16 = 0 <;> simp [h2, h16]
  · simp only [Int.reduceEq, if_false, if_true, b8, b16, d8, d16]
    cases user <;> by_cases h2 : n &&& 8 = 0 <;> by_cases h16 : n &&& 16 = 0 <;> simp [h2, h16]
def findRes (l : List S50) (va acc : Int) (user : Bool) (t : Int) : Bool × Int × Int :=
  if t < 0 then (false, 0, 0) else
  let e := l.getD t.toNat z50
  if (!mayB e.f3 acc user || (decide (acc = 2) && (Go.bits .and .i64 e.f3 64 == 0))) = true then (false, 0, 0)
  else if e.f4 = true then (true, wrap64 ((wrap64 ((wrap64 (e.f2 + va / 256 % 32)) * 256)) + va % 256), t) else (true, wrap64 ((wrap64 (e.f2 * 256)) + va % 256), t)
theorem spec_hit (asid va : Int) (e : S50) : ∃ b, spec_l03Holds.f e.f0 e.f1 e.f2 e.f3 e.f4 va = some b ∧ b = holdsB e va := by
  unfold spec_l03Holds.f holdsB
  cases e.f4 <;> exact ⟨_, rfl, rfl⟩
theorem hit_step {γ : Type} (J : Bool → Option γ) (p : Prop) [Decidable p] (b B : Bool) : ((some b).bind fun t => if t = true then if p then J false else J B else J true) = J (!(b && (decide p || !B))) := by
  rw [Option.bind_some]
  by_cases h0 : p
  · rw [if_pos h0, decide_eq_true h0, Bool.true_or, Bool.and_true]
    cases b <;> rfl
  · rw [if_neg h0, decide_eq_false h0, Bool.false_or]
    cases b <;> cases B <;> rfl
theorem spec_loop (l : List S50) (nx asid va acc : Int) (user : Bool) (hl : l.length ≤ 16) (hva : 0 ≤ va) (k : Nat) (hk : 40 < k) : spec_TlbFind.l0 k asid va acc user 0 l nx = some (findRes l va acc user (findAt (hitB asid va) l 0)) := by
  have h := find_then (fun k i => spec_TlbFind.l0 k asid va acc user i l nx) l (hitB asid va) (fun t => some (findRes l va acc user t)) 2 1 (by
    intro k i hi hk
    obtain ⟨k, rfl⟩ : ∃ q, k = q + 1 := ⟨k - 1, by omega⟩
    show spec_TlbFind.l0 (k + 1 + 2) asid va acc user (i : Int) l nx = _
    have hr : rd_T50 l (i : Int) = l[i] := getD_at l i z50 hi
    have hg : l.getD i z50 = l[i] := by simp [hi]
    have hnot : ¬ ((i : Int) < 0) := by omega
    obtain ⟨b, hb, hbe⟩ := spec_hit asid va l[i]
    have hj : spec_TlbFind.l0 (k + 1 + 2) asid va acc user (i : Int) l nx = spec_TlbFind.j2 (k + 2) asid va acc user (i : Int) (!hitB asid va l[i]) l nx l[i].f0 l[i].f1 l[i].f2 l[i].f3 l[i].f4 := by
      rw [spec_TlbFind.l0, if_pos (by omega), if_pos (by omega), hr, hb]
      unfold hitB
      rw [← hbe, bne]
      exact hit_step (fun c => spec_TlbFind.j2 (k + 2) asid va acc user (i : Int) c l nx l[i].f0 l[i].f1 l[i].f2 l[i].f3 l[i].f4) (l[i].f0 = asid) b (Go.bits .and .i64 l[i].f3 128 == 0)
    rw [hj, spec_TlbFind.j2]
    cases hh : hitB asid va l[i]
    · rw [wrap_succ i l.length hi (by omega)]; rfl
    simp only [Bool.not_true, Bool.false_eq_true, if_false, if_true]
    rw [spec_may _ (by omega)]
    simp only [Option.bind_some]
    unfold findRes
    rw [if_neg hnot, Int.toNat_natCast, hg]
    dsimp only
    have ev : va.tmod 256 = va % 256 := Int.tmod_eq_emod_of_nonneg hva
    have ew : (va / 256).tmod 32 = va / 256 % 32 := Int.tmod_eq_emod_of_nonneg (Int.ediv_nonneg hva (by decide))
    generalize mayB l[i].f3 acc user = M
    cases M
    · simp only [Bool.false_eq_true, if_false]
      rw [spec_TlbFind.j3]; rfl
    simp only [if_true, Bool.not_true, Bool.false_or]
    by_cases h2 : acc = 2
    · rw [if_pos h2, spec_TlbFind.j3, ev, ew, h2]
      generalize (Go.bits .and .i64 l[i].f3 64 == 0) = D
      cases D <;> cases l[i].f4 <;> simp
    · rw [if_neg h2, spec_TlbFind.j3, ev, ew]
      cases l[i].f4 <;> simp [h2]) (by
    intro k
    show spec_TlbFind.l0 (k + 1) asid va acc user (l.length : Int) l nx = _
    rw [spec_TlbFind.l0, if_neg (by omega)]; rfl) l.length k 0 (by omega) (by omega)
  exact h
def argsOk (asid va acc : Int) : Bool := decide (0 ≤ asid ∧ asid ≤ 255) && decide (0 ≤ va ∧ va ≤ 262143) && decide (1 ≤ acc ∧ acc ≤ 3)
def tlbFindRes (l : List S50) (nx asid va acc : Int) (user : Bool) : Bool × Int × Int :=
  if (tlbOk l nx && argsOk asid va acc) = true then findRes l va acc user (findAt (hitB asid va) l 0) else (false, 0, 0)
theorem spec_find (k : Nat) (hk : 400 ≤ k) (l : List S50) (nx asid va acc : Int) (user : Bool) : spec_TlbFind.f k l nx asid va acc user = some (tlbFindRes l nx asid va acc user) := by
  obtain ⟨k, rfl⟩ : ∃ q, k = q + 1 := ⟨k - 1, by omega⟩
  unfold spec_TlbFind.f tlbFindRes
  rw [spec_fault _ (by omega)]
  simp only [Option.bind_some]
  cases ht : tlbOk l nx
  · simp [spec_TlbFind.j0]
  simp only [if_true, Bool.true_and]
  unfold argsOk
  by_cases c1 : asid < 0
  · rw [if_pos c1, spec_TlbFind.j0]; simp; omega
  rw [if_neg c1]
  by_cases c2 : asid > 255
  · rw [if_pos c2, spec_TlbFind.j0]; simp; omega
  rw [if_neg c2]
  by_cases c3 : va < 0
  · rw [if_pos c3, spec_TlbFind.j0]; simp; omega
  rw [if_neg c3]
  by_cases c4 : va ≥ 262144
  · rw [if_pos c4, spec_TlbFind.j0]; simp; omega
  rw [if_neg c4]
  have ha : spec_l03Acc.f acc = some (decide (1 ≤ acc ∧ acc ≤ 3)) := by
    unfold spec_l03Acc.f
    repeat' split
    all_goals (congr 1; rw [Bool.eq_iff_iff]; simp; try omega)
  have e1 : decide (0 ≤ asid ∧ asid ≤ 255) = true := by simp; omega
  have e2 : decide (0 ≤ va ∧ va ≤ 262143) = true := by simp; omega
  rw [ha]
  simp only [Option.bind_some]
  rw [spec_TlbFind.j0, e1, e2]
  cases decide (1 ≤ acc ∧ acc ≤ 3)
  · simp
  · simp only [Bool.not_true, Bool.false_eq_true, if_false, Bool.and_self, if_true]
    exact spec_loop l nx asid va acc user (tlb_len ht) (by omega) k (by omega)
theorem impl_index (k : Nat) (l : List S50) (asid va : Int) (hl : l.length ≤ 16) (hk : 17 ≤ k) : slices_IndexFunc_TlbEntry_at_impl_TlbFind_c1.f k l va asid = some (findAt (hitB asid va) l 0) := by
  have h := find_loop (fun k i => slices_IndexFunc_TlbEntry_at_impl_TlbFind_c1.l0 k l (l.length : Int) i va asid) l (hitB asid va) (by
    intro k i hi
    show slices_IndexFunc_TlbEntry_at_impl_TlbFind_c1.l0 (k + 1) l (l.length : Int) (i : Int) va asid = _
    have hr : rd_T50 l (i : Int) = l[i] := getD_at l i z50 hi
    rw [slices_IndexFunc_TlbEntry_at_impl_TlbFind_c1.l0, if_pos (by omega), if_pos (by omega), if_pos (by omega), hr, wrap_succ i l.length hi (by omega)]
    unfold impl_TlbFind_c1.f impl_TlbEntry_yholds.f hitB holdsB
    cases l[i].f4 <;> by_cases h0 : l[i].f0 = asid <;> simp [h0] <;> split <;> simp_all) (by
    intro k
    show slices_IndexFunc_TlbEntry_at_impl_TlbFind_c1.l0 (k + 1) l (l.length : Int) (l.length : Int) va asid = _
    rw [slices_IndexFunc_TlbEntry_at_impl_TlbFind_c1.l0, if_neg (by omega)]) l.length k 0 (by omega) (by omega)
  exact h
theorem impl_find (k : Nat) (hk : 400 ≤ k) (l : List S50) (nx asid va acc : Int) (user : Bool) : impl_TlbFind.f k l nx asid va acc user = some (tlbFindRes l nx asid va acc user) := by
  obtain ⟨k, rfl⟩ : ∃ q, k = q + 2 := ⟨k - 2, by omega⟩
  unfold impl_TlbFind.f tlbFindRes
  rw [impl_fault _ (by omega)]
  simp only [Option.bind_some]
  cases ht : tlbOk l nx
  · simp [impl_TlbFind.j0]
  have hw : impl_ywalkOk.f asid va acc = some (argsOk asid va acc) := by
    unfold impl_ywalkOk.f argsOk
    simp only [impl_yin, Option.bind_some]
    cases decide (0 ≤ asid ∧ asid ≤ 255) <;> cases decide (0 ≤ va ∧ va ≤ 262143) <;> simp
  simp only [if_true, Bool.true_and]
  rw [hw]
  simp only [Option.bind_some]
  rw [impl_TlbFind.j0]
  cases ha : argsOk asid va acc
  · simp
  simp only [Bool.not_true, Bool.false_eq_true, if_false, if_true]
  unfold argsOk at ha
  simp only [Bool.and_eq_true, decide_eq_true_eq] at ha
  obtain ⟨⟨_, hv0, hv1⟩, ha1, ha3⟩ := ha
  have hl := tlb_len ht
  rw [impl_index _ _ _ _ hl (by omega)]
  simp only [Option.bind_some]
  rcases findAt_spec (hitB asid va) l 0 with h | ⟨j, hj, h, _⟩
  · rw [h]; rfl
  rw [h, Nat.zero_add]
  have hent := tlb_entry ht j hj
  unfold entOk at hent
  simp only [Bool.and_eq_true, decide_eq_true_eq] at hent
  obtain ⟨⟨⟨_, _⟩, hf0, hf1⟩, _⟩ := hent
  have hr : rd_T50 l (j : Int) = l[j] := getD_at l j z50 hj
  have hg : l.getD j z50 = l[j] := by simp [hj]
  rw [if_neg (show ¬ ((j : Int) < 0) by omega), if_pos (show 0 ≤ (j : Int) by omega), if_pos (show (j : Int) < (l.length : Int) by omega), hr, impl_lets _ (by omega) _ _ _ hf0 hf1 ha1 ha3]
  simp only [Option.bind_some]
  unfold findRes
  rw [if_neg (show ¬ ((j : Int) < 0) by omega), Int.toNat_natCast, hg]
  dsimp only
  have ev : Go.bits .and .i64 va 255 = va % 256 := and_mask 8 (by decide) va hv0 (by omega)
  have ew : Go.bits .and .i64 (va / 256) 31 = va / 256 % 32 := and_mask 5 (by decide) (va / 256) (Int.ediv_nonneg hv0 (by decide)) (by omega)
  generalize mayB l[j].f3 acc user = M
  cases M
  · simp only [Bool.false_eq_true, if_false]
    rw [impl_TlbFind.j1]; rfl
  simp only [if_true, Bool.not_true, Bool.false_or]
  by_cases h2 : acc = 2
  · rw [if_pos h2, impl_TlbFind.j1, ev, ew, h2]
    generalize (Go.bits .and .i64 l[j].f3 64 == 0) = D
    cases D <;> cases l[j].f4 <;> simp
  · rw [if_neg h2, impl_TlbFind.j1, ev, ew]
    cases l[j].f4 <;> simp [h2]

theorem eq_hit (a : Bool) (b c : Int) : laws_eqTlbHit.f a b c a b c = some true := by
  unfold laws_eqTlbHit.f
  cases a <;> simp

theorem FnExactTlbFind : laws_FnExactTlbFind.Pure := by
  intro l nx asid va acc user hl hn ha hv hc
  refine ⟨2000000, ?_⟩
  unfold laws_FnExactTlbFind.f
  rw [szTlb l nx hl.1]
  simp only [Option.bind_some]
  by_cases hz : l.length > 1048576
  · simp [hz]
  rw [if_neg hz, if_neg (by omega), toTlb 2000000 l nx (by omega) (by omega)]
  simp only [Option.bind_some, spec_find 2000000 (by omega), impl_find 2000000 (by omega), eq_hit, if_true]
  rw [eqTlb 2000000 _ _ (by rw [List.length_map]; omega) (by rw [List.length_map]; omega)]
  rfl

end Go.Proofs.Ytaopkodopglgeaa.PureFnExactTlbFind
namespace Go.Proofs.Ytaopkodopglgeaa.Pure
theorem FnExactTlbFind : Go.Proofs.Ytaopkodopglgeaa.PFnExactTlbFind.laws_FnExactTlbFind.Pure := Go.Proofs.Ytaopkodopglgeaa.PureFnExactTlbFind.FnExactTlbFind
end Go.Proofs.Ytaopkodopglgeaa.Pure
