/- The plain statement of the law FnExactTakePacked. -/
import Derived.Test.YthcmgjbkmnpibaaStFnExactTakePacked
import Derived.OpenShut
namespace Go.Proofs.Ythcmgjbkmnpibaa.PureFnExactTakePacked
set_option linter.unusedVariables false
set_option linter.unusedSimpArgs false
open Go.RowKit Go.Proofs.Ythcmgjbkmnpibaa.PFnExactTakePacked Go.Proofs.YthcmgjbkmnpibaaW.PrintWords Go.Proofs.YthcmgjbkmnpibaaW.PrintLast Go.Proofs.YthcmgjbkmnpibaaW.PrintMore

/-! ### mem -/
/-- Memory as both want it: whole pages, at least one. -/
def memOk (m : ByteArray) : Bool := decide (256 ≤ (m.size : Int) ∧ (m.size : Int) ≤ 65536 ∧ (m.size : Int) % 256 = 0)
theorem impl_memOk (m : ByteArray) : impl_ymemOk.f m = some (memOk m) := by
  unfold impl_ymemOk.f memOk
  repeat' split
  all_goals (congr 1; rw [Bool.eq_iff_iff]; simp; omega)
theorem spec_memOk (m : ByteArray) : spec_MemFault.f m = some (if memOk m = true then 0 else 1) := by
  unfold spec_MemFault.f memOk
  grind
/-- A place in so many bytes. -/
def inB (n a b : Int) : Bool := decide (0 ≤ a ∧ 0 ≤ b ∧ a ≤ n ∧ b ≤ wrap64 (n - a))
theorem spec_in (m : ByteArray) (a b : Int) : spec_l10In.f m a b = some (inB m.size a b) := by
  unfold spec_l10In.f inB
  repeat' split
  all_goals (congr 1; rw [Bool.eq_iff_iff]; simp; omega)
theorem impl_in (n a b : Int) : impl_yfits.f n a b = some (inB n a b) := by
  unfold impl_yfits.f inB
  repeat' split
  all_goals (congr 1; rw [Bool.eq_iff_iff]; simp; omega)
theorem inB_true {n a b : Int} (h0 : 0 ≤ n) (hn : n ≤ 140737488351232) (h : inB n a b = true) : 0 ≤ a ∧ 0 ≤ b ∧ a + b ≤ n := by
  unfold inB at h
  simp only [decide_eq_true_eq] at h
  obtain ⟨h1, h2, h3, h4⟩ := h
  have e : wrap64 (n - a) = n - a := by unfold wrap64; omega
  rw [e] at h4
  omega

/-! ### yin -/
theorem impl_yin (a b c : Int) : impl_yin.f a b c = some (decide (b ≤ a ∧ a ≤ c)) := by
  unfold impl_yin.f
  split
  all_goals (congr 1; rw [Bool.eq_iff_iff]; simp; try omega)

/-! ### place -/
def placeOk (n a b : Int) : Bool := decide (Int.tmod a 4 = 0) && inB n a b
theorem impl_place (m : ByteArray) (a b : Int) : impl_yplace.f m a b = some (placeOk m.size a b) := by
  unfold impl_yplace.f placeOk
  simp only [impl_in, Option.bind_some]
  split <;> rename_i h <;> simp [h]

/-! ### packed -/
/-- What a packed ring is. -/
def packedOk (m : ByteArray) (s r a : Int) : Bool := memOk m && decide (1 ≤ s ∧ s ≤ 16) && decide (Int.tmod r 4 = 0) && inB m.size r (wrap64 (16 * s)) && decide (0 ≤ a ∧ a < s)
theorem spec_packed (m : ByteArray) (s r a : Int) (wr : Bool) : spec_PackedFault.f m s r a wr = some (if packedOk m s r a = true then 0 else 1) := by
  unfold spec_PackedFault.f packedOk
  simp only [spec_memOk, spec_in, Option.bind_some]
  grind
theorem impl_packed (m : ByteArray) (s r a : Int) (wr : Bool) (hs : (Lit.int .i64 s).wf = true) : impl_PackedFault.f m s r a wr = some (if packedOk m s r a = true then 0 else 1) := by
  have bs := bounds_i64 hs
  have e1 : 1 ≤ s → wrap64 (s - 1) = s - 1 := by intro h; unfold wrap64; omega
  unfold impl_PackedFault.f impl_yplace.f impl_yin.f packedOk
  simp only [impl_memOk, impl_in, Option.bind_some]
  grind
theorem packed_true {m : ByteArray} {s r a : Int} (h : packedOk m s r a = true) : 256 ≤ m.size ∧ m.size ≤ 65536 ∧ 1 ≤ s ∧ s ≤ 16 ∧ 0 ≤ r ∧ r + 16 * s ≤ m.size ∧ 0 ≤ a ∧ a < s := by
  unfold packedOk memOk at h
  simp only [Bool.and_eq_true, decide_eq_true_eq] at h
  obtain ⟨⟨⟨⟨⟨h1, h2, _⟩, h3, h4⟩, _⟩, h5⟩, h6, h7⟩ := h
  have e : wrap64 (16 * s) = 16 * s := by unfold wrap64; omega
  rw [e] at h5
  have := inB_true (by omega) (by omega) h5
  omega

/-! ### wbase -/
theorem wrap_id {x : Int} (h0 : -9223372036854775808 ≤ x) (h1 : x ≤ 9223372036854775807) : wrap64 x = x := by unfold wrap64; omega
theorem wraps_i64 (n : Int) (h0 : 0 ≤ n) (h1 : n < 2 ^ 63) : IntKind.i64.wrap n = n := by rw [IntKind.wrap_i64]; omega
theorem or_comm_i64 (x y : Int) : Go.bits .or .i64 x y = Go.bits .or .i64 y x := by
  unfold Go.bits
  simp only [BitVec.or_comm]
theorem or_low (i : Nat) (x y : Int) (hx0 : 0 ≤ x) (hx : x < 2 ^ i) (hy0 : 0 ≤ y) (hy : y % 2 ^ i = 0) (hy1 : y < 2 ^ 63) (hx1 : x < 2 ^ 63) : Go.bits .or .i64 x y = x + y := by
  rw [or_comm_i64, Int.add_comm]
  exact bits_join .i64 63 (by decide) wraps_i64 i y x hy0 hy hy1 hx0 hx hx1
theorem and_mask (i : Nat) (hi : i ≤ 63) (x : Int) (h0 : 0 ≤ x) (h1 : x < 2 ^ 63) : Go.bits .and .i64 x (2 ^ i - 1) = x % 2 ^ i :=
  bits_mask .i64 63 (by decide) wraps_i64 i hi x h0 h1

/-! ### words -/
/-- Four bytes as a number. -/
def word (m : ByteArray) (a : Int) : Int := bt m a + bt m (a + 1) * 256 + bt m (a + 2) * 65536 + bt m (a + 3) * 16777216
theorem word_range (m : ByteArray) (a : Int) : 0 ≤ word m a ∧ word m a < 4294967296 := by
  have h0 := bt_range m a; have h1 := bt_range m (a + 1); have h2 := bt_range m (a + 2); have h3 := bt_range m (a + 3)
  unfold word; omega
theorem spec_word (m : ByteArray) (a : Int) (hm : m.size ≤ 140737488351232) (h0 : 0 ≤ a) (h1 : a + 4 ≤ m.size) : spec_l01Word.f m a = some (word m a) := by
  have b0 := bt_range m a; have b1 := bt_range m (a + 1); have b2 := bt_range m (a + 2); have b3 := bt_range m (a + 3)
  have e1 : wrap64 (a + 1) = a + 1 := wrap_id (by omega) (by omega)
  have e2 : wrap64 (a + 2) = a + 2 := wrap_id (by omega) (by omega)
  have e3 : wrap64 (a + 3) = a + 3 := wrap_id (by omega) (by omega)
  unfold spec_l01Word.f word
  rw [e1, e2, e3, if_pos h0, if_pos (by omega), if_pos (by omega), if_pos (by omega), if_pos (by omega), if_pos (by omega), if_pos (by omega), if_pos (by omega)]
  rw [wrap_id (x := bt m a) (by omega) (by omega), wrap_id (x := bt m (a + 1)) (by omega) (by omega), wrap_id (x := bt m (a + 2)) (by omega) (by omega), wrap_id (x := bt m (a + 3)) (by omega) (by omega)]
  rw [wrap_id (x := bt m (a + 1) * 256) (by omega) (by omega), wrap_id (x := bt m (a + 2) * 65536) (by omega) (by omega), wrap_id (x := bt m (a + 3) * 16777216) (by omega) (by omega)]
  rw [wrap_id (x := bt m a + bt m (a + 1) * 256) (by omega) (by omega), wrap_id (x := bt m a + bt m (a + 1) * 256 + bt m (a + 2) * 65536) (by omega) (by omega), wrap_id (by omega) (by omega)]

/-! ### iword -/
theorem impl_word (m : ByteArray) (a : Int) (hm : m.size ≤ 140737488351232) (h0 : 0 ≤ a) (h1 : a + 4 ≤ m.size) : impl_ywordAt.f m a = some (word m a) := by
  have b0 := bt_range m a; have b1 := bt_range m (a + 1); have b2 := bt_range m (a + 2); have b3 := bt_range m (a + 3)
  have e1 : wrap64 (a + 1) = a + 1 := wrap_id (by omega) (by omega)
  have e2 : wrap64 (a + 2) = a + 2 := wrap_id (by omega) (by omega)
  have e3 : wrap64 (a + 3) = a + 3 := wrap_id (by omega) (by omega)
  unfold impl_ywordAt.f word
  rw [e1, e2, e3, if_pos h0, if_pos (by omega), if_pos (by omega), if_pos (by omega), if_pos (by omega), if_pos (by omega), if_pos (by omega), if_pos (by omega)]
  rw [wrap_id (x := bt m a) (by omega) (by omega), wrap_id (x := bt m (a + 1)) (by omega) (by omega), wrap_id (x := bt m (a + 2)) (by omega) (by omega), wrap_id (x := bt m (a + 3)) (by omega) (by omega)]
  rw [wrap_id (x := bt m (a + 1) * 256) (by omega) (by omega), wrap_id (x := bt m (a + 2) * 65536) (by omega) (by omega), wrap_id (x := bt m (a + 3) * 16777216) (by omega) (by omega)]
  rw [or_low 8 (bt m a) (bt m (a + 1) * 256) (by omega) (by omega) (by omega) (by omega) (by omega) (by omega)]
  rw [or_low 16 (bt m a + bt m (a + 1) * 256) (bt m (a + 2) * 65536) (by omega) (by omega) (by omega) (by omega) (by omega) (by omega)]
  rw [or_low 24 _ (bt m (a + 3) * 16777216) (by omega) (by omega) (by omega) (by omega) (by omega) (by omega)]

/-! ### ybig -/
theorem impl_big1 (k : Nat) (hk : 2 ≤ k) (m : ByteArray) : impl_ybig.f k ([m] : List ByteArray) = some (decide ((m.size : Int) > 65536)) := by
  obtain ⟨k, rfl⟩ : ∃ q, k = q + 2 := ⟨k - 2, by omega⟩
  unfold impl_ybig.f
  simp only [impl_ybig.l0, rdOf, wrap64]
  by_cases h : (m.size : Int) > 65536 <;> simp (config := {decide := true}) [h]

/-! ### loops -/
theorem getD_at {α : Type} (xs : List α) (i : Nat) (z : α) (h : i < xs.length) : xs.getD ((i : Int)).toNat z = xs[i] := by simp [h]
theorem wrap_succ (i n : Nat) (h : i < n) (hn : n ≤ 140737488351232) : wrap64 ((i : Int) + 1) = ((i + 1 : Nat) : Int) := by
  unfold wrap64; omega
/-- A loop that fills a list from the front. -/
theorem fill_loop {α β : Type} (F : Nat → List β → Int → Option (List β)) (xs : List α) (g : α → β)
    (hF : ∀ (k : Nat) (ys : List β) (i : Nat) (hi : i < xs.length), ys.length = xs.length → F (k + 1) ys (i : Int) = F k (ys.set i (g xs[i])) ((i + 1 : Nat) : Int))
    (hE : ∀ (k : Nat) (ys : List β), F (k + 1) ys (xs.length : Int) = some ys) :
    ∀ (d k : Nat) (ys : List β) (i : Nat), i + d = xs.length → d < k → ys.length = xs.length → ys.take i = (xs.take i).map g → F k ys (i : Int) = some (xs.map g) := by
  intro d
  induction d with
  | zero =>
    intro k ys i hi hk hl ht
    obtain ⟨k, rfl⟩ : ∃ q, k = q + 1 := ⟨k - 1, by omega⟩
    have : i = xs.length := by omega
    subst this
    rw [hE]
    rw [List.take_of_length_le (by omega), List.take_of_length_le (Nat.le_refl _)] at ht
    rw [ht]
  | succ d ih =>
    intro k ys i hi hk hl ht
    obtain ⟨k, rfl⟩ : ∃ q, k = q + 1 := ⟨k - 1, by omega⟩
    have hlt : i < xs.length := by omega
    rw [hF k ys i hlt hl]
    refine ih k _ (i + 1) (by omega) (by omega) (by rw [List.length_set, hl]) ?_
    rw [List.take_succ_eq_append_getElem (by rw [List.length_set]; omega), List.take_succ_eq_append_getElem hlt, List.map_append, ← ht]
    congr 1
    · rw [List.take_set, List.set_eq_of_length_le (by rw [List.length_take]; omega)]
    · simp
/-- The place of the first that p lets, from i on; -1: none. -/
def findAt {α : Type} (p : α → Bool) : List α → Nat → Int
  | [], _ => -1
  | x :: xs, i => if p x = true then (i : Int) else findAt p xs (i + 1)
theorem findAt_any {α : Type} (p : α → Bool) (xs : List α) : ∀ i, decide (findAt p xs i ≥ 0) = xs.any p := by
  induction xs with
  | nil => intro i; simp [findAt]
  | cons x xs ih =>
    intro i
    rw [findAt, List.any_cons]
    cases h : p x
    · simp only [Bool.false_eq_true, if_false, Bool.false_or]; exact ih (i + 1)
    · simp only [if_true, Bool.true_or]; simp
theorem find_loop {α : Type} (F : Nat → Int → Option Int) (xs : List α) (p : α → Bool)
    (hF : ∀ (k i : Nat) (hi : i < xs.length), F (k + 1) (i : Int) = if p xs[i] = true then some (i : Int) else F k ((i + 1 : Nat) : Int))
    (hE : ∀ k : Nat, F (k + 1) (xs.length : Int) = some (-1)) :
    ∀ (d k i : Nat), i + d = xs.length → d < k → F k (i : Int) = some (findAt p (xs.drop i) i) := by
  intro d
  induction d with
  | zero =>
    intro k i hi hk
    obtain ⟨k, rfl⟩ : ∃ q, k = q + 1 := ⟨k - 1, by omega⟩
    have : i = xs.length := by omega
    subst this
    rw [hE, List.drop_length, findAt]
  | succ d ih =>
    intro k i hi hk
    obtain ⟨k, rfl⟩ : ∃ q, k = q + 1 := ⟨k - 1, by omega⟩
    have hlt : i < xs.length := by omega
    rw [hF k i hlt, List.drop_eq_getElem_cons hlt, findAt]
    split
    · rfl
    · exact ih k (i + 1) (by omega) (by omega)
/-- A loop that goes on while p holds; then R, else B. -/
theorem all_loop {α γ : Type} (F : Nat → Int → Option γ) (xs : List α) (p : α → Bool) (B : Option γ) (R : Option γ) (K : Nat)
    (hF : ∀ (k i : Nat) (hi : i < xs.length), F (k + 1) (i : Int) = if p xs[i] = true then F k ((i + 1 : Nat) : Int) else B)
    (hE : ∀ k : Nat, K ≤ k → F (k + 1) (xs.length : Int) = R) :
    ∀ (d k i : Nat), i + d = xs.length → d + K < k → F k (i : Int) = if (xs.drop i).all p = true then R else B := by
  intro d
  induction d with
  | zero =>
    intro k i hi hk
    obtain ⟨k, rfl⟩ : ∃ q, k = q + 1 := ⟨k - 1, by omega⟩
    have : i = xs.length := by omega
    subst this
    rw [hE k (by omega), List.drop_length]; rfl
  | succ d ih =>
    intro k i hi hk
    obtain ⟨k, rfl⟩ : ∃ q, k = q + 1 := ⟨k - 1, by omega⟩
    have hlt : i < xs.length := by omega
    rw [hF k i hlt, List.drop_eq_getElem_cons hlt, List.all_cons]
    cases h : p xs[i]
    · simp
    · simp only [if_true, Bool.true_and]; exact ih k (i + 1) (by omega) (by omega)
/-- A search whose answer is told at once; c rounds a step. -/
theorem find_then {α γ : Type} (F : Nat → Int → Option γ) (xs : List α) (p : α → Bool) (G : Int → Option γ) (c K : Nat)
    (hF : ∀ (k i : Nat) (hi : i < xs.length), K ≤ k → F (k + c) (i : Int) = if p xs[i] = true then G (i : Int) else F k ((i + 1 : Nat) : Int))
    (hE : ∀ k : Nat, F (k + 1) (xs.length : Int) = G (-1)) :
    ∀ (d k i : Nat), i + d = xs.length → c * d + K < k → F k (i : Int) = G (findAt p (xs.drop i) i) := by
  intro d
  induction d with
  | zero =>
    intro k i hi hk
    obtain ⟨k, rfl⟩ : ∃ q, k = q + 1 := ⟨k - 1, by omega⟩
    have : i = xs.length := by omega
    subst this
    rw [hE, List.drop_length, findAt]
  | succ d ih =>
    intro k i hi hk
    rw [Nat.mul_add] at hk
    obtain ⟨k, rfl⟩ : ∃ q, k = q + c := ⟨k - c, by omega⟩
    have hlt : i < xs.length := by omega
    rw [hF k i hlt (by omega), List.drop_eq_getElem_cons hlt, findAt]
    split
    · rfl
    · exact ih k (i + 1) (by omega) (by omega)
theorem findAt_spec {α : Type} (p : α → Bool) (xs : List α) : ∀ i, findAt p xs i = -1 ∨ ∃ j, ∃ h : j < xs.length, findAt p xs i = ((i + j : Nat) : Int) ∧ p xs[j] = true := by
  induction xs with
  | nil => intro i; left; rfl
  | cons x xs ih =>
    intro i
    rw [findAt]
    split
    · rename_i h; right; exact ⟨0, by simp, by simp, h⟩
    · rcases ih (i + 1) with h | ⟨j, hj, h1, h2⟩
      · left; exact h
      · right; exact ⟨j + 1, by simpa using hj, by rw [h1]; omega, by simpa using h2⟩

/-! ### eqbufs -/
theorem eqBuf_self (b : S75) : laws_eqBuf.f b.f0 b.f1 b.f2 b.f0 b.f1 b.f2 = some true := by
  unfold laws_eqBuf.f
  cases b.f2 <;> simp
theorem eqBufs (k : Nat) (l : List S75) (hk : l.length < k) (hl : l.length ≤ 1048576) : laws_eqBufS.f k l l = some true := by
  unfold laws_eqBufS.f
  rw [if_pos rfl]
  have h := all_loop (fun k i => laws_eqBufS.l0 k l l i) l (fun _ => true) none (some true) 0 (by
    intro k i hi
    show laws_eqBufS.l0 (k + 1) l l (i : Int) = _
    rw [laws_eqBufS.l0, if_pos (by omega), if_pos (by omega), if_pos (by omega), eqBuf_self]
    simp only [Option.bind_some, if_true]
    rw [wrap_succ i l.length hi (by omega)]) (by
    intro k _
    show laws_eqBufS.l0 (k + 1) l l (l.length : Int) = _
    rw [laws_eqBufS.l0, if_neg (by omega)]) l.length k 0 (by omega) (by omega)
  have h2 := h
  simp only [List.all_eq_true, implies_true, if_true] at h2
  exact h2

/-! ### markheld -/
/-- A loop F that marks each element with running numbers, and a loop G that tells whether the marks stand. -/
theorem mark_held {α : Type} (F : Nat → List α → Int → Int → Option (Int × List α)) (G : Nat → List α → Int → Int → Option Int) (c : Int) (E : Int → α → α) (hc : 0 ≤ c)
    (hF : ∀ (k : Nat) (xs : List α) (m : Int) (i : Nat) (hi : i < xs.length), 0 ≤ m → m ≤ 4000000000000000000 → xs.length ≤ 140737488351232 → F (k + 1) xs m (i : Int) = F k (xs.set i (E m xs[i])) (m + c) ((i + 1 : Nat) : Int))
    (hFe : ∀ (k : Nat) (xs : List α) (m : Int), F (k + 1) xs m (xs.length : Int) = some (m, xs))
    (hG : ∀ (k : Nat) (xs : List α) (m : Int) (i : Nat) (hi : i < xs.length) (a : α), 0 ≤ m → m ≤ 4000000000000000000 → xs.length ≤ 140737488351232 → xs[i] = E m a → G (k + 1) xs m (i : Int) = G k xs (m + c) ((i + 1 : Nat) : Int))
    (hGe : ∀ (k : Nat) (xs : List α) (m : Int), G (k + 1) xs m (xs.length : Int) = some m) :
    ∀ (d k1 k2 i : Nat) (xs : List α) (m : Int), i + d = xs.length → d < k1 → d < k2 → 0 ≤ m → m + c * d ≤ 4000000000000000000 → xs.length ≤ 140737488351232 →
      ∃ ys, F k1 xs m (i : Int) = some (m + c * d, ys) ∧ ys.length = xs.length ∧ (∀ j, j < i → ys[j]? = xs[j]?) ∧ G k2 ys m (i : Int) = some (m + c * d) := by
  intro d
  induction d with
  | zero =>
    intro k1 k2 i xs m hi h1 h2 hm hb hl
    obtain ⟨k1, rfl⟩ : ∃ q, k1 = q + 1 := ⟨k1 - 1, by omega⟩
    obtain ⟨k2, rfl⟩ : ∃ q, k2 = q + 1 := ⟨k2 - 1, by omega⟩
    have : i = xs.length := by omega
    subst this
    exact ⟨xs, by rw [hFe]; simp, rfl, fun _ _ => rfl, by rw [hGe]; simp⟩
  | succ d ih =>
    intro k1 k2 i xs m hi h1 h2 hm hb hl
    obtain ⟨k1, rfl⟩ : ∃ q, k1 = q + 1 := ⟨k1 - 1, by omega⟩
    obtain ⟨k2, rfl⟩ : ∃ q, k2 = q + 1 := ⟨k2 - 1, by omega⟩
    have hlt : i < xs.length := by omega
    have hcd : 0 ≤ c * (d : Int) := Int.mul_nonneg hc (by omega)
    have hs : c * ((d + 1 : Nat) : Int) = c * (d : Int) + c := by rw [Int.natCast_succ, Int.mul_add, Int.mul_one]
    rw [hs] at hb ⊢
    obtain ⟨ys, e1, e2, e3, e4⟩ := ih k1 k2 (i + 1) (xs.set i (E m xs[i])) (m + c) (by simp; omega) (by omega) (by omega) (by omega) (by omega) (by simpa using hl)
    have hy : i < ys.length := by rw [e2]; simpa using hlt
    have hyi : ys[i] = E m xs[i] := by
      have h := e3 i (by omega)
      rw [List.getElem?_eq_getElem hy, List.getElem?_set_self hlt] at h
      exact Option.some.inj h
    have z : m + c + c * (d : Int) = m + (c * (d : Int) + c) := by omega
    rw [z] at e1 e4
    refine ⟨ys, ?_, by rw [e2]; simp, ?_, ?_⟩
    · rw [hF k1 xs m i hlt hm (by omega) hl]; exact e1
    · intro j hj
      rw [e3 j (by omega), List.getElem?_set_ne (by omega)]
    · rw [hG k2 ys m i hy xs[i] hm (by omega) (by rw [e2]; simpa using hl) hyi]; exact e4

/-! ### markbufs -/
def markB (m : Int) (_ : S75) : S75 := ⟨m, m + 1, (Int.tmod (m + 2) 3 == 0)⟩
theorem markBufs (k1 k2 : Nat) (l : List S75) (h1 : l.length < k1) (h2 : l.length < k2) (hl : l.length ≤ 1048576) : ∃ ys, laws_markBufS.f k1 l 1 = some (1 + 3 * (l.length : Int), ys) ∧ ys.length = l.length ∧ laws_heldBufS.f k2 ys 1 = some (1 + 3 * (l.length : Int)) := by
  obtain ⟨ys, e1, e2, _, e4⟩ := mark_held (fun k xs m i => laws_markBufS.l0 k xs m i) (fun k xs m i => laws_heldBufS.l0 k xs m i) 3 markB (by decide) (by
    intro k xs m i hi h0 hm hl
    show laws_markBufS.l0 (k + 1) xs m (i : Int) = _
    have w1 : wrap64 (m + 1) = m + 1 := wrap_id (by omega) (by omega)
    have w2 : wrap64 (m + 1 + 1) = m + 2 := by rw [wrap_id (by clear w1; omega) (by clear w1; omega)]; clear w1; omega
    have w3 : wrap64 (m + 2 + 1) = m + 3 := by rw [wrap_id (by clear w1 w2; omega) (by clear w1 w2; omega)]; clear w1 w2; omega
    rw [laws_markBufS.l0, if_pos (by clear w1 w2 w3; omega), if_pos (by clear w1 w2 w3; omega)]
    simp only [Option.bind_some, w1, w2, w3]
    rw [wrap_succ i xs.length hi (by clear w1 w2 w3; omega)]
    unfold rd_T75 markB
    simp [hi]) (by
    intro k xs m
    show laws_markBufS.l0 (k + 1) xs m (xs.length : Int) = _
    rw [laws_markBufS.l0, if_neg (by omega)]) (by
    intro k xs m i hi a h0 hm hl hx
    show laws_heldBufS.l0 (k + 1) xs m (i : Int) = _
    have w1 : wrap64 (m + 1) = m + 1 := wrap_id (by omega) (by omega)
    have w2 : wrap64 (m + 1 + 1) = m + 2 := by rw [wrap_id (by clear w1; omega) (by clear w1; omega)]; clear w1; omega
    have w3 : wrap64 (m + 2 + 1) = m + 3 := by rw [wrap_id (by clear w1 w2; omega) (by clear w1 w2; omega)]; clear w1 w2; omega
    have hr : rd_T75 xs (i : Int) = markB m a := by unfold rd_T75; rw [getD_at xs i z75 hi, hx]
    rw [laws_heldBufS.l0, if_pos (by clear w1 w2 w3; omega), if_pos (by clear w1 w2 w3; omega)]
    simp only [w1, w2, w3, hr, markB]
    rw [wrap_succ i xs.length hi (by clear w1 w2 w3; omega)]
    simp) (by
    intro k xs m
    show laws_heldBufS.l0 (k + 1) xs m (xs.length : Int) = _
    rw [laws_heldBufS.l0, if_neg (by omega)]) l.length k1 k2 0 l 1 (by omega) h1 h2 (by omega) (by omega) (by omega)
  exact ⟨ys, e1, e2, e4⟩

/-! ### desc -/
theorem impl_readDesc (k : Nat) (hk : 5 ≤ k) (m : ByteArray) (a : Int) (hm : m.size ≤ 140737488351232) (h0 : 0 ≤ a) (h1 : a + 16 ≤ m.size) : impl_yreadDesc.f k m a = some (word m a, word m (a + 4), word m (a + 8), word m (a + 12)) := by
  obtain ⟨k, rfl⟩ : ∃ q, k = q + 5 := ⟨k - 5, by omega⟩
  have w0 : wrap64 (a + wrap64 (4 * 0)) = a := by rw [wrap_id (x := 4 * 0) (by decide) (by decide), wrap_id (by omega) (by omega)]; omega
  have w1 : wrap64 (a + wrap64 (4 * 1)) = a + 4 := by clear w0; rw [wrap_id (x := 4 * 1) (by decide) (by decide), wrap_id (by omega) (by omega)]; omega
  have w2 : wrap64 (a + wrap64 (4 * 2)) = a + 8 := by clear w0 w1; rw [wrap_id (x := 4 * 2) (by decide) (by decide), wrap_id (by omega) (by omega)]; omega
  have w3 : wrap64 (a + wrap64 (4 * 3)) = a + 12 := by clear w0 w1 w2; rw [wrap_id (x := 4 * 3) (by decide) (by decide), wrap_id (by omega) (by omega)]; omega
  have v0 : wrap64 (0 + 1) = 1 := wrap_id (by decide) (by decide)
  have v1 : wrap64 (1 + 1) = 2 := wrap_id (by decide) (by decide)
  have v2 : wrap64 (2 + 1) = 3 := wrap_id (by decide) (by decide)
  have v3 : wrap64 (3 + 1) = 4 := wrap_id (by decide) (by decide)
  have i0 := impl_word m a hm h0 (by clear w0 w1 w2 w3 v0 v1 v2 v3; omega)
  have i1 := impl_word m (a + 4) hm (by clear w0 w1 w2 w3 v0 v1 v2 v3; omega) (by clear w0 w1 w2 w3 v0 v1 v2 v3; omega)
  have i2 := impl_word m (a + 8) hm (by clear w0 w1 w2 w3 v0 v1 v2 v3; omega) (by clear w0 w1 w2 w3 v0 v1 v2 v3; omega)
  have i3 := impl_word m (a + 12) hm (by clear w0 w1 w2 w3 v0 v1 v2 v3; omega) (by clear w0 w1 w2 w3 v0 v1 v2 v3; omega)
  unfold impl_yreadDesc.f
  rw [impl_yreadDesc.l0, if_pos (by decide), w0, i0, Option.bind_some, if_pos rfl, v0]
  rw [impl_yreadDesc.l0, if_pos (by decide), w1, i1, Option.bind_some, if_neg (by decide), if_pos rfl, v1]
  rw [impl_yreadDesc.l0, if_pos (by decide), w2, i2, Option.bind_some, if_neg (by decide), if_neg (by decide), if_pos rfl, v2]
  rw [impl_yreadDesc.l0, if_pos (by decide), w3, i3, Option.bind_some, if_neg (by decide), if_neg (by decide), if_neg (by decide), if_pos rfl, v3]
  rw [impl_yreadDesc.l0, if_neg (by decide)]

/-! ### addbuf -/
/-- Is the last one to be written? -/
def lastW (bs : List S75) : Bool := decide (0 < bs.length) && (bs.getD (bs.length - 1) z75).f2
/-- What putting a buffer behind others answers. -/
def bufCode (m : ByteArray) (bs : List S75) (x y : Int) (wr : Bool) : Int := if inB m.size x y = true then (if (lastW bs && !wr) = true then 6 else 0) else 2
theorem last_at (bs : List S75) (hb : bs.length ≤ 1048576) (h0 : 0 < bs.length) : wrap64 ((bs.length : Int) - 1) = ((bs.length - 1 : Nat) : Int) := by
  rw [wrap_id (by omega) (by omega)]; omega
theorem spec_buf (m : ByteArray) (bs : List S75) (x y : Int) (wr : Bool) (hb : bs.length ≤ 1048576) : spec_l10Buf.f m bs x y wr = some (bufCode m bs x y wr) := by
  unfold spec_l10Buf.f bufCode lastW
  rw [spec_in]
  simp only [Option.bind_some]
  by_cases h0 : 0 < bs.length
  · have e := last_at bs hb h0
    have hr : rd_T75 bs ((bs.length - 1 : Nat) : Int) = bs.getD (bs.length - 1) z75 := by unfold rd_T75; rw [Int.toNat_natCast]
    rw [e, if_pos (show (bs.length : Int) > 0 by clear e hr; omega), if_pos (show (0 : Int) ≤ ((bs.length - 1 : Nat) : Int) by clear e hr; omega), if_pos (show ((bs.length - 1 : Nat) : Int) < (bs.length : Int) by clear e hr; omega), hr, decide_eq_true h0]
    generalize (bs.getD (bs.length - 1) z75).f2 = A
    generalize inB m.size x y = B
    clear e hr
    cases A <;> cases B <;> cases wr <;> simp
  · rw [if_neg (show ¬ (bs.length : Int) > 0 by omega), decide_eq_false h0]
    generalize inB m.size x y = B
    cases B <;> simp
theorem impl_has (a b c d x : Int) : impl_ydesc_has.f a b c d x = some (Go.bits .and .i64 c x != 0) := rfl
theorem impl_buf (a b c d : Int) : impl_ydesc_buf.f a b c d = some (a, b, Go.bits .and .i64 c 2 != 0) := rfl
theorem impl_add (m : ByteArray) (bs : List S75) (a b c d : Int) (hb : bs.length ≤ 1048576) : impl_yadd.f m bs a b c d = some (if bufCode m bs a b (Go.bits .and .i64 c 2 != 0) = 0 then (bs ++ [(⟨a, b, Go.bits .and .i64 c 2 != 0⟩ : S75)], 0) else ([], bufCode m bs a b (Go.bits .and .i64 c 2 != 0))) := by
  unfold impl_yadd.f bufCode lastW
  rw [impl_in]
  simp only [Option.bind_some, impl_has, impl_buf]
  generalize (Go.bits .and .i64 c 2 != 0) = W
  have hl : bs.length < 5864062014805 := by omega
  rw [if_pos hl]
  by_cases h0 : 0 < bs.length
  · have e := last_at bs hb h0
    have hr : rd_T75 bs ((bs.length - 1 : Nat) : Int) = bs.getD (bs.length - 1) z75 := by unfold rd_T75; rw [Int.toNat_natCast]
    rw [e, if_pos (show (bs.length : Int) > 0 by clear e hr; omega), if_pos (show (0 : Int) ≤ ((bs.length - 1 : Nat) : Int) by clear e hr; omega), if_pos (show ((bs.length - 1 : Nat) : Int) < (bs.length : Int) by clear e hr; omega), hr, decide_eq_true h0]
    generalize (bs.getD (bs.length - 1) z75).f2 = A
    generalize inB m.size a b = B
    clear e hr hl h0 hb
    cases A <;> cases B <;> cases W <;> simp
  · rw [if_neg (show ¬ (bs.length : Int) > 0 by omega), decide_eq_false h0]
    generalize inB m.size a b = B
    cases B <;> simp

/-- What is taken, with so many descriptors yet to go and these buffers found. -/
def takeGo (m : ByteArray) (s r a : Int) : Nat → List S75 → Int × Int × Int × List S75
  | 0, _ => (9, 0, 0, [])
  | n + 1, bs =>
    let d := r + 16 * ((a + (s - ((n + 1 : Nat) : Int))) % s)
    let f := word m (d + 8)
    if (Go.bits .and .i64 f 4 != 0) = true then (3, 0, 0, []) else
    let wr := Go.bits .and .i64 f 2 != 0
    let code := bufCode m bs (word m d) (word m (d + 4)) wr
    if code = 0 then (if (Go.bits .and .i64 f 1 != 0) = true then takeGo m s r a n (bs ++ [(⟨word m d, word m (d + 4), wr⟩ : S75)]) else (0, word m (d + 12) % 65536, s - (n : Int), bs ++ [(⟨word m d, word m (d + 4), wr⟩ : S75)]))
    else (code, 0, 0, [])
/-- Is there nothing? -/
def noneB (m : ByteArray) (r a : Int) (wr : Bool) : Bool := ((Go.bits .and .i64 (word m (r + 16 * a + 8)) 128 != 0) != wr) || ((Go.bits .and .i64 (word m (r + 16 * a + 8)) 32768 != 0) == wr)
def takeRes (m : ByteArray) (s r a : Int) (wr : Bool) : Int × Int × Int × List S75 :=
  if (m.size : Int) > 65536 then (2, 0, 0, []) else
  if packedOk m s r a = true then (if noneB m r a wr = true then (5, 0, 0, []) else takeGo m s r a s.toNat []) else (1, 0, 0, [])

theorem takeGo_len (m : ByteArray) (s r a : Int) : ∀ (n : Nat) (bs : List S75), bs.length + n ≤ 16 → (takeGo m s r a n bs).2.2.2.length ≤ 16 := by
  intro n
  induction n with
  | zero => intro bs h; simp [takeGo]
  | succ n ih =>
    intro bs h
    rw [takeGo]
    dsimp only
    split
    · simp
    split
    · split
      · exact ih _ (by simp; omega)
      · simp; omega
    · simp
theorem takeGo_count (m : ByteArray) (s r a : Int) (n : Nat) (bs : List S75) : True := trivial

theorem at_range (a c s : Int) (h : 0 < s) : 0 ≤ (a + c) % s ∧ (a + c) % s < s := ⟨Int.emod_nonneg _ (by omega), Int.emod_lt_of_pos _ h⟩

theorem spec_go (m : ByteArray) (s r a : Int) (wr : Bool) (hm : m.size ≤ 65536) (hs : 1 ≤ s) (hs1 : s ≤ 16) (hr : 0 ≤ r) (hr1 : r + 16 * s ≤ m.size) (ha : 0 ≤ a) (ha1 : a < s) :
    ∀ (n k : Nat) (bs : List S75), (n : Int) ≤ s → bs.length + n ≤ 16 → 2 * n + 1 ≤ k →
      spec_TakePacked.j1 k m (r + 16 * ((a + (s - (n : Int))) % s)) (word m (r + 16 * ((a + (s - (n : Int))) % s) + 8)) false s r a wr 0 0 (s - (n : Int)) bs = some (takeGo m s r a n bs) := by
  intro n
  induction n with
  | zero =>
    intro k bs hn hb hk
    obtain ⟨k, rfl⟩ : ∃ q, k = q + 1 := ⟨k - 1, by omega⟩
    have e : wrap64 (s - ((0 : Nat) : Int) + 1) = s + 1 := by rw [wrap_id (by omega) (by omega)]; omega
    rw [spec_TakePacked.j1, if_neg (by decide), e, if_pos (by clear e; omega), takeGo]
  | succ n ih =>
    intro k bs hn hb hk
    obtain ⟨k, rfl⟩ : ∃ q, k = q + 2 := ⟨k - 2, by omega⟩
    obtain ⟨p0, p1⟩ := at_range a (s - ((n + 1 : Nat) : Int)) s (by omega)
    have hc : s - ((n + 1 : Nat) : Int) + 1 = s - (n : Int) := by omega
    generalize hd : r + 16 * ((a + (s - ((n + 1 : Nat) : Int))) % s) = d
    have d0 : 0 ≤ d := by omega
    have d1 : d + 16 ≤ m.size := by omega
    have q0 := spec_word m d (by omega) d0 (by omega)
    have q4 := spec_word m (d + 4) (by omega) (by omega) (by omega)
    have q12 := spec_word m (d + 12) (by omega) (by omega) (by omega)
    have r12 := word_range m (d + 12)
    have hlen : bs.length < 5864062014805 := by omega
    have sb := spec_buf m bs (word m d) (word m (d + 4)) (Go.bits .and .i64 (word m (d + 8)) 2 != 0) (by omega)
    have et : Int.tmod (word m (d + 12)) 65536 = word m (d + 12) % 65536 := Int.tmod_eq_emod_of_nonneg r12.1
    have e : wrap64 (s - ((n + 1 : Nat) : Int) + 1) = s - (n : Int) := by rw [wrap_id (by omega) (by omega)]; omega
    have e4 : wrap64 (d + 4) = d + 4 := wrap_id (by clear e; omega) (by clear e; omega)
    have e12 : wrap64 (d + 12) = d + 12 := wrap_id (by clear e e4; omega) (by clear e e4; omega)
    rw [spec_TakePacked.j1, if_neg (by decide), e, if_neg (by clear e e4 e12; omega), takeGo]
    dsimp only
    rw [hd]
    have hg : ∀ x : Int, (Go.bits .and .i64 (word m (d + 8)) x != 0) = decide (¬ Go.bits .and .i64 (word m (d + 8)) x = 0) := by intro x; rw [Bool.eq_iff_iff]; simp
    by_cases h4 : Go.bits .and .i64 (word m (d + 8)) 4 = 0
    · rw [if_pos h4, if_neg (by rw [hg 4]; simpa using h4), q0]
      simp only [Option.bind_some, e4, q4, sb, e12, q12, et]
      generalize bufCode m bs (word m d) (word m (d + 4)) (Go.bits .and .i64 (word m (d + 8)) 2 != 0) = code
      by_cases hcd : code = 0
      · rw [if_pos hcd, if_pos hcd, if_pos hlen]
        by_cases h1 : Go.bits .and .i64 (word m (d + 8)) 1 = 0
        · rw [if_pos h1, if_neg (by rw [hg 1]; simpa using h1)]
        · rw [if_neg h1, if_pos (by rw [hg 1]; simpa using h1)]
          have ih' := ih k (bs ++ [(⟨word m d, word m (d + 4), Go.bits .and .i64 (word m (d + 8)) 2 != 0⟩ : S75)]) (by clear e e4 e12; omega) (by clear e e4 e12; simp; omega) (by clear e e4 e12; omega)
          obtain ⟨p2, p3⟩ := at_range a (s - (n : Int)) s (by clear e e4 e12; omega)
          have ac : wrap64 (a + (s - (n : Int))) = a + (s - (n : Int)) := wrap_id (by clear e e4 e12; omega) (by clear e e4 e12; omega)
          have am : Int.tmod (a + (s - (n : Int))) s = (a + (s - (n : Int))) % s := Int.tmod_eq_emod_of_nonneg (by clear e e4 e12 ac; omega)
          generalize hp : (a + (s - (n : Int))) % s = p at ih' p2 p3
          have w8 := spec_word m (r + 16 * p + 8) (by clear e e4 e12 ac; omega) (by clear e e4 e12 ac; omega) (by clear e e4 e12 ac; omega)
          have f1 : wrap64 (16 * p) = 16 * p := wrap_id (by clear e e4 e12 ac; omega) (by clear e e4 e12 ac; omega)
          have f2 : wrap64 (r + 16 * p) = r + 16 * p := wrap_id (by clear e e4 e12 ac f1; omega) (by clear e e4 e12 ac f1; omega)
          have f3 : wrap64 (r + 16 * p + 8) = r + 16 * p + 8 := wrap_id (by clear e e4 e12 ac f1 f2; omega) (by clear e e4 e12 ac f1 f2; omega)
          rw [spec_TakePacked.l0, if_neg (by clear e e4 e12 ac f1 f2 f3; omega), ac, am, hp, f1, f2, f3, w8]
          simp only [Option.bind_some]
          rw [if_neg (by clear e e4 e12 ac f1 f2 f3; omega)]
          exact ih'
      · rw [if_neg hcd, if_neg hcd]
    · rw [if_neg h4, if_pos (by rw [hg 4]; simpa using h4)]

theorem spec_take (k : Nat) (hk : 100 ≤ k) (m : ByteArray) (s r a : Int) (wr : Bool) : spec_TakePacked.f k m s r a wr = some (takeRes m s r a wr) := by
  obtain ⟨k, rfl⟩ : ∃ q, k = q + 2 := ⟨k - 2, by omega⟩
  unfold spec_TakePacked.f takeRes
  rw [spec_packed]
  by_cases hm : (m.size : Int) > 65536
  · rw [if_pos hm, if_pos hm]
  rw [if_neg hm, if_neg hm]
  simp only [Option.bind_some]
  cases hp : packedOk m s r a
  · simp
  obtain ⟨h1, h2, h3, h4, h5, h6, h7, h8⟩ := packed_true hp
  simp only [if_true]
  have w8 := spec_word m (r + 16 * a + 8) (by omega) (by omega) (by omega)
  have am : Int.tmod (a + 0) s = a := by rw [Int.tmod_eq_emod_of_nonneg (by omega), Int.add_zero, Int.emod_eq_of_lt h7 h8]
  have hns : s - (s.toNat : Int) = 0 := by omega
  have go := spec_go m s r a wr (by omega) h3 h4 h5 h6 h7 h8 s.toNat k [] (by omega) (by simp; omega) (by omega)
  rw [hns, Int.add_zero, Int.emod_eq_of_lt h7 h8] at go
  have ac : wrap64 (a + 0) = a + 0 := wrap_id (by omega) (by omega)
  have f1 : wrap64 (16 * a) = 16 * a := wrap_id (by clear ac; omega) (by clear ac; omega)
  have f2 : wrap64 (r + 16 * a) = r + 16 * a := wrap_id (by clear ac f1; omega) (by clear ac f1; omega)
  have f3 : wrap64 (r + 16 * a + 8) = r + 16 * a + 8 := wrap_id (by clear ac f1 f2; omega) (by clear ac f1 f2; omega)
  rw [spec_TakePacked.l0, if_neg (by clear ac f1 f2 f3; omega), ac, am, f1, f2, f3, w8]
  simp only [Option.bind_some, if_true]
  unfold noneB
  have tr : ∀ x f, spec_TakePacked.j1 (k + 1) m x f true s r a wr 0 0 0 [] = some (5, 0, 0, ([] : List S75)) := by intro x f; rw [spec_TakePacked.j1, if_pos rfl]
  have go1 : spec_TakePacked.j1 (k + 1) m (r + 16 * a) (word m (r + 16 * a + 8)) false s r a wr 0 0 0 [] = some (takeGo m s r a s.toNat []) := by
    have g := spec_go m s r a wr (by clear ac f1 f2 f3; omega) h3 h4 h5 h6 h7 h8 s.toNat (k + 1) [] (by clear ac f1 f2 f3; omega) (by clear ac f1 f2 f3; simp; omega) (by clear ac f1 f2 f3; omega)
    rw [hns, Int.add_zero, Int.emod_eq_of_lt h7 h8] at g
    exact g
  generalize ((Go.bits .and .i64 (word m (r + 16 * a + 8)) 128 != 0) != wr) = A
  generalize ((Go.bits .and .i64 (word m (r + 16 * a + 8)) 32768 != 0) == wr) = B
  cases A
  · rw [if_neg (by decide)]
    cases B
    · rw [go1]; rfl
    · rw [tr]; rfl
  · rw [if_pos rfl, tr]; rfl

theorem impl_go (m : ByteArray) (s r a : Int) (wr : Bool) (hm : m.size ≤ 65536) (hs : 1 ≤ s) (hs1 : s ≤ 16) (hr : 0 ≤ r) (hr1 : r + 16 * s ≤ m.size) (ha : 0 ≤ a) (ha1 : a < s) :
    ∀ (n k : Nat) (bs : List S75), (n : Int) ≤ s → bs.length + n ≤ 16 → n + 20 ≤ k →
      impl_ytakePacked.l0 k m ((a + (s - (n : Int))) % s) s r a wr (word m (r + 16 * ((a + (s - (n : Int))) % s))) (word m (r + 16 * ((a + (s - (n : Int))) % s) + 4)) (word m (r + 16 * ((a + (s - (n : Int))) % s) + 8)) (word m (r + 16 * ((a + (s - (n : Int))) % s) + 12)) 0 0 (s - (n : Int)) bs = some (takeGo m s r a n bs) := by
  intro n
  induction n with
  | zero =>
    intro k bs hn hb hk
    obtain ⟨k, rfl⟩ : ∃ q, k = q + 1 := ⟨k - 1, by omega⟩
    have e : wrap64 (s - ((0 : Nat) : Int) + 1) = s + 1 := by rw [wrap_id (by omega) (by omega)]; omega
    rw [impl_ytakePacked.l0, e, if_pos (by clear e; omega), takeGo]
  | succ n ih =>
    intro k bs hn hb hk
    obtain ⟨k, rfl⟩ : ∃ q, k = q + 1 := ⟨k - 1, by omega⟩
    obtain ⟨p0, p1⟩ := at_range a (s - ((n + 1 : Nat) : Int)) s (by omega)
    obtain ⟨p2, p3⟩ := at_range a (s - (n : Int)) s (by omega)
    have hnext : ((a + (s - ((n + 1 : Nat) : Int))) % s + 1) % s = (a + (s - (n : Int))) % s := by
      have z : a + (s - (n : Int)) = (a + (s - ((n + 1 : Nat) : Int))) + 1 := by omega
      rw [z, Int.emod_add_emod]
    have e : wrap64 (s - ((n + 1 : Nat) : Int) + 1) = s - (n : Int) := by rw [wrap_id (by omega) (by omega)]; omega
    rw [impl_ytakePacked.l0, e, if_neg (by clear e; omega), takeGo]
    dsimp only
    generalize hq : (a + (s - ((n + 1 : Nat) : Int))) % s = q at p0 p1 hnext
    have r12 := word_range m (r + 16 * q + 12)
    have em : Go.bits .and .i64 (word m (r + 16 * q + 12)) 65535 = word m (r + 16 * q + 12) % 65536 := and_mask 16 (by decide) _ r12.1 (by clear e; omega)
    have ia := impl_add m bs (word m (r + 16 * q)) (word m (r + 16 * q + 4)) (word m (r + 16 * q + 8)) (word m (r + 16 * q + 12)) (by clear e; omega)
    simp only [impl_has, ia, Option.bind_some, em]
    cases h4 : (Go.bits .and .i64 (word m (r + 16 * q + 8)) 4 != 0)
    · simp only [Bool.false_eq_true, if_false]
      generalize bufCode m bs (word m (r + 16 * q)) (word m (r + 16 * q + 4)) (Go.bits .and .i64 (word m (r + 16 * q + 8)) 2 != 0) = code
      by_cases hcd : code = 0
      · simp only [if_pos hcd, if_true]
        cases h1 : (Go.bits .and .i64 (word m (r + 16 * q + 8)) 1 != 0)
        · simp only [Bool.false_eq_true, if_false]
        · simp only [if_true]
          have ih' := ih k (bs ++ [(⟨word m (r + 16 * q), word m (r + 16 * q + 4), Go.bits .and .i64 (word m (r + 16 * q + 8)) 2 != 0⟩ : S75)]) (by clear e; omega) (by clear e; simp; omega) (by clear e; omega)
          generalize hp : (a + (s - (n : Int))) % s = p at ih' p2 p3 hnext
          have q1 : wrap64 (q + 1) = q + 1 := wrap_id (by clear e; omega) (by clear e; omega)
          have qm : Int.tmod (q + 1) s = p := by rw [Int.tmod_eq_emod_of_nonneg (by clear e q1; omega)]; exact hnext
          have f1 : wrap64 (16 * p) = 16 * p := wrap_id (by clear e q1; omega) (by clear e q1; omega)
          have f2 : wrap64 (r + 16 * p) = r + 16 * p := wrap_id (by clear e q1 f1; omega) (by clear e q1 f1; omega)
          have rd := impl_readDesc k (by clear e q1 f1 f2; omega) m (r + 16 * p) (by clear e q1 f1 f2; omega) (by clear e q1 f1 f2; omega) (by clear e q1 f1 f2; omega)
          rw [if_neg (by clear e q1 f1 f2; omega), q1, qm, f1, f2, rd]
          simp only [Option.bind_some]
          exact ih'
      · simp only [if_neg hcd]
    · simp only [if_true]

theorem impl_take (k : Nat) (hk : 100 ≤ k) (m : ByteArray) (s r a : Int) (wr : Bool) (hsw : (Lit.int .i64 s).wf = true) : impl_TakePacked.f k m s r a wr = some (takeRes m s r a wr) := by
  obtain ⟨k, rfl⟩ : ∃ q, k = q + 2 := ⟨k - 2, by omega⟩
  unfold impl_TakePacked.f impl_ymemPacked.f takeRes
  rw [impl_big1 _ (by omega), impl_packed m s r a wr hsw]
  simp only [Option.bind_some]
  by_cases hm : (m.size : Int) > 65536
  · simp [hm]
  rw [if_neg (by simpa using hm), if_neg hm]
  simp only [Option.bind_some]
  cases hp : packedOk m s r a
  · simp
  obtain ⟨h1, h2, h3, h4, h5, h6, h7, h8⟩ := packed_true hp
  simp only [if_true]
  unfold impl_ytakePacked.f
  have hns : s - (s.toNat : Int) = 0 := by omega
  have go := impl_go m s r a wr (by omega) h3 h4 h5 h6 h7 h8 s.toNat (k + 1) [] (by omega) (by simp; omega) (by omega)
  rw [hns, Int.add_zero, Int.emod_eq_of_lt h7 h8] at go
  have rd := impl_readDesc (k + 2) (by omega) m (r + 16 * a) (by omega) (by omega) (by omega)
  have f1 : wrap64 (16 * a) = 16 * a := wrap_id (by omega) (by omega)
  have f2 : wrap64 (r + 16 * a) = r + 16 * a := wrap_id (by clear f1; omega) (by clear f1; omega)
  rw [f1, f2, rd]
  simp only [Option.bind_some, impl_has]
  unfold noneB
  generalize ((Go.bits .and .i64 (word m (r + 16 * a + 8)) 128 != 0) != wr) = A
  generalize ((Go.bits .and .i64 (word m (r + 16 * a + 8)) 32768 != 0) == wr) = B
  have tr : ∀ b : Bool, impl_ytakePacked.j0 (k + 2) m a b s r a wr (word m (r + 16 * a)) (word m (r + 16 * a + 4)) (word m (r + 16 * a + 8)) (word m (r + 16 * a + 12)) = some (if b = true then (5, 0, 0, ([] : List S75)) else takeGo m s r a s.toNat []) := by
    intro b
    rw [impl_ytakePacked.j0]
    cases b
    · rw [if_neg (by decide), go]; rfl
    · rfl
  simp only [tr]
  cases A <;> cases B <;> rfl

theorem takeRes_len (m : ByteArray) (s r a : Int) (wr : Bool) : (takeRes m s r a wr).2.2.2.length ≤ 16 := by
  unfold takeRes
  split
  · simp
  split
  · rename_i h
    obtain ⟨h1, h2, h3, h4, h5, h6, h7, h8⟩ := packed_true h
    split
    · simp
    · exact takeGo_len m s r a s.toNat [] (by simp; omega)
  · simp

theorem FnExactTakePacked : laws_FnExactTakePacked.Pure := by
  intro m s r a wr hm hs hr ha
  refine ⟨200, ?_⟩
  unfold laws_FnExactTakePacked.f laws_toPacked.f
  by_cases hz : (m.size : Int) > 1048576
  · rw [if_pos hz]
  rw [if_neg hz]
  have hl := takeRes_len m s r a wr
  simp only [Option.bind_some, spec_take 200 (by omega), impl_take 200 (by omega) m s r a wr hs]
  generalize takeRes m s r a wr = R at hl
  obtain ⟨c, i, n, l⟩ := R
  simp only at hl
  have he : laws_eqTakenPacked.f 200 c i n l c i n l = some true := by
    unfold laws_eqTakenPacked.f
    rw [if_pos rfl, if_pos rfl, if_pos rfl, eqBufs 200 l (by omega) (by omega)]; rfl
  obtain ⟨ys, m1, m2, m3⟩ := markBufs 200 200 l (by omega) (by omega) (by omega)
  simp only [he, Option.bind_some, if_true]
  unfold laws_markTakenPacked.f laws_heldTakenPacked.f
  simp only [m1, m3, Option.bind_some]
  rw [if_neg (show ¬ (1 + 3 * (l.length : Int) < 0) by omega)]
  simp only [Option.bind_some]
  rw [if_neg (show ¬ (1 + 3 * (l.length : Int) < 0) by omega)]
  simp
  omega

end Go.Proofs.Ythcmgjbkmnpibaa.PureFnExactTakePacked
namespace Go.Proofs.Ythcmgjbkmnpibaa.Pure
theorem FnExactTakePacked : Go.Proofs.Ythcmgjbkmnpibaa.PFnExactTakePacked.laws_FnExactTakePacked.Pure := Go.Proofs.Ythcmgjbkmnpibaa.PureFnExactTakePacked.FnExactTakePacked
end Go.Proofs.Ythcmgjbkmnpibaa.Pure
