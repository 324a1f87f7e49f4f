/- The plain statement of the law FnChains. -/
import Derived.Test.YtcdgonemmbhkkaaAbStFnChains
import Derived.Laws.BitsLemmas
namespace Go.Ab.FnChains.Pure
open Go.RowKit Go.Ab
set_option linter.unusedVariables false
set_option linter.unusedSimpArgs false
theorem wrap_id {x : Int} (h0 : -9223372036854775808 ≤ x) (h1 : x ≤ 9223372036854775807) : wrap64 x = x := by rw [w64_eq]; unfold RowKit.wrap64; omega
theorem K0_ge {n : Nat} (h : n ≤ 18446744073709551616) : ∃ k, K0 = k + n := ⟨K0 - n, by rw [K0_eq]; omega⟩
theorem roomy_ok {n b : Int} (h : n * b ≤ 140737488355328) : roomy n b = true := by unfold roomy; rw [M0_eq]; simpa using h
theorem rd_nat (t : Ty) (l : List t.val) (i : Nat) : rd t l (i : Int) = l.getD i t.dflt := by unfold rd; rw [Int.toNat_natCast]
theorem rd_at (t : Ty) (l : List t.val) (i : Nat) (h : i < List.length l) : rd t l (i : Int) = l[i]'h := by rw [rd_nat]; simp [h]
theorem decp {p : Prop} [Decidable p] (h : p) : decide p = true := decide_eq_true h
theorem decn {p : Prop} [Decidable p] (h : ¬ p) : decide p = false := decide_eq_false h
theorem bt_range (m : ByteArray) (a : Int) : 0 ≤ bt m a ∧ bt m a ≤ 255 := by
  unfold bt
  have := (m.data.getD a.toNat 0).toNat_lt
  omega
theorem shl_eq {x s : Int} (n : Nat) (hs : s = (n : Int)) (h : n ≤ 64) (h0 : 0 ≤ x * 2 ^ n) (h1 : x * 2 ^ n ≤ 9223372036854775807) : shl .i64 x s = x * 2 ^ n := by
  subst hs
  unfold shl
  rw [Int.toNat_natCast, show min n IntKind.i64.bits = n from Nat.min_eq_left h, IntKind.wrap_i64]
  omega
theorem wrap_succ (i n : Nat) (h : i < n) (hn : n ≤ 140737488351232) : wrap64 ((i : Int) + 1) = ((i + 1 : Nat) : Int) := by
  rw [w64_eq]; unfold RowKit.wrap64; omega
/-- Memory as both want it: whole pages, at least one. -/
noncomputable def memOk (m : ByteArray) : Bool := decide (256 ≤ (m.size : Int) ∧ (m.size : Int) ≤ 65536 ∧ (m.size : Int) % 256 = 0)
theorem impl_memOk (m : ByteArray) : impl_ymemOk m = some (memOk m, ()) := by
  unfold impl_ymemOk memOk
  have e : Int.tmod (m.size : Int) 256 = (m.size : Int) % 256 := Int.tmod_eq_emod_of_nonneg (by omega)
  rw [e]
  simp
  rw [Bool.eq_iff_iff]
  simp
  omega
theorem spec_memOk (m : ByteArray) : spec_MemFault m = some (if memOk m = true then 0 else 1, ()) := by
  unfold spec_MemFault memOk
  have e : Int.tmod (m.size : Int) 256 = (m.size : Int) % 256 := Int.tmod_eq_emod_of_nonneg (by omega)
  rw [e]
  simp
  grind
/-- A place in so many bytes. -/
noncomputable def inB (n a b : Int) : Bool := decide (0 ≤ a ∧ 0 ≤ b ∧ a ≤ n ∧ b ≤ wrap64 (n - a))
theorem spec_in (m : ByteArray) (a b : Int) : spec_l10In m a b = some (inB m.size a b, ()) := by
  unfold spec_l10In inB
  dsimp only
  congr 2
  rw [Bool.eq_iff_iff]
  simp
  omega
theorem impl_in (n a b : Int) : impl_yfits n a b = some (inB n a b, ()) := by
  unfold impl_yfits inB
  dsimp only
  congr 2
  rw [Bool.eq_iff_iff]
  simp
  omega
theorem inB_true {n a b : Int} (h0 : 0 ≤ n) (hn : n ≤ 140737488351232) (h : inB n a b = true) : 0 ≤ a ∧ 0 ≤ b ∧ a + b ≤ n := by
  unfold inB at h
  simp only [decide_eq_true_eq] at h
  obtain ⟨h1, h2, h3, h4⟩ := h
  have e : wrap64 (n - a) = n - a := by rw [w64_eq]; unfold RowKit.wrap64; omega
  rw [e] at h4
  omega
theorem inB_le {n a b : Int} (h : inB n a b = true) : 0 ≤ a ∧ 0 ≤ b := by
  unfold inB at h; simp only [decide_eq_true_eq] at h; exact ⟨h.1, h.2.1⟩
theorem yin_eq (a b c : Int) : impl_yin a b c = some (decide (b ≤ a ∧ a ≤ c), ()) := by
  unfold impl_yin
  dsimp only
  congr 2
  rw [Bool.eq_iff_iff]
  simp
theorem mod_eq (a b : Int) (hb : 0 < b) : (if a.tmod b < 0 then a.tmod b + b else a.tmod b) = a % b := by
  have h1 := Int.emod_nonneg a (show b ≠ 0 by omega)
  have h2 := Int.emod_lt_of_pos a hb
  rw [Int.tmod_eq_emod]
  by_cases h : 0 ≤ a ∨ b ∣ a
  · rw [if_pos h]; simp; omega
  · rw [if_neg h, if_pos (by omega)]; omega
theorem mod_cond (a b : Int) (hb : 0 < b) (hb2 : b ≤ 4611686018427387904) : (bif decide (a.tmod b < 0) then wrap64 (a.tmod b + b) else a.tmod b) = a % b := by
  rw [← mod_eq a b hb]
  have h1 := Int.emod_nonneg a (show b ≠ 0 by omega)
  have h2 := Int.emod_lt_of_pos a hb
  by_cases h : a.tmod b < 0
  · have h3 : -b < a.tmod b := by
      rw [Int.tmod_eq_emod]; split <;> omega
    rw [decp h, if_pos h]
    exact wrap_id (by omega) (by omega)
  · rw [decn h, if_neg h]; rfl
theorem spec_mod (a b : Int) (hb : 0 < b) (hb2 : b ≤ 4611686018427387904) : spec_l01Mod a b = some (a % b, ()) := by
  unfold spec_l01Mod
  dsimp only
  rw [mod_cond a b hb hb2, show (b == 0) = false from beq_false_of_ne (by omega)]
  rfl
theorem impl_mod (a b : Int) (hb : 0 < b) (hb2 : b ≤ 4611686018427387904) : impl_ymod a b = some (a % b, ()) := by
  unfold impl_ymod
  dsimp only
  rw [mod_cond a b hb hb2, show (b == 0) = false from beq_false_of_ne (by omega)]
  rfl
theorem bits_eq (op : BinOp) (k : IntKind) (x y : Int) : Go.Ab.bits op k x y = Go.bits op k x y := by cases op <;> rfl
theorem wraps_i64 (n : Int) (h0 : 0 ≤ n) (h1 : n < 2 ^ 63) : IntKind.i64.wrap n = n := by rw [IntKind.wrap_i64]; omega
theorem or_comm_i64 (x y : Int) : Go.bits .or .i64 x y = Go.bits .or .i64 y x := by
  unfold Go.bits
  simp only [BitVec.or_comm]
theorem or_low (i : Nat) (x y : Int) (hx0 : 0 ≤ x) (hx : x < 2 ^ i) (hy0 : 0 ≤ y) (hy : y % 2 ^ i = 0) (hy1 : y < 2 ^ 63) (hx1 : x < 2 ^ 63) : Go.Ab.bits .or .i64 x y = x + y := by
  rw [bits_eq, or_comm_i64, Int.add_comm]
  exact bits_join .i64 63 (by decide) wraps_i64 i y x hy0 hy hy1 hx0 hx hx1
theorem and_mask (i : Nat) (hi : i ≤ 63) (x : Int) (h0 : 0 ≤ x) (h1 : x < 2 ^ 63) : Go.Ab.bits .and .i64 x (2 ^ i - 1) = x % 2 ^ i := by
  rw [bits_eq]
  exact bits_mask .i64 63 (by decide) wraps_i64 i hi x h0 h1
/-- Four bytes as a number. -/
noncomputable def word (m : ByteArray) (a : Int) : Int := bt m a + bt m (a + 1) * 256 + bt m (a + 2) * 65536 + bt m (a + 3) * 16777216
theorem word_range (m : ByteArray) (a : Int) : 0 ≤ word m a ∧ word m a < 4294967296 := by
  have h0 := bt_range m a; have h1 := bt_range m (a + 1); have h2 := bt_range m (a + 2); have h3 := bt_range m (a + 3)
  unfold word; omega
theorem spec_word (m : ByteArray) (a : Int) (hm : m.size ≤ 140737488351232) (h0 : 0 ≤ a) (h1 : a + 4 ≤ m.size) : spec_l01Word m a = some (word m a, ()) := by
  have b0 := bt_range m a; have b1 := bt_range m (a + 1); have b2 := bt_range m (a + 2); have b3 := bt_range m (a + 3)
  have e1 : wrap64 (a + 1) = a + 1 := wrap_id (by omega) (by omega)
  have e2 : wrap64 (a + 2) = a + 2 := wrap_id (by omega) (by omega)
  have e3 : wrap64 (a + 3) = a + 3 := wrap_id (by omega) (by omega)
  unfold spec_l01Word word
  simp only [e1, e2, e3]
  rw [decp h0, decp (show a < (m.size : Int) by omega), decp (show 0 ≤ a + 1 by omega), decp (show a + 1 < (m.size : Int) by omega), decp (show 0 ≤ a + 2 by omega), decp (show a + 2 < (m.size : Int) by omega), decp (show 0 ≤ a + 3 by omega), decp (show a + 3 < (m.size : Int) by omega)]
  clear e1 e2 e3
  rw [wrap_id (x := bt m a) (by omega) (by omega), wrap_id (x := bt m (a + 1)) (by omega) (by omega), wrap_id (x := bt m (a + 2)) (by omega) (by omega), wrap_id (x := bt m (a + 3)) (by omega) (by omega)]
  rw [shl_eq (x := bt m (a + 1)) 8 (by rfl) (by decide) (by omega) (by omega), shl_eq (x := bt m (a + 2)) 16 (by rfl) (by decide) (by omega) (by omega), shl_eq (x := bt m (a + 3)) 24 (by rfl) (by decide) (by omega) (by omega)]
  rw [wrap_id (x := bt m a + bt m (a + 1) * 2 ^ 8) (by omega) (by omega), wrap_id (x := bt m a + bt m (a + 1) * 2 ^ 8 + bt m (a + 2) * 2 ^ 16) (by omega) (by omega), wrap_id (by omega) (by omega)]
  rfl
theorem impl_word (m : ByteArray) (a : Int) (hm : m.size ≤ 140737488351232) (h0 : 0 ≤ a) (h1 : a + 4 ≤ m.size) : impl_ywordAt m a = some (word m a, ()) := by
  have b0 := bt_range m a; have b1 := bt_range m (a + 1); have b2 := bt_range m (a + 2); have b3 := bt_range m (a + 3)
  have e1 : wrap64 (a + 1) = a + 1 := wrap_id (by omega) (by omega)
  have e2 : wrap64 (a + 2) = a + 2 := wrap_id (by omega) (by omega)
  have e3 : wrap64 (a + 3) = a + 3 := wrap_id (by omega) (by omega)
  unfold impl_ywordAt word
  simp only [e1, e2, e3]
  rw [decp h0, decp (show a < (m.size : Int) by omega), decp (show 0 ≤ a + 1 by omega), decp (show a + 1 < (m.size : Int) by omega), decp (show 0 ≤ a + 2 by omega), decp (show a + 2 < (m.size : Int) by omega), decp (show 0 ≤ a + 3 by omega), decp (show a + 3 < (m.size : Int) by omega)]
  clear e1 e2 e3
  rw [wrap_id (x := bt m a) (by omega) (by omega), wrap_id (x := bt m (a + 1)) (by omega) (by omega), wrap_id (x := bt m (a + 2)) (by omega) (by omega), wrap_id (x := bt m (a + 3)) (by omega) (by omega)]
  rw [shl_eq (x := bt m (a + 1)) 8 (by rfl) (by decide) (by omega) (by omega), shl_eq (x := bt m (a + 2)) 16 (by rfl) (by decide) (by omega) (by omega), shl_eq (x := bt m (a + 3)) 24 (by rfl) (by decide) (by omega) (by omega)]
  rw [or_low 8 (bt m a) (bt m (a + 1) * 2 ^ 8) (by omega) (by omega) (by omega) (by omega) (by omega) (by omega)]
  rw [or_low 16 (bt m a + bt m (a + 1) * 2 ^ 8) (bt m (a + 2) * 2 ^ 16) (by omega) (by omega) (by omega) (by omega) (by omega) (by omega)]
  rw [or_low 24 _ (bt m (a + 3) * 2 ^ 24) (by omega) (by omega) (by omega) (by omega) (by omega) (by omega)]
  rfl
theorem impl_big1 (m : ByteArray) : impl_ybig [m] = some (decide ((m.size : Int) > 65536), ()) := by
  obtain ⟨k, hk⟩ := K0_ge (n := 2) (by decide)
  unfold impl_ybig
  rw [hk]
  simp only [impl_ybig_l2, impl_ybig_l2_step, rd, w64_eq, RowKit.wrap64]
  by_cases h : (m.size : Int) > 65536 <;> simp (config := {decide := true}) [h]
noncomputable def placeOk (n a b : Int) : Bool := (Int.tmod a 4 == 0) && inB n a b
theorem impl_place (m : ByteArray) (a b : Int) : impl_yplace m a b = some (placeOk m.size a b, ()) := by
  unfold impl_yplace placeOk
  simp only [impl_in]
  simp
/-- How many a queue may hold. -/
noncomputable def sizeOk (s : Int) : Bool := s == 1 || s == 2 || s == 4 || s == 8 || s == 16
theorem spec_sizes (s : Int) : spec_l01InInts [1, 2, 4, 8, 16] s = some (sizeOk s, ()) := by
  obtain ⟨k, hk⟩ := K0_ge (n := 6) (by decide)
  unfold spec_l01InInts sizeOk
  rw [hk]
  simp only [spec_l01InInts_l2, spec_l01InInts_l2_step, rd, w64_eq, RowKit.wrap64]
  simp (config := {decide := true})
  grind
theorem impl_sizes (s : Int) : slices_Contains_int64 [1, 2, 4, 8, 16] s = some (sizeOk s, ()) := by
  obtain ⟨k, hk⟩ := K0_ge (n := 6) (by decide)
  unfold slices_Contains_int64 slices_Index_int64 sizeOk
  rw [hk]
  simp only [slices_Index_int64_l2, slices_Index_int64_l2_step, rd, w64_eq, RowKit.wrap64]
  simp (config := {decide := true})
  grind
theorem sizeOk_le {s : Int} (h : sizeOk s = true) : 1 ≤ s ∧ s ≤ 16 := by
  unfold sizeOk at h
  simp at h
  omega
/-- What a queue is. -/
noncomputable def queueOk (m : ByteArray) (s d a u t g : Int) : Bool :=
  memOk m && sizeOk s && placeOk m.size d (wrap64 (16 * s)) && placeOk m.size a (wrap64 (8 + wrap64 (4 * s))) && placeOk m.size u (wrap64 (8 + wrap64 (8 * s))) && decide (0 ≤ t ∧ t ≤ 65535) && decide (0 ≤ g ∧ g ≤ 65535)
theorem spec_queue (m : ByteArray) (s d a u t g : Int) : spec_QueueFault m s d a u t g = some (if queueOk m s d a u t g = true then 0 else 1, ()) := by
  unfold spec_QueueFault queueOk placeOk
  simp only [spec_memOk, spec_sizes, spec_in, Option.bind_some]
  simp
  grind
theorem impl_queue (m : ByteArray) (s d a u t g : Int) : impl_QueueFault m s d a u t g = some (if queueOk m s d a u t g = true then 0 else 1, ()) := by
  unfold impl_QueueFault queueOk
  simp only [impl_memOk, impl_sizes, impl_place, yin_eq, Option.bind_some]
  simp
  grind
theorem queue_true {m : ByteArray} {s d a u t g : Int} (h : queueOk m s d a u t g = true) :
    256 ≤ m.size ∧ m.size ≤ 65536 ∧ 1 ≤ s ∧ s ≤ 16 ∧ 0 ≤ d ∧ d + 16 * s ≤ m.size ∧ 0 ≤ a ∧ a + (8 + 4 * s) ≤ m.size ∧ 0 ≤ u ∧ u + (8 + 8 * s) ≤ m.size ∧ 0 ≤ t ∧ t ≤ 65535 ∧ 0 ≤ g ∧ g ≤ 65535 := by
  unfold queueOk placeOk memOk at h
  simp only [Bool.and_eq_true, decide_eq_true_eq] at h
  obtain ⟨⟨⟨⟨⟨⟨⟨h1, h2, _⟩, h3⟩, _, h4⟩, _, h5⟩, _, h6⟩, h7⟩, h8⟩ := h
  have hs := sizeOk_le h3
  rw [wrap_id (x := 16 * s) (by omega) (by omega)] at h4
  rw [wrap_id (x := 4 * s) (by omega) (by omega), wrap_id (by omega) (by omega)] at h5
  rw [wrap_id (x := 8 * s) (by omega) (by omega), wrap_id (by omega) (by omega)] at h6
  have a4 := inB_true (by omega) (by omega) h4
  have a5 := inB_true (by omega) (by omega) h5
  have a6 := inB_true (by omega) (by omega) h6
  omega
/-- A number's four bytes. -/
noncomputable def wb (n : Int) : ByteArray := b2s [IntKind.u8.wrap (n % 4294967296), IntKind.u8.wrap (shr .i64 (n % 4294967296) 8), IntKind.u8.wrap (shr .i64 (n % 4294967296) 16), IntKind.u8.wrap (shr .i64 (n % 4294967296) 24)]
theorem wb_size (n : Int) : (wb n).size = 4 := rfl
theorem u32_mod (n : Int) : IntKind.u32.wrap n = n % 4294967296 := by
  unfold IntKind.wrap
  simp [IntKind.signed, IntKind.bits]
theorem impl_putWord (n : Int) : impl_PutWord n = some (wb n, ()) := by
  unfold impl_PutWord wb
  rw [u32_mod]
  rfl
theorem spec_putWord (n : Int) : spec_PutWord n = some (wb n, ()) := by
  unfold spec_PutWord spec_Word wb
  rw [spec_mod _ _ (by decide) (by decide)]
  rfl
theorem joins_ok {x y : ByteArray} (h : x.size + y.size ≤ 9223372036854775807) : joins x y = true := by
  unfold joins; rw [S0_eq]; simp; omega
/-- A number put into memory. -/
noncomputable def put (m : ByteArray) (a n : Int) : ByteArray := m.extract 0 a.toNat ++ wb n ++ m.extract (a + 4).toNat m.size
theorem put_size (m : ByteArray) (a n : Int) (h0 : 0 ≤ a) (h1 : a + 4 ≤ m.size) : (put m a n).size = m.size := by
  unfold put
  simp only [ByteArray.size_append, ByteArray.size_extract, wb_size]
  omega
theorem impl_splice4 (m : ByteArray) (a n : Int) (hm : m.size ≤ 65536) (h0 : 0 ≤ a) (h1 : a + 4 ≤ m.size) : impl_ysplice m a (wb n) = some (put m a n, ()) := by
  unfold impl_ysplice put
  have e : wrap64 (a + ((wb n).size : Int)) = a + 4 := by rw [wb_size]; exact wrap_id (by omega) (by omega)
  simp only [e]
  rw [decp h0, decp (show a ≤ (m.size : Int) by omega), decp (show 0 ≤ a + 4 by omega), decp (show a + 4 ≤ (m.size : Int) by omega), joins_ok (by simp only [ByteArray.size_extract, wb_size]; omega), joins_ok (by simp only [ByteArray.size_append, ByteArray.size_extract, wb_size]; omega)]
  rfl
theorem spec_setWord (m : ByteArray) (a n : Int) (hm : m.size ≤ 65536) (h0 : 0 ≤ a) (h1 : a + 4 ≤ m.size) : spec_SetWord m a n = some (put m a n, ()) := by
  unfold spec_SetWord spec_GetWord put
  have e : wrap64 ((m.size : Int) - 4) = m.size - 4 := wrap_id (by omega) (by omega)
  have e4 : wrap64 (a + 4) = a + 4 := wrap_id (by clear e; omega) (by clear e; omega)
  simp only [e, e4]
  clear e e4
  rw [decn (show ¬ (m.size : Int) > 65536 by omega), decn (show ¬ a < 0 by omega), decn (show ¬ a > (m.size : Int) - 4 by omega), spec_word m a (by omega) h0 h1]
  simp only [Bool.or_false, cond_false, Option.bind_some, Bool.not_true, spec_putWord]
  rw [decp h0, decp (show a ≤ (m.size : Int) by omega), decp (show 0 ≤ a + 4 by omega), decp (show a + 4 ≤ (m.size : Int) by omega), joins_ok (by simp only [ByteArray.size_extract, wb_size]; omega), joins_ok (by simp only [ByteArray.size_append, ByteArray.size_extract, wb_size]; omega)]
  rfl
theorem impl_yset1 (m : ByteArray) (a n : Int) (hm : m.size ≤ 65536) (h0 : 0 ≤ a) (h1 : a + 4 ≤ m.size) : impl_yset m a [n] = some (put m a n, ()) := by
  obtain ⟨k, hk⟩ := K0_ge (n := 2) (by decide)
  have w0 : wrap64 (a + wrap64 ((4 : Int) * 0)) = a := by rw [wrap_id (x := (4 : Int) * 0) (by decide) (by decide), wrap_id (by omega) (by omega)]; omega
  have v0 : wrap64 (0 + 1) = 1 := wrap_id (by decide) (by decide)
  unfold impl_yset
  rw [hk]
  simp only [impl_yset_l2, impl_yset_l2_step, w0, v0, impl_putWord, Option.bind_some, impl_splice4 m a _ hm h0 h1, show rd (.int .i64) [n] 0 = n from rfl]
  simp (config := {decide := true})
theorem impl_yset2 (m : ByteArray) (a x y : Int) (hm : m.size ≤ 65536) (h0 : 0 ≤ a) (h1 : a + 8 ≤ m.size) : impl_yset m a [x, y] = some (put (put m a x) (a + 4) y, ()) := by
  obtain ⟨k, hk⟩ := K0_ge (n := 3) (by decide)
  have w0 : wrap64 (a + wrap64 ((4 : Int) * 0)) = a := by rw [wrap_id (x := (4 : Int) * 0) (by decide) (by decide), wrap_id (by omega) (by omega)]; omega
  have w1 : wrap64 (a + wrap64 ((4 : Int) * 1)) = a + 4 := by clear w0; rw [wrap_id (x := (4 : Int) * 1) (by decide) (by decide), wrap_id (by omega) (by omega)]; omega
  have v0 : wrap64 (0 + 1) = 1 := wrap_id (by decide) (by decide)
  have v1 : wrap64 (1 + 1) = 2 := wrap_id (by decide) (by decide)
  have hp : (put m a x).size = m.size := put_size m a x h0 (by clear w0 w1 v0 v1; omega)
  have s1 := impl_splice4 m a x hm h0 (by clear w0 w1 v0 v1; omega)
  have s2 := impl_splice4 (put m a x) (a + 4) y (by clear w0 w1 v0 v1; omega) (by clear w0 w1 v0 v1; omega) (by clear w0 w1 v0 v1; omega)
  unfold impl_yset
  rw [hk]
  simp only [impl_yset_l2, impl_yset_l2_step, w0, w1, v0, v1, impl_putWord, Option.bind_some, s1, s2, show rd (.int .i64) [x, y] 0 = x from rfl, show rd (.int .i64) [x, y] 1 = y from rfl]
  simp (config := {decide := true})
theorem s2b_len (m : ByteArray) : (s2b m).length = m.size := by unfold s2b; simp
theorem s2b_app (a b : ByteArray) : s2b (a ++ b) = s2b a ++ s2b b := by unfold s2b; simp
theorem s2b_ext (m : ByteArray) (i j : Nat) : s2b (m.extract i j) = ((s2b m).drop i).take (j - i) := by
  unfold s2b
  simp [List.map_take, List.map_drop]
theorem b2s_s2b (m : ByteArray) : b2s (s2b m) = m := by
  unfold b2s s2b
  have : (fun n : Int => UInt8.ofNat n.toNat) ∘ (fun b : UInt8 => (b.toNat : Int)) = id := by funext b; simp
  rw [List.map_map, this, List.map_id]
theorem s2b_inj {a b : ByteArray} (h : s2b a = s2b b) : a = b := by rw [← b2s_s2b a, h, b2s_s2b]
theorem bt_s2b (m : ByteArray) (i : Int) : bt m i = (s2b m).getD i.toNat 0 := by
  unfold bt s2b
  rw [Array.getD_eq_getD_getElem?, List.getD_eq_getElem?_getD, List.getElem?_map, Array.getElem?_toList]
  cases m.data[i.toNat]? <;> rfl
theorem s2b_put (m : ByteArray) (a n : Int) (h0 : 0 ≤ a) (h1 : a + 4 ≤ m.size) : s2b (put m a n) = (s2b m).take a.toNat ++ s2b (wb n) ++ (s2b m).drop (a.toNat + 4) := by
  unfold put
  rw [s2b_app, s2b_app, s2b_ext, s2b_ext, List.drop_zero, Nat.sub_zero, show (a + 4).toNat = a.toNat + 4 by omega]
  rw [List.take_of_length_le (l := (s2b m).drop (a.toNat + 4)) (by rw [List.length_drop, s2b_len]; omega)]
theorem wb_len (n : Int) : (s2b (wb n)).length = 4 := by rw [s2b_len]; rfl
theorem getD_three (L X : List Int) (k i : Nat) (hX : X.length = 4) (hk : k + 4 ≤ L.length) : (L.take k ++ X ++ L.drop (k + 4)).getD i 0 = if k ≤ i ∧ i < k + 4 then X.getD (i - k) 0 else L.getD i 0 := by
  have ht : (L.take k).length = k := by rw [List.length_take]; omega
  simp only [List.getD_eq_getElem?_getD]
  by_cases c1 : i < k
  · rw [if_neg (by omega), List.append_assoc, List.getElem?_append_left (by omega), List.getElem?_take_of_lt c1]
  · by_cases c2 : i < k + 4
    · rw [if_pos ⟨by omega, c2⟩, List.append_assoc, List.getElem?_append_right (by omega), List.getElem?_append_left (by omega), ht]
    · rw [if_neg (by omega), List.getElem?_append_right (by rw [List.length_append]; omega), List.getElem?_drop, List.length_append, ht, hX, show k + 4 + (i - (k + 4)) = i by omega]
theorem bt_put (m : ByteArray) (a n b : Int) (h0 : 0 ≤ a) (h1 : a + 4 ≤ m.size) (hb : 0 ≤ b) : bt (put m a n) b = if a ≤ b ∧ b < a + 4 then (s2b (wb n)).getD (b - a).toNat 0 else bt m b := by
  rw [bt_s2b, bt_s2b, s2b_put m a n h0 h1, getD_three _ _ _ _ (wb_len n) (by rw [s2b_len]; omega)]
  by_cases c : a ≤ b ∧ b < a + 4
  · rw [if_pos c, if_pos (by omega), show b.toNat - a.toNat = (b - a).toNat by omega]
  · rw [if_neg c, if_neg (by omega)]
theorem word_other (m : ByteArray) (a n b : Int) (h0 : 0 ≤ a) (h1 : a + 4 ≤ m.size) (hb : 0 ≤ b) (h : b + 4 ≤ a ∨ a + 4 ≤ b) : word (put m a n) b = word m b := by
  unfold word
  rw [bt_put m a n b h0 h1 hb, bt_put m a n (b + 1) h0 h1 (by omega), bt_put m a n (b + 2) h0 h1 (by omega), bt_put m a n (b + 3) h0 h1 (by omega)]
  rw [if_neg (by omega), if_neg (by omega), if_neg (by omega), if_neg (by omega)]
theorem word_put (m : ByteArray) (a n : Int) (h0 : 0 ≤ a) (h1 : a + 4 ≤ m.size) : word (put m a n) a = (s2b (wb n)).getD 0 0 + (s2b (wb n)).getD 1 0 * 256 + (s2b (wb n)).getD 2 0 * 65536 + (s2b (wb n)).getD 3 0 * 16777216 := by
  unfold word
  rw [bt_put m a n a h0 h1 h0, bt_put m a n (a + 1) h0 h1 (by omega), bt_put m a n (a + 2) h0 h1 (by omega), bt_put m a n (a + 3) h0 h1 (by omega)]
  rw [if_pos (by omega), if_pos (by omega), if_pos (by omega), if_pos (by omega)]
  rw [show (a - a).toNat = 0 by omega, show (a + 1 - a).toNat = 1 by omega, show (a + 2 - a).toNat = 2 by omega, show (a + 3 - a).toNat = 3 by omega]
abbrev Buf := Int × Int × Bool
/-- Is the last one to be written? -/
noncomputable def lastW (bs : List Buf) : Bool := decide (0 < bs.length) && (bs.getD (bs.length - 1) (0, 0, false)).2.2
/-- What putting a buffer behind others answers. -/
noncomputable def bufCode (m : ByteArray) (bs : List Buf) (x y : Int) (wr : Bool) : Int := if inB m.size x y = true then (if (lastW bs && !wr) = true then 6 else 0) else 2
theorem last_at (bs : List Buf) (hb : bs.length ≤ 1048576) (h0 : 0 < bs.length) : wrap64 ((bs.length : Int) - 1) = ((bs.length - 1 : Nat) : Int) := by
  rw [wrap_id (by omega) (by omega)]; omega
theorem lastW_eq (bs : List Buf) (hb : bs.length ≤ 1048576) : (decide ((bs.length : Int) > 0) && (rd R1 bs (wrap64 ((bs.length : Int) - 1))).2.2) = lastW bs ∧ (!decide ((bs.length : Int) > 0) || (decide (0 ≤ wrap64 ((bs.length : Int) - 1)) && decide (wrap64 ((bs.length : Int) - 1) < (bs.length : Int)))) = true := by
  unfold lastW
  by_cases h0 : 0 < bs.length
  · have e := last_at bs hb h0
    rw [e, rd_nat]
    constructor
    · rw [decp (show (bs.length : Int) > 0 by clear e; omega), decp h0]
      rfl
    · rw [decp (show 0 ≤ ((bs.length - 1 : Nat) : Int) by clear e; omega), decp (show ((bs.length - 1 : Nat) : Int) < (bs.length : Int) by clear e; omega)]
      simp
  · rw [decn (show ¬ (bs.length : Int) > 0 by omega), decn h0]
    simp
theorem spec_buf (m : ByteArray) (bs : List Buf) (x y : Int) (wr : Bool) (hb : bs.length ≤ 1048576) : spec_l10Buf m bs x y wr = some (bufCode m bs x y wr, ()) := by
  unfold spec_l10Buf bufCode
  obtain ⟨e1, e2⟩ := lastW_eq bs hb
  simp only [spec_in, Option.bind_some, e1, e2]
  cases inB m.size x y <;> cases lastW bs <;> cases wr <;> rfl
/-- Has f any of x's bits? -/
noncomputable def flag (f x : Int) : Bool := Go.Ab.bits .and .i64 f x != 0
theorem flag_def (f x : Int) : (Go.Ab.bits .and .i64 f x != 0) = flag f x := rfl
theorem flag_not (f x : Int) : (Go.Ab.bits .and .i64 f x == 0) = !flag f x := by unfold flag; cases h : (Go.Ab.bits .and .i64 f x == 0) <;> simp_all [bne]
theorem impl_has (a b c d x : Int) : impl_ydesc_has a b c d x = some (flag c x, ()) := rfl
theorem impl_buf (a b c d : Int) : impl_ydesc_buf a b c d = some (a, b, flag c 2, ()) := rfl
theorem impl_add (m : ByteArray) (bs : List Buf) (a b c d : Int) (hb : bs.length ≤ 1048576) : impl_yadd_v4 m bs a b c d = some (if bufCode m bs a b (flag c 2) = 0 then (bs ++ [(a, b, flag c 2)], 0, ()) else ([], bufCode m bs a b (flag c 2), ())) := by
  unfold impl_yadd_v4 bufCode
  obtain ⟨e1, e2⟩ := lastW_eq bs hb
  simp only [impl_in, Option.bind_some, impl_has, impl_buf, e1, e2, Option.getD_some, Option.isSome_some]
  rw [roomy_ok (by simp; omega)]
  generalize flag c 2 = W
  cases inB m.size a b <;> cases lastW bs <;> cases W <;> simp
theorem impl_readDesc (m : ByteArray) (a : Int) (hm : m.size ≤ 140737488351232) (h0 : 0 ≤ a) (h1 : a + 16 ≤ m.size) : impl_yreadDesc m a = some (word m a, word m (a + 4), word m (a + 8), word m (a + 12), ()) := by
  obtain ⟨k, hk⟩ := K0_ge (n := 5) (by decide)
  have w0 : wrap64 (a + wrap64 (4 * 0)) = a := by rw [wrap_id (x := 4 * 0) (by decide) (by decide), wrap_id (by omega) (by omega)]; omega
  have w1 : wrap64 (a + wrap64 (4 * 1)) = a + 4 := by clear w0; rw [wrap_id (x := 4 * 1) (by decide) (by decide), wrap_id (by omega) (by omega)]; omega
  have w2 : wrap64 (a + wrap64 (4 * 2)) = a + 8 := by clear w0 w1; rw [wrap_id (x := 4 * 2) (by decide) (by decide), wrap_id (by omega) (by omega)]; omega
  have w3 : wrap64 (a + wrap64 (4 * 3)) = a + 12 := by clear w0 w1 w2; rw [wrap_id (x := 4 * 3) (by decide) (by decide), wrap_id (by omega) (by omega)]; omega
  have v0 : wrap64 (0 + 1) = 1 := wrap_id (by decide) (by decide)
  have v1 : wrap64 (1 + 1) = 2 := wrap_id (by decide) (by decide)
  have v2 : wrap64 (2 + 1) = 3 := wrap_id (by decide) (by decide)
  have v3 : wrap64 (3 + 1) = 4 := wrap_id (by decide) (by decide)
  have i0 := impl_word m a hm h0 (by clear w0 w1 w2 w3 v0 v1 v2 v3; omega)
  have i1 := impl_word m (a + 4) hm (by clear w0 w1 w2 w3 v0 v1 v2 v3; omega) (by clear w0 w1 w2 w3 v0 v1 v2 v3; omega)
  have i2 := impl_word m (a + 8) hm (by clear w0 w1 w2 w3 v0 v1 v2 v3; omega) (by clear w0 w1 w2 w3 v0 v1 v2 v3; omega)
  have i3 := impl_word m (a + 12) hm (by clear w0 w1 w2 w3 v0 v1 v2 v3; omega) (by clear w0 w1 w2 w3 v0 v1 v2 v3; omega)
  unfold impl_yreadDesc
  rw [hk]
  simp only [impl_yreadDesc_l3, impl_yreadDesc_l3_step, w0, w1, w2, w3, v0, v1, v2, v3, i0, i1, i2, i3, Option.bind_some]
  simp (config := {decide := true})
/-- Is a descriptor of a table of its own wrong? -/
noncomputable def badTab (x y f : Int) : Bool := flag f 1 || (Int.tmod y 16 != 0) || !decide (16 ≤ y ∧ y ≤ 256) || (Int.tmod x 4 != 0)
abbrev Chain := Int × List Buf × Unit
/-- One descriptor. -/
noncomputable def stp (m : ByteArray) (R : Int → Int → Bool → Int → Int → List Buf → Option Chain) (table size : Int) (inner : Bool) (at_ steps : Int) (bs : List Buf) : Option Chain :=
  if at_ ≥ size then some (5, [], ()) else if steps + 1 > size then some (9, [], ()) else
  let d := table + 16 * at_
  let f := word m (d + 8)
  if flag f 4 = true then
    if (inner || badTab (word m d) (word m (d + 4)) f) = true then some (3, [], ()) else
    if inB m.size (word m d) (word m (d + 4)) = true then R (word m d) (word m (d + 4) / 16) true 0 0 bs else some (2, [], ())
  else
    let code := bufCode m bs (word m d) (word m (d + 4)) (flag f 2)
    if code = 0 then (if flag f 1 = true then R table size inner (word m (d + 12)) (steps + 1) (bs ++ [(word m d, word m (d + 4), flag f 2)]) else some (0, bs ++ [(word m d, word m (d + 4), flag f 2)], ()))
    else some (code, [], ())
theorem spec_stp (rec : ByteArray → Int → Int → Bool → Int → Int → Int → Int → List Buf → Option Chain) (m : ByteArray) (table size : Int) (inner : Bool) (at_ steps z : Int) (bs : List Buf) (hm : m.size ≤ 65536)
    (ha : 0 ≤ at_) (hs : 0 ≤ steps) (hs' : steps ≤ size) (hz : size ≤ 16) (hr : 0 ≤ table) (hr1 : table + 16 * size ≤ m.size) (hb : bs.length ≤ 1000) :
    spec_ReadChain_l11_step rec m table size inner at_ steps z 0 bs = stp m (fun t s i a n l => rec m t s i a n z 0 l) table size inner at_ steps bs := by
  unfold spec_ReadChain_l11_step stp
  by_cases h : at_ ≥ size
  · rw [decp h, if_pos h, Bool.or_true]; rfl
  rw [decn h, if_neg h, decn (show ¬ at_ < 0 by omega), wrap_id (x := steps + 1) (by omega) (by omega)]
  dsimp only [Bool.or_false, cond_false]
  by_cases hst : steps + 1 > size
  · rw [decp hst, if_pos hst]; rfl
  rw [decn hst, if_neg hst]
  have f1 : wrap64 (16 * at_) = 16 * at_ := wrap_id (by omega) (by omega)
  have f2 : wrap64 (table + 16 * at_) = table + 16 * at_ := wrap_id (by clear f1; omega) (by clear f1; omega)
  rw [f1, f2]
  clear f1 f2
  have d0 : 0 ≤ table + 16 * at_ := by omega
  have d1 : table + 16 * at_ + 16 ≤ m.size := by omega
  generalize table + 16 * at_ = d at d0 d1
  have q0 := spec_word m d (by omega) d0 (by omega)
  have q4 := spec_word m (d + 4) (by omega) (by omega) (by omega)
  have q8 := spec_word m (d + 8) (by omega) (by omega) (by omega)
  have q12 := spec_word m (d + 12) (by omega) (by omega) (by omega)
  have r0 := word_range m d
  have r4 := word_range m (d + 4)
  have sb := spec_buf m bs (word m d) (word m (d + 4)) (flag (word m (d + 8)) 2) (by omega)
  have rm : roomy ((bs.length : Int) + ([(word m d, word m (d + 4), flag (word m (d + 8)) 2)].length : Int)) 24 = true := roomy_ok (by simp; omega)
  have e4 : wrap64 (d + 4) = d + 4 := wrap_id (by omega) (by omega)
  have e8 : wrap64 (d + 8) = d + 8 := wrap_id (by clear e4; omega) (by clear e4; omega)
  have e12 : wrap64 (d + 12) = d + 12 := wrap_id (by clear e4 e8; omega) (by clear e4 e8; omega)
  have et : wrap64 (Int.tdiv (word m (d + 4)) 16) = word m (d + 4) / 16 := by
    clear e4 e8 e12
    rw [Int.tdiv_eq_ediv_of_nonneg r4.1, wrap_id (by omega) (by omega)]
  rw [q0, Option.bind_some, e4, q4, Option.bind_some, e8, q8, Option.bind_some, e12, q12, Option.bind_some]
  simp only [flag_def, flag_not]
  rw [spec_in, Option.bind_some, sb, Option.bind_some, rm, et]
  clear e4 e8 e12 et q0 q4 q8 q12 sb rm
  have hy : (decide (word m (d + 4) < 16) || decide (word m (d + 4) > 256)) = !decide (16 ≤ word m (d + 4) ∧ word m (d + 4) ≤ 256) := by
    rw [Bool.eq_iff_iff]
    simp
  rw [Bool.or_assoc (((inner || flag (word m (d + 8)) 1) || (Int.tmod (word m (d + 4)) 16 != 0))), hy]
  unfold badTab
  generalize rec m (word m d) (word m (d + 4) / 16) true 0 0 z 0 bs = r1
  generalize rec m table size inner (word m (d + 12)) (steps + 1) z 0 (bs ++ [(word m d, word m (d + 4), flag (word m (d + 8)) 2)]) = r2
  generalize bs ++ [(word m d, word m (d + 4), flag (word m (d + 8)) 2)] = bs'
  generalize bufCode m bs (word m d) (word m (d + 4)) (flag (word m (d + 8)) 2) = code
  generalize decide (16 ≤ word m (d + 4) ∧ word m (d + 4) ≤ 256) = b1
  generalize (Int.tmod (word m (d + 4)) 16 != 0) = b2
  generalize (Int.tmod (word m d) 4 != 0) = b3
  generalize inB m.size (word m d) (word m (d + 4)) = b4
  generalize flag (word m (d + 8)) 1 = b5
  generalize flag (word m (d + 8)) 4 = b6
  clear hy
  cases b6
  · by_cases hc : code = 0
    · subst hc
      cases b5 <;> rfl
    · rw [bne_iff_ne.2 hc, if_neg hc]; rfl
  · cases inner <;> cases b5 <;> cases b2 <;> cases b1 <;> cases b3 <;> cases b4 <;> rfl
theorem impl_stp (rec : ByteArray → Int → Int → Int → Int → Bool → Int → List Buf → Option Chain) (m : ByteArray) (table size : Int) (inner : Bool) (at_ steps z : Int) (bs : List Buf) (hm : m.size ≤ 65536)
    (ha : 0 ≤ at_) (hs : 0 ≤ steps) (hs' : steps ≤ size) (hz : size ≤ 16) (hr : 0 ≤ table) (hr1 : table + 16 * size ≤ m.size) (hb : bs.length ≤ 1000) :
    impl_yreadChain_l6_step rec m table size at_ steps inner z bs = stp m (fun t s i a n l => rec m t s a n i z l) table size inner at_ steps bs := by
  unfold impl_yreadChain_l6_step stp
  by_cases h : at_ ≥ size
  · rw [decp h, if_pos h]; simp
  rw [decn h, if_neg h, wrap_id (x := steps + 1) (by omega) (by omega)]
  dsimp only [cond_false]
  by_cases hst : steps + 1 > size
  · rw [decp hst, if_pos hst]; rfl
  rw [decn hst, if_neg hst]
  have f1 : wrap64 (16 * at_) = 16 * at_ := wrap_id (by omega) (by omega)
  have f2 : wrap64 (table + 16 * at_) = table + 16 * at_ := wrap_id (by clear f1; omega) (by clear f1; omega)
  rw [f1, f2]
  clear f1 f2
  have d0 : 0 ≤ table + 16 * at_ := by omega
  have d1 : table + 16 * at_ + 16 ≤ m.size := by omega
  generalize table + 16 * at_ = d at d0 d1
  have rd := impl_readDesc m d (by omega) d0 (by omega)
  have r0 := word_range m d
  have r4 := word_range m (d + 4)
  have ia := impl_add m bs (word m d) (word m (d + 4)) (word m (d + 8)) (word m (d + 12)) (by omega)
  have et : wrap64 (Int.tdiv (word m (d + 4)) 16) = word m (d + 4) / 16 := by
    rw [Int.tdiv_eq_ediv_of_nonneg r4.1, wrap_id (by omega) (by omega)]
  rw [rd, Option.bind_some, impl_has, Option.bind_some]
  dsimp only
  rw [impl_has, yin_eq, impl_in, Option.bind_some, ia, Option.bind_some, Option.bind_some, et]
  unfold badTab
  clear et rd ia
  generalize rec m (word m d) (word m (d + 4) / 16) 0 0 true z bs = r1
  generalize bs ++ [(word m d, word m (d + 4), flag (word m (d + 8)) 2)] = bs'
  generalize bufCode m bs (word m d) (word m (d + 4)) (flag (word m (d + 8)) 2) = code
  generalize decide (16 ≤ word m (d + 4) ∧ word m (d + 4) ≤ 256) = b1
  generalize (Int.tmod (word m (d + 4)) 16 != 0) = b2
  generalize (Int.tmod (word m d) 4 != 0) = b3
  generalize inB m.size (word m d) (word m (d + 4)) = b4
  generalize flag (word m (d + 8)) 1 = b5
  generalize flag (word m (d + 8)) 4 = b6
  cases b6
  · by_cases hc : code = 0
    · subst hc
      cases b5 <;> rfl
    · rw [if_neg hc, if_neg hc]
      dsimp only
      rw [bne_iff_ne.2 hc]; rfl
  · cases inner <;> cases b5 <;> cases b2 <;> cases b1 <;> cases b3 <;> cases b4 <;> rfl
/-- Both walk the same chain. -/
theorem chain_loop (m : ByteArray) (hm : m.size ≤ 65536) : ∀ (μ n1 n2 : Nat) (table size : Int) (inner : Bool) (at_ steps z z' : Int) (bs : List Buf),
    μ ≤ n1 → μ ≤ n2 → 0 ≤ at_ → 0 ≤ steps → steps ≤ size → size ≤ 16 → 0 ≤ table → table + 16 * size ≤ m.size →
    (if inner = true then 0 else 17) + (size - steps) < (μ : Int) → (bs.length : Int) ≤ (if inner = true then 16 else 0) + steps →
    ∃ R : Chain, R.2.1.length ≤ 40 ∧ spec_ReadChain_l11 n1 m table size inner at_ steps z 0 bs = some R ∧ impl_yreadChain_l6 n2 m table size at_ steps inner z' bs = some R := by
  intro μ
  induction μ with
  | zero =>
    intro n1 n2 table size inner at_ steps z z' bs h1 h2 ha hs hs' hz ht ht' hmu hb
    exfalso
    split at hmu <;> omega
  | succ μ ih =>
    intro n1 n2 table size inner at_ steps z z' bs h1 h2 ha hs hs' hz ht ht' hmu hb
    obtain ⟨n1, rfl⟩ : ∃ q, n1 = q + 1 := ⟨n1 - 1, by omega⟩
    obtain ⟨n2, rfl⟩ : ∃ q, n2 = q + 1 := ⟨n2 - 1, by omega⟩
    have hb' : bs.length ≤ 1000 := by split at hb <;> omega
    show ∃ R : Chain, R.2.1.length ≤ 40 ∧ spec_ReadChain_l11_step (spec_ReadChain_l11 n1) m table size inner at_ steps z 0 bs = some R ∧ impl_yreadChain_l6_step (impl_yreadChain_l6 n2) m table size at_ steps inner z' bs = some R
    rw [spec_stp _ m table size inner at_ steps z bs hm ha hs hs' hz ht ht' hb', impl_stp _ m table size inner at_ steps z' bs hm ha hs hs' hz ht ht' hb']
    unfold stp
    dsimp only
    by_cases c1 : at_ ≥ size
    · simp only [if_pos c1]; exact ⟨_, by simp, rfl, rfl⟩
    by_cases c2 : steps + 1 > size
    · simp only [if_neg c1, if_pos c2]; exact ⟨_, by simp, rfl, rfl⟩
    simp only [if_neg c1, if_neg c2]
    by_cases c3 : flag (word m (table + 16 * at_ + 8)) 4 = true
    · simp only [if_pos c3]
      by_cases c4 : (inner || badTab (word m (table + 16 * at_)) (word m (table + 16 * at_ + 4)) (word m (table + 16 * at_ + 8))) = true
      · simp only [if_pos c4]; exact ⟨_, by simp, rfl, rfl⟩
      simp only [if_neg c4]
      by_cases c5 : inB m.size (word m (table + 16 * at_)) (word m (table + 16 * at_ + 4)) = true
      · simp only [if_pos c5]
        have hin : inner = false := by cases inner <;> simp_all
        subst hin
        have hB := inB_true (by omega) (by omega) c5
        have c7 : 16 ≤ word m (table + 16 * at_ + 4) ∧ word m (table + 16 * at_ + 4) ≤ 256 := by
          by_cases h : 16 ≤ word m (table + 16 * at_ + 4) ∧ word m (table + 16 * at_ + 4) ≤ 256
          · exact h
          · exfalso
            apply c4
            unfold badTab
            rw [decn h]
            simp
        refine ih n1 n2 _ _ true 0 0 z z' bs (by omega) (by omega) (by omega) (by omega) (by omega) (by omega) hB.1 (by omega) ?_ ?_
        · simp only [if_true, Bool.false_eq_true, if_false] at hmu ⊢
          omega
        · simp only [if_true, Bool.false_eq_true, if_false] at hb ⊢
          omega
      · simp only [if_neg c5]; exact ⟨_, by simp, rfl, rfl⟩
    · simp only [if_neg c3]
      by_cases c4 : bufCode m bs (word m (table + 16 * at_)) (word m (table + 16 * at_ + 4)) (flag (word m (table + 16 * at_ + 8)) 2) = 0
      · simp only [if_pos c4]
        by_cases c5 : flag (word m (table + 16 * at_ + 8)) 1 = true
        · simp only [if_pos c5]
          have r := word_range m (table + 16 * at_ + 12)
          refine ih n1 n2 _ _ inner _ _ z z' _ (by omega) (by omega) r.1 (by omega) (by omega) hz ht ht' ?_ ?_
          · split at hmu <;> split <;> omega
          · simp only [List.length_append, List.length_cons, List.length_nil]
            split at hb <;> split <;> first | omega | simp_all
        · simp only [if_neg c5]
          refine ⟨_, ?_, rfl, rfl⟩
          simp only [List.length_append, List.length_cons, List.length_nil]
          split at hb <;> omega
      · simp only [if_neg c4]; exact ⟨_, by simp, rfl, rfl⟩
/-- Both read the same, from a right queue. -/
theorem yread_same (m : ByteArray) (s d a u t g head : Int) (hq : queueOk m s d a u t g = true) : ∃ R : Chain, R.2.1.length ≤ 40 ∧ spec_ReadChain m s d a u t g head = some R ∧ impl_yreadChain m s d a u t g head = some R := by
  obtain ⟨q1, q2, q3, q4, q5, q6, q7, q8, q9, q10, q11, q12, q13, q14⟩ := queue_true hq
  unfold spec_ReadChain impl_yreadChain
  rw [decn (show ¬ (m.size : Int) > 65536 by omega)]
  simp only [cond_false, spec_queue, yin_eq, Option.bind_some, hq]
  have e : wrap64 (s - 1) = s - 1 := wrap_id (by omega) (by omega)
  rw [e]
  clear e
  by_cases hd : 0 ≤ head ∧ head ≤ s - 1
  · rw [decp hd, decn (show ¬ head < 0 by omega), decn (show ¬ head ≥ s by omega)]
    obtain ⟨R, r1, r2, r3⟩ := chain_loop m (by omega) 40 K0 K0 d s false head 0 0 0 [] (by rw [K0_eq]; omega) (by rw [K0_eq]; omega) (by omega) (by omega) (by omega) (by omega) (by omega) (by omega) (by simp; omega) (by simp)
    refine ⟨R, r1, ?_, ?_⟩
    · simp [r2]
    · simp [r3]
  · refine ⟨(1, [], ()), by simp, ?_, ?_⟩
    · by_cases h1 : head < 0
      · rw [decp h1]; simp
      · rw [decn h1, decp (show head ≥ s by omega)]; simp
    · rw [decn hd]; simp
abbrev Taken := Int × Int × List Buf × Int × Int × Int × Int × Int × Int × Unit
/-- Both take the same chain. -/
theorem ytake_same (m : ByteArray) (s d a u t g : Int) (hq : queueOk m s d a u t g = true) : ∃ R : Taken, R.2.2.1.length ≤ 40 ∧ spec_TakeChain m s d a u t g = some R ∧ impl_ytakeChain m s d a u t g = some R := by
  obtain ⟨q1, q2, q3, q4, q5, q6, q7, q8, q9, q10, q11, q12, q13, q14⟩ := queue_true hq
  unfold spec_TakeChain impl_ytakeChain
  rw [decn (show ¬ (m.size : Int) > 65536 by omega)]
  simp only [cond_false, spec_queue, Option.bind_some, hq]
  have e4 : wrap64 (a + 4) = a + 4 := wrap_id (by omega) (by omega)
  have r4 := word_range m (a + 4)
  rw [e4, spec_word m (a + 4) (by clear e4; omega) (by clear e4; omega) (by clear e4; omega), impl_word m (a + 4) (by clear e4; omega) (by clear e4; omega) (by clear e4; omega)]
  clear e4
  simp only [Option.bind_some]
  have et : Int.tmod (word m (a + 4)) 65536 = word m (a + 4) % 65536 := Int.tmod_eq_emod_of_nonneg r4.1
  have w1 : wrap64 (word m (a + 4) - t) = word m (a + 4) - t := wrap_id (by clear et; omega) (by clear et; omega)
  have w2 : wrap64 (word m (a + 4) % 65536 - t) = word m (a + 4) % 65536 - t := wrap_id (by clear et w1; omega) (by clear et w1; omega)
  have em : (word m (a + 4) % 65536 - t) % 65536 = (word m (a + 4) - t) % 65536 := by clear et w1 w2; omega
  rw [et, w1, w2, spec_mod _ _ (by decide) (by decide), impl_mod _ _ (by decide) (by decide), em]
  clear et w1 w2 em
  simp only [Option.bind_some]
  generalize (word m (a + 4) - t) % 65536 = n
  have hs0 : (s == 0) = false := beq_false_of_ne (by omega)
  have hmt : Int.tmod t s = t % s := Int.tmod_eq_emod_of_nonneg q11
  have k1 := Int.emod_nonneg t (show s ≠ 0 by omega)
  have k2 := Int.emod_lt_of_pos t (show 0 < s by omega)
  have w3 : wrap64 (4 * (t % s)) = 4 * (t % s) := wrap_id (by omega) (by omega)
  have w4 : wrap64 (a + 8) = a + 8 := wrap_id (by clear w3; omega) (by clear w3; omega)
  have w5 : wrap64 (a + 8 + 4 * (t % s)) = a + 8 + 4 * (t % s) := wrap_id (by clear w3 w4; omega) (by clear w3 w4; omega)
  rw [hmt, w3, w4, w5, hs0]
  clear hmt w3 w4 w5
  rw [spec_word m _ (by omega) (by omega) (by omega), impl_word m _ (by omega) (by omega) (by omega)]
  simp only [Option.bind_some]
  obtain ⟨R, r1, r2, r3⟩ := yread_same m s d a u t g (word m (a + 8 + 4 * (t % s))) hq
  rw [r2, r3]
  by_cases c1 : n = 0
  · exact ⟨(5, 0, [], 0, 0, 0, 0, 0, 0, ()), by simp, by simp [c1], by simp [c1]⟩
  have c1' : (n == 0) = false := beq_false_of_ne c1
  by_cases c2 : n > s
  · exact ⟨(8, 0, [], 0, 0, 0, 0, 0, 0, ()), by simp, by simp [c1', c2], by simp [c1', c2]⟩
  refine ⟨(R.1, word m (a + 8 + 4 * (t % s)), R.2.1, s, d, a, u, Int.tmod (wrap64 (t + 1)) 65536, g, ()), r1, ?_, ?_⟩
  · simp [c1', c2]
  · simp [c1', c2]
theorem take_same (m : ByteArray) (s d a u t g : Int) : ∃ R : Taken, R.2.2.1.length ≤ 40 ∧ spec_TakeChain m s d a u t g = some R ∧ impl_TakeChain m s d a u t g = some R := by
  unfold impl_TakeChain impl_ymemQueue
  rw [impl_big1]
  by_cases hm : (m.size : Int) > 65536
  · refine ⟨(2, 0, [], 0, 0, 0, 0, 0, 0, ()), by simp, ?_, ?_⟩
    · unfold spec_TakeChain; rw [decp hm]; rfl
    · rw [decp hm]; rfl
  rw [decn hm]
  simp only [cond_false, impl_queue, Option.bind_some]
  cases hq : queueOk m s d a u t g
  · refine ⟨(1, 0, [], 0, 0, 0, 0, 0, 0, ()), by simp, ?_, by simp⟩
    unfold spec_TakeChain
    rw [decn hm]
    simp [spec_queue, hq]
  · obtain ⟨R, r1, r2, r3⟩ := ytake_same m s d a u t g hq
    exact ⟨R, r1, r2, by simp [r3]⟩
/-- Four words, one behind another. -/
noncomputable def put4 (m : ByteArray) (x a b c e : Int) : ByteArray := put (put (put (put m x a) (x + 4) b) (x + 8) c) (x + 12) e
theorem put4_size (m : ByteArray) (x a b c e : Int) (h0 : 0 ≤ x) (h1 : x + 16 ≤ m.size) : (put4 m x a b c e).size = m.size := by
  have p1 := put_size m x a h0 (by omega)
  have p2 := put_size (put m x a) (x + 4) b (by omega) (by omega)
  have p3 := put_size (put (put m x a) (x + 4) b) (x + 8) c (by omega) (by omega)
  have p4 := put_size (put (put (put m x a) (x + 4) b) (x + 8) c) (x + 12) e (by omega) (by omega)
  unfold put4
  omega
theorem impl_yset4 (m : ByteArray) (a x y z w : Int) (hm : m.size ≤ 65536) (h0 : 0 ≤ a) (h1 : a + 16 ≤ m.size) : impl_yset m a [x, y, z, w] = some (put4 m a x y z w, ()) := by
  obtain ⟨k, hk⟩ := K0_ge (n := 5) (by decide)
  have w0 : wrap64 (a + wrap64 ((4 : Int) * 0)) = a := by rw [wrap_id (x := (4 : Int) * 0) (by decide) (by decide), wrap_id (by omega) (by omega)]; omega
  have w1 : wrap64 (a + wrap64 ((4 : Int) * 1)) = a + 4 := by clear w0; rw [wrap_id (x := (4 : Int) * 1) (by decide) (by decide), wrap_id (by omega) (by omega)]; omega
  have w2 : wrap64 (a + wrap64 ((4 : Int) * 2)) = a + 8 := by clear w0 w1; rw [wrap_id (x := (4 : Int) * 2) (by decide) (by decide), wrap_id (by omega) (by omega)]; omega
  have w3 : wrap64 (a + wrap64 ((4 : Int) * 3)) = a + 12 := by clear w0 w1 w2; rw [wrap_id (x := (4 : Int) * 3) (by decide) (by decide), wrap_id (by omega) (by omega)]; omega
  have v0 : wrap64 (0 + 1) = 1 := wrap_id (by decide) (by decide)
  have v1 : wrap64 (1 + 1) = 2 := wrap_id (by decide) (by decide)
  have v2 : wrap64 (2 + 1) = 3 := wrap_id (by decide) (by decide)
  have v3 : wrap64 (3 + 1) = 4 := wrap_id (by decide) (by decide)
  have p1 : (put m a x).size = m.size := put_size m a x h0 (by clear w0 w1 w2 w3 v0 v1 v2 v3; omega)
  have p2 : (put (put m a x) (a + 4) y).size = m.size := by clear w0 w1 w2 w3 v0 v1 v2 v3; rw [put_size _ _ _ (by omega) (by omega), p1]
  have p3 : (put (put (put m a x) (a + 4) y) (a + 8) z).size = m.size := by clear w0 w1 w2 w3 v0 v1 v2 v3; rw [put_size _ _ _ (by omega) (by omega), p2]
  have s1 := impl_splice4 m a x hm h0 (by clear w0 w1 w2 w3 v0 v1 v2 v3; omega)
  have s2 := impl_splice4 (put m a x) (a + 4) y (by clear w0 w1 w2 w3 v0 v1 v2 v3; omega) (by clear w0 w1 w2 w3 v0 v1 v2 v3; omega) (by clear w0 w1 w2 w3 v0 v1 v2 v3; omega)
  have s3 := impl_splice4 (put (put m a x) (a + 4) y) (a + 8) z (by clear w0 w1 w2 w3 v0 v1 v2 v3; omega) (by clear w0 w1 w2 w3 v0 v1 v2 v3; omega) (by clear w0 w1 w2 w3 v0 v1 v2 v3; omega)
  have s4 := impl_splice4 (put (put (put m a x) (a + 4) y) (a + 8) z) (a + 12) w (by clear w0 w1 w2 w3 v0 v1 v2 v3; omega) (by clear w0 w1 w2 w3 v0 v1 v2 v3; omega) (by clear w0 w1 w2 w3 v0 v1 v2 v3; omega)
  unfold impl_yset put4
  rw [hk]
  simp only [impl_yset_l2, impl_yset_l2_step, w0, w1, w2, w3, v0, v1, v2, v3, impl_putWord, Option.bind_some, s1, s2, s3, s4, show rd (.int .i64) [x, y, z, w] 0 = x from rfl, show rd (.int .i64) [x, y, z, w] 1 = y from rfl, show rd (.int .i64) [x, y, z, w] 2 = z from rfl, show rd (.int .i64) [x, y, z, w] 3 = w from rfl]
  simp (config := {decide := true})
noncomputable def isW (x : Int) : Bool := decide (x ≥ 0) && decide (x < 4294967296)
theorem spec_isW (x : Int) : spec_l01IsWord x = some (isW x, ()) := rfl
theorem impl_isW (x : Int) : impl_yisWord x = some (isW x, ()) := rfl
theorem spec_bool (b : Bool) : spec_l01Bool b = some ((bif b then 1 else 0), ()) := by cases b <;> rfl
noncomputable def bufOk (b : Buf) : Bool := isW b.1 && isW b.2.1
noncomputable def flagsOf (n i : Nat) (w : Bool) : Int := (if w = true then 2 else 0) + (if i + 1 < n then 1 else 0)
noncomputable def nextOf (s first : Int) (n i : Nat) : Int := if i + 1 < n then (first + i + 1) % s else 0
/-- One buffer's descriptor. -/
noncomputable def postOne (d s first : Int) (n i : Nat) (b : Buf) (m : ByteArray) : ByteArray :=
  put4 m (d + 16 * ((first + i) % s)) b.1 b.2.1 (flagsOf n i b.2.2) (nextOf s first n i)
/-- All of them, from the i-th on. -/
noncomputable def postMem (d s first : Int) (n : Nat) : List Buf → Nat → ByteArray → ByteArray
  | [], _, m => m
  | b :: bs, i, m => postMem d s first n bs (i + 1) (postOne d s first n i b m)
/-- What is put behind them. -/
noncomputable def postEnd (m : ByteArray) (s a first : Int) : ByteArray :=
  put (put m (a + 8 + 4 * ((word m (a + 4) % 65536) % s)) first) (a + 4) ((word m (a + 4) % 65536 + 1) % 65536)
abbrev Given := Int × ByteArray × Int × Int × Int × Int × Int × Int × Bool × Unit
noncomputable def postRes (m : ByteArray) (s d a u t g first : Int) (l : List Buf) : Given :=
  if (decide ((m.size : Int) > 65536) || decide ((l.length : Int) > 1000)) = true then (2, ByteArray.empty, 0, 0, 0, 0, 0, 0, false, ())
  else if (queueOk m s d a u t g && decide (0 ≤ first ∧ first < s) && decide (1 ≤ (l.length : Int) ∧ (l.length : Int) ≤ s) && l.all bufOk) = true then
    (0, postEnd (postMem d s first l.length l 0 m) s a first, s, d, a, u, t, g, false, ())
  else (1, ByteArray.empty, 0, 0, 0, 0, 0, 0, false, ())
theorem emod_lt {x s : Int} (h1 : 1 ≤ s) : 0 ≤ x % s ∧ x % s < s := ⟨Int.emod_nonneg _ (by omega), Int.emod_lt_of_pos _ (by omega)⟩
theorem one_size (d s first : Int) (n i : Nat) (b : Buf) (m : ByteArray) (hd : 0 ≤ d) (h1 : 1 ≤ s) (h2 : d + 16 * s ≤ m.size) : (postOne d s first n i b m).size = m.size := by
  obtain ⟨t1, t2⟩ := emod_lt (x := first + i) (s := s) h1
  exact put4_size _ _ _ _ _ _ (by omega) (by omega)
theorem mem_size (d s first : Int) (n : Nat) (hd : 0 ≤ d) (h1 : 1 ≤ s) (bs : List Buf) : ∀ (i : Nat) (m : ByteArray), d + 16 * s ≤ m.size → (postMem d s first n bs i m).size = m.size := by
  induction bs with
  | nil => intro i m _; rfl
  | cons b bs ih =>
    intro i m h2
    have h := one_size d s first n i b m hd h1 h2
    rw [postMem, ih _ _ (by omega), h]
theorem end_size (m : ByteArray) (s a first : Int) (h1 : 1 ≤ s) (ha : 0 ≤ a) (h : a + (8 + 4 * s) ≤ m.size) : (postEnd m s a first).size = m.size := by
  obtain ⟨t1, t2⟩ := emod_lt (x := word m (a + 4) % 65536) (s := s) h1
  have p := put_size m (a + 8 + 4 * ((word m (a + 4) % 65536) % s)) first (by omega) (by omega)
  unfold postEnd
  rw [put_size _ _ _ (by omega) (by omega), p]
theorem spec_words (m : ByteArray) (first : Int) (l : List Buf) (hl : l.length ≤ 1000) (s d a u t g z10 : Int) (z11 : ByteArray) (z12 z13 z14 z15 z16 z17 : Int) (z18 : Bool) : ∀ (e k i : Nat), i + e = l.length → e < k →
    spec_PostChain_l6 k m first l (i : Int) s d a u t g z10 z11 z12 z13 z14 z15 z16 z17 z18 = some (if (l.drop i).all bufOk = true then Sum.inr (m, first, l, s, d, a, u, t, g, z10, z11, z12, z13, z14, z15, z16, z17, z18, ()) else Sum.inl (1, ByteArray.empty, 0, 0, 0, 0, 0, 0, false, ())) := by
  intro e
  induction e with
  | zero =>
    intro k i hi hk
    obtain ⟨k, rfl⟩ : ∃ q, k = q + 1 := ⟨k - 1, by omega⟩
    have : i = l.length := by omega
    subst this
    show spec_PostChain_l6_step (spec_PostChain_l6 k) m first l (l.length : Int) s d a u t g z10 z11 z12 z13 z14 z15 z16 z17 z18 = _
    unfold spec_PostChain_l6_step
    rw [decn (show ¬ (l.length : Int) < (l.length : Int) by omega), List.drop_length]
    rfl
  | succ e ih =>
    intro k i hi hk
    obtain ⟨k, rfl⟩ : ∃ q, k = q + 1 := ⟨k - 1, by omega⟩
    have hlt : i < l.length := by omega
    have IH := ih k (i + 1) (by omega) (by omega)
    show spec_PostChain_l6_step (spec_PostChain_l6 k) m first l (i : Int) s d a u t g z10 z11 z12 z13 z14 z15 z16 z17 z18 = _
    unfold spec_PostChain_l6_step
    rw [decp (show (i : Int) < (l.length : Int) by omega), decp (show (0 : Int) ≤ (i : Int) by omega), wrap_succ i l.length hlt (by omega), rd_at R1 l i hlt, List.drop_eq_getElem_cons hlt]
    simp only [spec_isW, Option.bind_some, Option.getD_some, Option.isSome_some, Bool.or_true, Bool.and_true, cond_true, IH, List.all_cons]
    have hb : (!isW l[i].1 || !isW l[i].2.1) = !bufOk l[i] := by unfold bufOk; cases isW l[i].1 <;> cases isW l[i].2.1 <;> rfl
    rw [hb]
    by_cases hB : bufOk l[i] = true
    · simp only [hB, Bool.not_true, cond_false, Bool.true_and]
    · rw [Bool.not_eq_true] at hB
      simp only [hB, Bool.not_false, cond_true, Bool.false_and, Bool.false_eq_true, if_false]
theorem impl_words (l : List Buf) (hl : l.length ≤ 1000) : slices_ContainsFunc_Buf l = some (!l.all bufOk, ()) := by
  have key : ∀ (e k i : Nat), i + e = l.length → e < k → ∃ o, slices_IndexFunc_Buf_l2 k l (l.length : Int) (i : Int) = some o ∧ ((l.drop i).all bufOk = true → o = Sum.inr ()) ∧ ((l.drop i).all bufOk = false → ∃ j : Int, 0 ≤ j ∧ o = Sum.inl (j, ())) := by
    intro e
    induction e with
    | zero =>
      intro k i hi hk
      obtain ⟨k, rfl⟩ : ∃ q, k = q + 1 := ⟨k - 1, by omega⟩
      have : i = l.length := by omega
      subst this
      show ∃ o, slices_IndexFunc_Buf_l2_step (slices_IndexFunc_Buf_l2 k) l (l.length : Int) (l.length : Int) = some o ∧ _
      unfold slices_IndexFunc_Buf_l2_step
      rw [decn (show ¬ (l.length : Int) < (l.length : Int) by omega), List.drop_length]
      exact ⟨_, rfl, fun _ => rfl, fun h => by simp at h⟩
    | succ e ih =>
      intro k i hi hk
      obtain ⟨k, rfl⟩ : ∃ q, k = q + 1 := ⟨k - 1, by omega⟩
      have hlt : i < l.length := by omega
      have IH := ih k (i + 1) (by omega) (by omega)
      show ∃ o, slices_IndexFunc_Buf_l2_step (slices_IndexFunc_Buf_l2 k) l (l.length : Int) (i : Int) = some o ∧ _
      unfold slices_IndexFunc_Buf_l2_step impl_PostChain_1
      rw [decp (show (i : Int) < (l.length : Int) by omega), decp (show (0 : Int) ≤ (i : Int) by omega), wrap_succ i l.length hlt (by omega), rd_at R1 l i hlt, List.drop_eq_getElem_cons hlt]
      simp only [impl_isW, Option.bind_some, Option.getD_some, Option.isSome_some, Bool.or_true, Bool.and_true, cond_true, List.all_cons]
      have hb : (!isW l[i].1 || !isW l[i].2.1) = !bufOk l[i] := by unfold bufOk; cases isW l[i].1 <;> cases isW l[i].2.1 <;> rfl
      rw [hb]
      cases bufOk l[i]
      · exact ⟨_, rfl, fun h => by simp at h, fun _ => ⟨_, by omega, rfl⟩⟩
      · simp only [Bool.not_true, cond_false, Bool.true_and]
        exact IH
  obtain ⟨o, h1, h2, h3⟩ := key l.length K0 0 (by omega) (by rw [K0_eq]; omega)
  rw [List.drop_zero] at h2 h3
  have h1' : slices_IndexFunc_Buf_l2 K0 l (l.length : Int) 0 = some o := h1
  unfold slices_ContainsFunc_Buf slices_IndexFunc_Buf
  rw [h1']
  cases hb : l.all bufOk
  · obtain ⟨j, j0, rfl⟩ := h3 hb
    simp [j0]
  · rw [h2 hb]
    rfl
theorem spec_write (s d a u t g first : Int) (l : List Buf) (hl : l.length ≤ 1000) (h3 : 1 ≤ s) (h4 : s ≤ 16) (h5 : 0 ≤ d) (hf : 0 ≤ first) (hf2 : first < s) (hn : (l.length : Int) ≤ s) (z10 : Int) (z11 : ByteArray) (z12 z13 z14 z15 z16 z17 : Int) (z18 : Bool) :
    ∀ (e k : Nat) (m : ByteArray) (i : Nat), i + e = l.length → e < k → m.size ≤ 65536 → d + 16 * s ≤ m.size →
      spec_PostChain_l11 k m first l (i : Int) s d a u t g z10 z11 z12 z13 z14 z15 z16 z17 z18 = some (postMem d s first l.length (l.drop i) i m, first, s, d, a, u, t, g, z10, z11, z12, z13, z14, z15, z16, z17, z18, ()) := by
  intro e
  induction e with
  | zero =>
    intro k m i hi hk hm h6
    obtain ⟨k, rfl⟩ : ∃ q, k = q + 1 := ⟨k - 1, by omega⟩
    have : i = l.length := by omega
    subst this
    show spec_PostChain_l11_step (spec_PostChain_l11 k) m first l (l.length : Int) s d a u t g z10 z11 z12 z13 z14 z15 z16 z17 z18 = _
    unfold spec_PostChain_l11_step
    rw [decn (show ¬ (l.length : Int) < (l.length : Int) by omega), List.drop_length]
    rfl
  | succ e ih =>
    intro k m i hi hk hm h6
    obtain ⟨k, rfl⟩ : ∃ q, k = q + 1 := ⟨k - 1, by omega⟩
    have hlt : i < l.length := by omega
    have hz := one_size d s first l.length i l[i] m h5 h3 h6
    have IH := ih k (postOne d s first l.length i l[i] m) (i + 1) (by omega) (by omega) (by omega) (by omega)
    rw [List.drop_eq_getElem_cons hlt, postMem, ← IH]
    clear IH ih
    show spec_PostChain_l11_step (spec_PostChain_l11 k) m first l (i : Int) s d a u t g z10 z11 z12 z13 z14 z15 z16 z17 z18 = _
    unfold spec_PostChain_l11_step
    obtain ⟨t1, t2⟩ := emod_lt (x := first + i) (s := s) h3
    have et : Int.tmod (first + i) s = (first + i) % s := Int.tmod_eq_emod_of_nonneg (by omega)
    have et2 : Int.tmod (first + i + 1) s = (first + i + 1) % s := Int.tmod_eq_emod_of_nonneg (by omega)
    have hi0 : decide ((0 : Int) ≤ (i : Int)) = true := decp (by omega)
    have hi1 : decide ((i : Int) < (l.length : Int)) = true := decp (by omega)
    have hs0 : (s == 0) = false := beq_false_of_ne (by omega)
    have e1 : wrap64 (first + (i : Int)) = first + i := wrap_id (by clear et et2; omega) (by clear et et2; omega)
    have e4 : wrap64 (first + (i : Int) + 1) = first + i + 1 := wrap_id (by clear et et2 e1; omega) (by clear et et2 e1; omega)
    have ei := wrap_succ i l.length hlt (by clear et et2 e1 e4; omega)
    simp only [e1, e4, et, et2, ei, hi0, hi1, hs0, rd_at R1 l i hlt, spec_bool, Option.bind_some, Bool.cond_self, Bool.not_false, Bool.or_true, Bool.and_true, cond_true]
    clear e1 e4 et et2 ei
    generalize hx : (first + (i : Int)) % s = x at *
    have e2 : wrap64 ((16 : Int) * x) = 16 * x := wrap_id (by omega) (by omega)
    have e3 : wrap64 (d + 16 * x) = d + 16 * x := wrap_id (by clear e2; omega) (by clear e2; omega)
    simp only [e2, e3]
    clear e2 e3
    have f4 : wrap64 (d + 16 * x + 4) = d + 16 * x + 4 := wrap_id (by omega) (by omega)
    have f8 : wrap64 (d + 16 * x + 8) = d + 16 * x + 8 := wrap_id (by clear f4; omega) (by clear f4; omega)
    have f12 : wrap64 (d + 16 * x + 12) = d + 16 * x + 12 := wrap_id (by clear f4 f8; omega) (by clear f4 f8; omega)
    simp only [f4, f8, f12]
    clear f4 f8 f12
    have hw : (bif decide (((i + 1 : Nat) : Int) < (l.length : Int)) then wrap64 (wrap64 (2 * bif l[i].2.2 then 1 else 0) + 1) else wrap64 (2 * bif l[i].2.2 then 1 else 0)) = flagsOf l.length i l[i].2.2 := by
      unfold flagsOf
      have w2 : wrap64 (2 * 1) = 2 := wrap_id (by decide) (by decide)
      have w3 : wrap64 (2 + 1) = 3 := wrap_id (by decide) (by decide)
      have w0 : wrap64 (2 * 0) = 0 := wrap_id (by decide) (by decide)
      have w1 : wrap64 (0 + 1) = 1 := wrap_id (by decide) (by decide)
      by_cases hL : i + 1 < l.length
      · rw [decp (show ((i + 1 : Nat) : Int) < (l.length : Int) by clear w0 w1 w2 w3; omega), if_pos hL]
        cases l[i].2.2
        · simp only [cond_true, cond_false, w0, w1]; rfl
        · simp only [cond_true, w2, w3]; rfl
      · rw [decn (show ¬ ((i + 1 : Nat) : Int) < (l.length : Int) by clear w0 w1 w2 w3; omega), if_neg hL]
        cases l[i].2.2
        · simp only [cond_false, w0]; rfl
        · simp only [cond_true, cond_false, w2]; rfl
    have hnx : (bif decide (((i + 1 : Nat) : Int) < (l.length : Int)) then (first + (i : Int) + 1) % s else 0) = nextOf s first l.length i := by
      unfold nextOf
      by_cases hL : i + 1 < l.length
      · rw [decp (show ((i + 1 : Nat) : Int) < (l.length : Int) by omega), if_pos hL]; rfl
      · rw [decn (show ¬ ((i + 1 : Nat) : Int) < (l.length : Int) by omega), if_neg hL]; rfl
    rw [hw, hnx]
    clear hw hnx
    have p1 := put_size m (d + 16 * x) l[i].1 (by omega) (by omega)
    have p2 := put_size (put m (d + 16 * x) l[i].1) (d + 16 * x + 4) l[i].2.1 (by omega) (by omega)
    have p3 := put_size (put (put m (d + 16 * x) l[i].1) (d + 16 * x + 4) l[i].2.1) (d + 16 * x + 8) (flagsOf l.length i l[i].2.2) (by omega) (by omega)
    rw [spec_setWord m (d + 16 * x) _ hm (by omega) (by omega)]
    simp only [Option.bind_some]
    rw [spec_setWord _ (d + 16 * x + 4) _ (by omega) (by omega) (by omega)]
    simp only [Option.bind_some]
    rw [spec_setWord _ (d + 16 * x + 8) _ (by omega) (by omega) (by omega)]
    simp only [Option.bind_some]
    rw [spec_setWord _ (d + 16 * x + 12) _ (by omega) (by omega) (by omega)]
    simp only [Option.bind_some]
    unfold postOne put4
    rw [hx]
theorem impl_write (s d a u t g first : Int) (l : List Buf) (hl : l.length ≤ 1000) (h3 : 1 ≤ s) (h4 : s ≤ 16) (h5 : 0 ≤ d) (hf : 0 ≤ first) (hf2 : first < s) (hn : (l.length : Int) ≤ s) (z12 : Int) (z13 : ByteArray) (z14 z15 z16 z17 z18 z19 : Int) (z20 : Bool) :
    ∀ (e k : Nat) (m : ByteArray) (i : Nat), i + e = l.length → e < k → m.size ≤ 65536 → d + 16 * s ≤ m.size →
      impl_PostChain_l6 k m first l l (l.length : Int) (i : Int) s d a u t g z12 z13 z14 z15 z16 z17 z18 z19 z20 = some (postMem d s first l.length (l.drop i) i m, first, s, d, a, u, t, g, z12, z13, z14, z15, z16, z17, z18, z19, z20, ()) := by
  intro e
  induction e with
  | zero =>
    intro k m i hi hk hm h6
    obtain ⟨k, rfl⟩ : ∃ q, k = q + 1 := ⟨k - 1, by omega⟩
    have : i = l.length := by omega
    subst this
    show impl_PostChain_l6_step (impl_PostChain_l6 k) m first l l (l.length : Int) (l.length : Int) s d a u t g z12 z13 z14 z15 z16 z17 z18 z19 z20 = _
    unfold impl_PostChain_l6_step
    rw [decn (show ¬ (l.length : Int) < (l.length : Int) by omega), List.drop_length]
    rfl
  | succ e ih =>
    intro k m i hi hk hm h6
    obtain ⟨k, rfl⟩ : ∃ q, k = q + 1 := ⟨k - 1, by omega⟩
    have hlt : i < l.length := by omega
    have hz := one_size d s first l.length i l[i] m h5 h3 h6
    have IH := ih k (postOne d s first l.length i l[i] m) (i + 1) (by omega) (by omega) (by omega) (by omega)
    rw [List.drop_eq_getElem_cons hlt, postMem, ← IH]
    clear IH ih
    show impl_PostChain_l6_step (impl_PostChain_l6 k) m first l l (l.length : Int) (i : Int) s d a u t g z12 z13 z14 z15 z16 z17 z18 z19 z20 = _
    unfold impl_PostChain_l6_step
    obtain ⟨t1, t2⟩ := emod_lt (x := first + i) (s := s) h3
    have et : Int.tmod (first + i) s = (first + i) % s := Int.tmod_eq_emod_of_nonneg (by omega)
    have hi0 : decide ((0 : Int) ≤ (i : Int)) = true := decp (by omega)
    have hi1 : decide ((i : Int) < (l.length : Int)) = true := decp (by omega)
    have hs0 : (s == 0) = false := beq_false_of_ne (by omega)
    have e1 : wrap64 (first + (i : Int)) = first + i := wrap_id (by clear et; omega) (by clear et; omega)
    have el : wrap64 ((l.length : Int) - 1) = (l.length : Int) - 1 := wrap_id (by clear et e1; omega) (by clear et e1; omega)
    have ei := wrap_succ i l.length hlt (by clear et e1 el; omega)
    have hc : decide ((i : Int) < (l.length : Int) - 1) = decide (i + 1 < l.length) := by
      clear et e1 el ei
      rw [Bool.eq_iff_iff]; simp only [decide_eq_true_eq]; omega
    simp only [e1, el, et, ei, hi0, hi1, hs0, hc, rd_at R1 l i hlt, Option.bind_some, Bool.cond_self, Bool.not_false, Bool.or_true, Bool.and_true, cond_true]
    clear e1 et el ei hc
    have hnx : Int.tmod (wrap64 ((first + (i : Int)) % s + 1)) s = (first + (i : Int) + 1) % s := by
      rw [wrap_id (by omega) (by omega), Int.tmod_eq_emod_of_nonneg (by omega)]
      simp
    rw [hnx]
    generalize hx : (first + (i : Int)) % s = x at *
    have e2 : wrap64 ((16 : Int) * x) = 16 * x := wrap_id (by omega) (by omega)
    have e3 : wrap64 (d + 16 * x) = d + 16 * x := wrap_id (by clear e2; omega) (by clear e2; omega)
    simp only [e2, e3]
    clear e2 e3
    have b2 : Go.Ab.bits .or .i64 0 2 = 2 := by decide
    have b3 : Go.Ab.bits .or .i64 2 1 = 3 := by decide
    have b1 : Go.Ab.bits .or .i64 0 1 = 1 := by decide
    have hw : (bif decide (i + 1 < l.length) then Go.Ab.bits .or .i64 (bif l[i].2.2 then Go.Ab.bits .or .i64 0 2 else 0) 1 else (bif l[i].2.2 then Go.Ab.bits .or .i64 0 2 else 0)) = flagsOf l.length i l[i].2.2 := by
      unfold flagsOf
      by_cases hL : i + 1 < l.length
      · rw [decp hL, if_pos hL]
        cases l[i].2.2
        · simp only [cond_true, cond_false, b1]; rfl
        · simp only [cond_true, b2, b3]; rfl
      · rw [decn hL, if_neg hL]
        cases l[i].2.2
        · simp only [cond_false]; rfl
        · simp only [cond_true, cond_false, b2]; rfl
    have hn2 : (bif decide (i + 1 < l.length) then (first + (i : Int) + 1) % s else 0) = nextOf s first l.length i := by
      unfold nextOf
      by_cases hL : i + 1 < l.length
      · rw [decp hL, if_pos hL]; rfl
      · rw [decn hL, if_neg hL]; rfl
    rw [hw, hn2]
    clear hw hn2 hnx
    rw [impl_yset4 m (d + 16 * x) _ _ _ _ hm (by omega) (by omega)]
    simp only [Option.bind_some]
    unfold postOne
    rw [hx]
theorem spec_post (m : ByteArray) (s d a u t g first : Int) (l : List Buf) : spec_PostChain m s d a u t g first l = some (postRes m s d a u t g first l) := by
  unfold spec_PostChain postRes
  by_cases hb : (l.length : Int) > 1000 ∨ (m.size : Int) > 65536
  · have h1 : (decide ((l.length : Int) > 1000) || decide ((m.size : Int) > 65536)) = true := by simpa using hb
    have h2 : (decide ((m.size : Int) > 65536) || decide ((l.length : Int) > 1000)) = true := by rw [Bool.or_comm]; exact h1
    rw [h2, if_pos rfl]
    simp only [h1, cond_true]
  have h1 : (decide ((l.length : Int) > 1000) || decide ((m.size : Int) > 65536)) = false := by simpa using hb
  have h2 : (decide ((m.size : Int) > 65536) || decide ((l.length : Int) > 1000)) = false := by rw [Bool.or_comm]; exact h1
  rw [h2, if_neg (by decide)]
  simp only [h1, cond_false, spec_queue, Option.bind_some]
  cases hq : queueOk m s d a u t g
  · rfl
  obtain ⟨q1, q2, q3, q4, q5, q6, q7, q8, q9, q10, q11, q12, q13, q14⟩ := queue_true hq
  simp only [if_true, bne_self_eq_false, Bool.false_or, Bool.true_and]
  by_cases c : (0 ≤ first ∧ first < s) ∧ (1 ≤ (l.length : Int) ∧ (l.length : Int) ≤ s)
  case neg =>
    have k1 : (decide (first < 0) || decide (first ≥ s) || decide ((l.length : Int) < 1) || decide ((l.length : Int) > s)) = true := by
      simp only [Bool.or_eq_true, decide_eq_true_eq]; omega
    have k2 : (decide (0 ≤ first ∧ first < s) && decide (1 ≤ (l.length : Int) ∧ (l.length : Int) ≤ s)) = false := by
      rw [Bool.and_eq_false_iff]
      by_cases c1 : 0 ≤ first ∧ first < s
      · right; exact decn (fun c2 => c ⟨c1, c2⟩)
      · left; exact decn c1
    rw [k1, k2]
    rfl
  obtain ⟨⟨c1, c2⟩, c3, c4⟩ := c
  rw [decn (show ¬ first < 0 by omega), decn (show ¬ first ≥ s by omega), decn (show ¬ (l.length : Int) < 1 by omega), decn (show ¬ (l.length : Int) > s by omega), decp (show 0 ≤ first ∧ first < s from ⟨c1, c2⟩), decp (show 1 ≤ (l.length : Int) ∧ (l.length : Int) ≤ s from ⟨c3, c4⟩)]
  have w := spec_words m first l (by omega) s d a u t g 0 ByteArray.empty 0 0 0 0 0 0 false l.length K0 0 (by omega) (by rw [K0_eq]; omega)
  rw [List.drop_zero] at w
  have w' : spec_PostChain_l6 K0 m first l 0 s d a u t g 0 ByteArray.empty 0 0 0 0 0 0 false = _ := w
  simp only [Bool.or_false, cond_false, w', Option.bind_some, Bool.true_and]
  cases l.all bufOk
  · rfl
  have v := spec_write s d a u t g first l (by omega) q3 q4 q5 c1 c2 c4 0 ByteArray.empty 0 0 0 0 0 0 false l.length K0 m 0 (by omega) (by rw [K0_eq]; omega) (by omega) (by omega)
  rw [List.drop_zero] at v
  have v' : spec_PostChain_l11 K0 m first l 0 s d a u t g 0 ByteArray.empty 0 0 0 0 0 0 false = _ := v
  simp only [if_true, v', Option.bind_some]
  have hz := mem_size d s first l.length q5 q3 l 0 m q6
  generalize postMem d s first l.length l 0 m = M at hz
  clear w w' v v'
  have r := word_range M (a + 4)
  have et : Int.tmod (word M (a + 4)) 65536 = word M (a + 4) % 65536 := Int.tmod_eq_emod_of_nonneg r.1
  have e4 : wrap64 (a + 4) = a + 4 := wrap_id (by clear et; omega) (by clear et; omega)
  have e8 : wrap64 (a + 8) = a + 8 := wrap_id (by clear et e4; omega) (by clear et e4; omega)
  rw [e4, spec_word M (a + 4) (by clear et e4 e8; omega) (by clear et e4 e8; omega) (by clear et e4 e8; omega)]
  simp only [Option.bind_some, et, e8]
  clear et e4 e8
  unfold postEnd
  have n1 : 0 ≤ word M (a + 4) % 65536 := by omega
  have n2 : word M (a + 4) % 65536 < 65536 := by omega
  generalize word M (a + 4) % 65536 = n at *
  have ex : Int.tmod n s = n % s := Int.tmod_eq_emod_of_nonneg n1
  obtain ⟨x1, x2⟩ := emod_lt (x := n) (s := s) q3
  rw [ex]
  clear ex
  generalize n % s = x at *
  have e1 : wrap64 ((4 : Int) * x) = 4 * x := wrap_id (by omega) (by omega)
  have e2 : wrap64 (a + 8 + 4 * x) = a + 8 + 4 * x := wrap_id (by clear e1; omega) (by clear e1; omega)
  have e3 : wrap64 (n + 1) = n + 1 := wrap_id (by clear e1 e2; omega) (by clear e1 e2; omega)
  have e5 : Int.tmod (n + 1) 65536 = (n + 1) % 65536 := Int.tmod_eq_emod_of_nonneg (by clear e1 e2 e3; omega)
  simp only [e1, e2, e3, e5]
  clear e1 e2 e3 e5
  have p1 := put_size M (a + 8 + 4 * x) first (by omega) (by omega)
  rw [spec_setWord M _ _ (by omega) (by omega) (by omega)]
  simp only [Option.bind_some]
  rw [spec_setWord _ (a + 4) _ (by omega) (by omega) (by omega), show (s == 0) = false from beq_false_of_ne (by omega)]
  rfl
theorem impl_post (m : ByteArray) (s d a u t g first : Int) (l : List Buf) : impl_PostChain m s d a u t g first l = some (postRes m s d a u t g first l) := by
  unfold impl_PostChain postRes
  rw [impl_big1]
  simp only [Option.bind_some]
  by_cases hb : (l.length : Int) > 1000 ∨ (m.size : Int) > 65536
  · have h2 : (decide ((m.size : Int) > 65536) || decide ((l.length : Int) > 1000)) = true := by simp only [Bool.or_eq_true, decide_eq_true_eq]; exact Or.comm.1 hb
    rw [h2, if_pos rfl]
    rfl
  have h2 : (decide ((m.size : Int) > 65536) || decide ((l.length : Int) > 1000)) = false := by rw [Bool.or_eq_false_iff]; exact ⟨decn (fun h => hb (Or.inr h)), decn (fun h => hb (Or.inl h))⟩
  rw [h2, if_neg (by decide)]
  simp only [cond_false, impl_queue, Option.bind_some, yin_eq, impl_words l (by omega), Option.getD_some, Option.isSome_some, Bool.or_true, Bool.and_true, cond_true]
  cases hq : queueOk m s d a u t g
  · rfl
  obtain ⟨q1, q2, q3, q4, q5, q6, q7, q8, q9, q10, q11, q12, q13, q14⟩ := queue_true hq
  simp only [if_true, bne_self_eq_false, Bool.false_or, Bool.true_and]
  rw [wrap_id (x := s - 1) (by omega) (by omega)]
  by_cases c : (0 ≤ first ∧ first < s) ∧ (1 ≤ (l.length : Int) ∧ (l.length : Int) ≤ s)
  case neg =>
    have k1 : (!decide (0 ≤ first ∧ first ≤ s - 1) || decide ((l.length : Int) < 1) || decide ((l.length : Int) > s)) = true := by
      simp only [Bool.or_eq_true, decide_eq_true_eq, Bool.not_eq_true', decide_eq_false_iff_not]; omega
    have k2 : (decide (0 ≤ first ∧ first < s) && decide (1 ≤ (l.length : Int) ∧ (l.length : Int) ≤ s)) = false := by
      rw [Bool.and_eq_false_iff]
      by_cases c1 : 0 ≤ first ∧ first < s
      · right; exact decn (fun c2 => c ⟨c1, c2⟩)
      · left; exact decn c1
    rw [k1, k2]
    rfl
  obtain ⟨⟨c1, c2⟩, c3, c4⟩ := c
  rw [decp (show 0 ≤ first ∧ first ≤ s - 1 by omega), decn (show ¬ (l.length : Int) < 1 by omega), decn (show ¬ (l.length : Int) > s by omega), decp (show 0 ≤ first ∧ first < s from ⟨c1, c2⟩), decp (show 1 ≤ (l.length : Int) ∧ (l.length : Int) ≤ s from ⟨c3, c4⟩)]
  simp only [Bool.not_true, Bool.or_false, Bool.false_or, Bool.true_and]
  cases l.all bufOk
  · rfl
  have v := impl_write s d a u t g first l (by omega) q3 q4 q5 c1 c2 c4 0 ByteArray.empty 0 0 0 0 0 0 false l.length K0 m 0 (by omega) (by rw [K0_eq]; omega) (by omega) (by omega)
  rw [List.drop_zero] at v
  have v' : impl_PostChain_l6 K0 m first l l (l.length : Int) 0 s d a u t g 0 ByteArray.empty 0 0 0 0 0 0 false = _ := v
  simp only [if_true, Bool.not_true, cond_false, v', Option.bind_some]
  have hz := mem_size d s first l.length q5 q3 l 0 m q6
  generalize postMem d s first l.length l 0 m = M at hz
  clear v v'
  have r := word_range M (a + 4)
  have et : Int.tmod (word M (a + 4)) 65536 = word M (a + 4) % 65536 := Int.tmod_eq_emod_of_nonneg r.1
  have e4 : wrap64 (a + 4) = a + 4 := wrap_id (by clear et; omega) (by clear et; omega)
  have e8 : wrap64 (a + 8) = a + 8 := wrap_id (by clear et e4; omega) (by clear et e4; omega)
  rw [e4, impl_word M (a + 4) (by clear et e4 e8; omega) (by clear et e4 e8; omega) (by clear et e4 e8; omega)]
  simp only [Option.bind_some, et, e8]
  clear et e4 e8
  unfold postEnd
  have n1 : 0 ≤ word M (a + 4) % 65536 := by omega
  have n2 : word M (a + 4) % 65536 < 65536 := by omega
  generalize word M (a + 4) % 65536 = n at *
  have ex : Int.tmod n s = n % s := Int.tmod_eq_emod_of_nonneg n1
  obtain ⟨x1, x2⟩ := emod_lt (x := n) (s := s) q3
  rw [ex]
  clear ex
  generalize n % s = x at *
  have e1 : wrap64 ((4 : Int) * x) = 4 * x := wrap_id (by omega) (by omega)
  have e2 : wrap64 (a + 8 + 4 * x) = a + 8 + 4 * x := wrap_id (by clear e1; omega) (by clear e1; omega)
  have e3 : wrap64 (n + 1) = n + 1 := wrap_id (by clear e1 e2; omega) (by clear e1 e2; omega)
  have e5 : Int.tmod (n + 1) 65536 = (n + 1) % 65536 := Int.tmod_eq_emod_of_nonneg (by clear e1 e2 e3; omega)
  simp only [e1, e2, e3, e5]
  clear e1 e2 e3 e5
  have p1 := put_size M (a + 8 + 4 * x) first (by omega) (by omega)
  rw [impl_yset1 M _ _ (by omega) (by omega) (by omega)]
  simp only [Option.bind_some]
  rw [impl_yset1 _ (a + 4) _ (by omega) (by omega) (by omega), show (s == 0) = false from beq_false_of_ne (by omega)]
  rfl
theorem u8w (n : Int) : (((UInt8.ofNat (IntKind.u8.wrap n).toNat).toNat : Nat) : Int) = n % 256 := by
  rw [IntKind.wrap_u8, UInt8.toNat_ofNat']
  have := Int.emod_nonneg n (show (256 : Int) ≠ 0 by decide)
  have := Int.emod_lt_of_pos n (show (0 : Int) < 256 by decide)
  omega
theorem shr_div (x : Int) (h : 0 ≤ x) (k : Nat) (hk : k ≤ 64) : shr .i64 x (k : Int) = x / 2 ^ k := by
  unfold shr
  rw [Int.toNat_natCast, show min k IntKind.i64.bits = k from Nat.min_eq_left hk, Int.fdiv_eq_ediv_of_nonneg _ (Int.le_of_lt (Int.pow_pos (by decide)))]
theorem word_self (m : ByteArray) (a n : Int) (h0 : 0 ≤ a) (h1 : a + 4 ≤ m.size) (n0 : 0 ≤ n) (n1 : n < 4294967296) : word (put m a n) a = n := by
  rw [word_put m a n h0 h1]
  have e : n % 4294967296 = n := by omega
  have g0 : (s2b (wb n)).getD 0 0 = n % 256 := by
    have : (s2b (wb n)).getD 0 0 = (((UInt8.ofNat (IntKind.u8.wrap (n % 4294967296)).toNat).toNat : Nat) : Int) := rfl
    rw [this, u8w, e]
  have g1 : (s2b (wb n)).getD 1 0 = n / 2 ^ 8 % 256 := by
    have : (s2b (wb n)).getD 1 0 = (((UInt8.ofNat (IntKind.u8.wrap (shr .i64 (n % 4294967296) ((8 : Nat) : Int))).toNat).toNat : Nat) : Int) := rfl
    rw [this, u8w, e, shr_div n n0 8 (by decide)]
  have g2 : (s2b (wb n)).getD 2 0 = n / 2 ^ 16 % 256 := by
    have : (s2b (wb n)).getD 2 0 = (((UInt8.ofNat (IntKind.u8.wrap (shr .i64 (n % 4294967296) ((16 : Nat) : Int))).toNat).toNat : Nat) : Int) := rfl
    rw [this, u8w, e, shr_div n n0 16 (by decide)]
  have g3 : (s2b (wb n)).getD 3 0 = n / 2 ^ 24 % 256 := by
    have : (s2b (wb n)).getD 3 0 = (((UInt8.ofNat (IntKind.u8.wrap (shr .i64 (n % 4294967296) ((24 : Nat) : Int))).toNat).toNat : Nat) : Int) := rfl
    rw [this, u8w, e, shr_div n n0 24 (by decide)]
  rw [g0, g1, g2, g3]
  omega
theorem put4_other (m : ByteArray) (x a b c e y : Int) (h0 : 0 ≤ x) (h1 : x + 16 ≤ m.size) (hy : 0 ≤ y) (h : y + 4 ≤ x ∨ x + 16 ≤ y) : word (put4 m x a b c e) y = word m y := by
  have p1 := put_size m x a h0 (by omega)
  have p2 := put_size (put m x a) (x + 4) b (by omega) (by omega)
  have p3 := put_size (put (put m x a) (x + 4) b) (x + 8) c (by omega) (by omega)
  unfold put4
  rw [word_other _ _ _ _ (by omega) (by omega) hy (by omega), word_other _ _ _ _ (by omega) (by omega) hy (by omega), word_other _ _ _ _ (by omega) (by omega) hy (by omega), word_other _ _ _ _ (by omega) (by omega) hy (by omega)]
theorem put4_self (m : ByteArray) (x a b c e : Int) (h0 : 0 ≤ x) (h1 : x + 16 ≤ m.size) (ha : 0 ≤ a ∧ a < 4294967296) (hb : 0 ≤ b ∧ b < 4294967296) (hc : 0 ≤ c ∧ c < 4294967296) (he : 0 ≤ e ∧ e < 4294967296) :
    word (put4 m x a b c e) x = a ∧ word (put4 m x a b c e) (x + 4) = b ∧ word (put4 m x a b c e) (x + 8) = c ∧ word (put4 m x a b c e) (x + 12) = e := by
  have p1 := put_size m x a h0 (by omega)
  have p2 := put_size (put m x a) (x + 4) b (by omega) (by omega)
  have p3 := put_size (put (put m x a) (x + 4) b) (x + 8) c (by omega) (by omega)
  unfold put4
  refine ⟨?_, ?_, ?_, ?_⟩
  · rw [word_other _ _ _ _ (by omega) (by omega) h0 (by omega), word_other _ _ _ _ (by omega) (by omega) h0 (by omega), word_other _ _ _ _ (by omega) (by omega) h0 (by omega), word_self _ _ _ h0 (by omega) ha.1 ha.2]
  · rw [word_other _ _ _ _ (by omega) (by omega) (by omega) (by omega), word_other _ _ _ _ (by omega) (by omega) (by omega) (by omega), word_self _ _ _ (by omega) (by omega) hb.1 hb.2]
  · rw [word_other _ _ _ _ (by omega) (by omega) (by omega) (by omega), word_self _ _ _ (by omega) (by omega) hc.1 hc.2]
  · rw [word_self _ _ _ (by omega) (by omega) he.1 he.2]
theorem mem_other (d s first : Int) (n : Nat) (hd : 0 ≤ d) (h1 : 1 ≤ s) (y : Int) (hy : 0 ≤ y) (bs : List Buf) : ∀ (i : Nat) (m : ByteArray), d + 16 * s ≤ m.size → (∀ j : Nat, i ≤ j → j < i + bs.length → y + 4 ≤ d + 16 * ((first + j) % s) ∨ d + 16 * ((first + j) % s) + 16 ≤ y) → word (postMem d s first n bs i m) y = word m y := by
  induction bs with
  | nil => intro i m _ _; rfl
  | cons b bs ih =>
    intro i m h2 h
    have hz := one_size d s first n i b m hd h1 h2
    obtain ⟨t1, t2⟩ := emod_lt (x := first + i) (s := s) h1
    rw [postMem, ih (i + 1) _ (by omega) (fun j j1 j2 => h j (by omega) (by simp only [List.length_cons]; omega))]
    unfold postOne
    exact put4_other _ _ _ _ _ _ _ (by omega) (by omega) hy (h i (Nat.le_refl i) (by simp only [List.length_cons]; omega))
theorem slots_apart (first s : Int) (i j : Nat) (h : i < j) (h2 : (j : Int) - i < s) : (first + i) % s ≠ (first + j) % s := by
  intro e
  have h3 := Int.emod_eq_emod_iff_emod_sub_eq_zero.1 e
  obtain ⟨c, hc⟩ := Int.dvd_of_emod_eq_zero h3
  by_cases h0 : 0 ≤ c
  · have := Int.mul_nonneg (show 0 ≤ s by omega) h0
    omega
  · have := Int.mul_le_mul_of_nonneg_left (show c ≤ -1 by omega) (show 0 ≤ s by omega)
    omega
theorem bufOk_iff {b : Buf} (h : bufOk b = true) : (0 ≤ b.1 ∧ b.1 < 4294967296) ∧ (0 ≤ b.2.1 ∧ b.2.1 < 4294967296) := by
  unfold bufOk isW at h
  simp only [Bool.and_eq_true, decide_eq_true_eq] at h
  omega
theorem flags_le (n i : Nat) (w : Bool) : 0 ≤ flagsOf n i w ∧ flagsOf n i w < 4294967296 := by
  unfold flagsOf
  cases w <;> by_cases h : i + 1 < n <;> simp [h]
theorem next_le (s first : Int) (n i : Nat) (h1 : 1 ≤ s) (h2 : s ≤ 16) : 0 ≤ nextOf s first n i ∧ nextOf s first n i < 4294967296 := by
  obtain ⟨t1, t2⟩ := emod_lt (x := first + i + 1) (s := s) h1
  unfold nextOf
  split <;> omega
noncomputable def IsDesc (M : ByteArray) (x : Int) (b : Buf) (f nx : Int) : Prop := word M x = b.1 ∧ word M (x + 4) = b.2.1 ∧ word M (x + 8) = f ∧ word M (x + 12) = nx
theorem mem_get (d s first : Int) (n : Nat) (hd : 0 ≤ d) (h1 : 1 ≤ s) (h2 : s ≤ 16) (hn : (n : Int) ≤ s) (bs : List Buf) : ∀ (i : Nat) (m : ByteArray), i + bs.length = n → d + 16 * s ≤ m.size → bs.all bufOk = true →
    ∀ k (hk : k < bs.length), IsDesc (postMem d s first n bs i m) (d + 16 * ((first + (i + k : Nat)) % s)) bs[k] (flagsOf n (i + k) bs[k].2.2) (nextOf s first n (i + k)) := by
  induction bs with
  | nil => intro i m _ _ _ k hk; simp at hk
  | cons b bs ih =>
    intro i m hi h3 hok k hk
    simp only [List.length_cons] at hi hk
    rw [List.all_cons, Bool.and_eq_true] at hok
    have hz := one_size d s first n i b m hd h1 h3
    obtain ⟨t1, t2⟩ := emod_lt (x := first + i) (s := s) h1
    cases k with
    | succ k =>
      have := ih (i + 1) (postOne d s first n i b m) (by omega) (by omega) hok.2 k (by omega)
      rw [show i + (k + 1) = i + 1 + k by omega]
      exact this
    | zero =>
      rw [Nat.add_zero]
      obtain ⟨b1, b2⟩ := bufOk_iff hok.1
      obtain ⟨w1, w2, w3, w4⟩ := put4_self m (d + 16 * ((first + i) % s)) b.1 b.2.1 (flagsOf n i b.2.2) (nextOf s first n i) (by omega) (by omega) b1 b2 (flags_le _ _ _) (next_le _ _ _ _ h1 h2)
      have ap : ∀ (o : Int), 0 ≤ o → o ≤ 12 → word (postMem d s first n bs (i + 1) (postOne d s first n i b m)) (d + 16 * ((first + i) % s) + o) = word (postOne d s first n i b m) (d + 16 * ((first + i) % s) + o) := by
        intro o o1 o2
        refine mem_other d s first n hd h1 _ (by omega) bs (i + 1) _ (by omega) (fun j j1 j2 => ?_)
        have := slots_apart first s i j (by omega) (by omega)
        omega
      have a0 := ap 0 (by omega) (by omega)
      rw [Int.add_zero] at a0
      show IsDesc (postMem d s first n bs (i + 1) (postOne d s first n i b m)) _ b _ _
      refine ⟨?_, ?_, ?_, ?_⟩
      · rw [a0]; exact w1
      · rw [ap 4 (by omega) (by omega)]; exact w2
      · rw [ap 8 (by omega) (by omega)]; exact w3
      · rw [ap 12 (by omega) (by omega)]; exact w4
/-- What reading posted buffers answers. -/
noncomputable def chk (m : ByteArray) : List Buf → List Buf → Chain
  | done, [] => (0, done, ())
  | done, b :: bs => if bufCode m done b.1 b.2.1 b.2.2 = 0 then chk m (done ++ [b]) bs else (bufCode m done b.1 b.2.1 b.2.2, [], ())
theorem chk_size (m m' : ByteArray) (h : m'.size = m.size) (bs : List Buf) : ∀ done, chk m' done bs = chk m done bs := by
  induction bs with
  | nil => intro done; rfl
  | cons b bs ih =>
    intro done
    have e : bufCode m' done b.1 b.2.1 b.2.2 = bufCode m done b.1 b.2.1 b.2.2 := by unfold bufCode; rw [h]
    simp only [chk, e, ih]
theorem chk_all (m : ByteArray) (bs : List Buf) : ∀ done, (chk m done bs).1 = 0 → (chk m done bs).2.1 = done ++ bs := by
  induction bs with
  | nil => intro done _; simp [chk]
  | cons b bs ih =>
    intro done h
    by_cases c : bufCode m done b.1 b.2.1 b.2.2 = 0
    · rw [chk, if_pos c] at h ⊢
      rw [ih _ h]; simp
    · rw [chk, if_neg c] at h
      exact absurd h c
theorem flag_4 (n i : Nat) (w : Bool) : flag (flagsOf n i w) 4 = false := by
  unfold flagsOf
  cases w <;> by_cases h : i + 1 < n <;> simp only [h, if_true, if_false, Bool.false_eq_true] <;> decide
theorem flag_2 (n i : Nat) (w : Bool) : flag (flagsOf n i w) 2 = w := by
  unfold flagsOf
  cases w <;> by_cases h : i + 1 < n <;> simp only [h, if_true, if_false, Bool.false_eq_true] <;> decide
theorem flag_1 (n i : Nat) (w : Bool) : flag (flagsOf n i w) 1 = decide (i + 1 < n) := by
  unfold flagsOf
  cases w <;> by_cases h : i + 1 < n <;> simp only [h, if_true, if_false, Bool.false_eq_true] <;> decide
theorem read_posted (M : ByteArray) (d s first : Int) (l : List Buf) (hM : M.size ≤ 65536) (hd : 0 ≤ d) (h1 : 1 ≤ s) (h2 : s ≤ 16) (h3 : d + 16 * s ≤ M.size) (hn : (l.length : Int) ≤ s)
    (F : ∀ k (hk : k < l.length), IsDesc M (d + 16 * ((first + k) % s)) l[k] (flagsOf l.length k l[k].2.2) (nextOf s first l.length k)) (z : Int) :
    ∀ (e k n : Nat), k + (e + 1) = l.length → e < n → spec_ReadChain_l11 n M d s false ((first + k) % s) (k : Int) z 0 (l.take k) = some (chk M (l.take k) (l.drop k)) := by
  intro e
  induction e with
  | zero =>
    intro k n hk hf
    obtain ⟨n, rfl⟩ : ∃ q, n = q + 1 := ⟨n - 1, by omega⟩
    have hlt : k < l.length := by omega
    obtain ⟨t1, t2⟩ := emod_lt (x := first + k) (s := s) h1
    obtain ⟨f1, f2, f3, f4⟩ := F k hlt
    show spec_ReadChain_l11_step (spec_ReadChain_l11 n) M d s false ((first + k) % s) (k : Int) z 0 (l.take k) = _
    rw [spec_stp _ M d s false _ _ z _ hM t1 (by omega) (by omega) h2 hd h3 (by rw [List.length_take]; omega)]
    unfold stp
    simp only [if_neg (show ¬ (first + (k : Int)) % s ≥ s by omega), if_neg (show ¬ (k : Int) + 1 > s by omega), f1, f2, f3, f4, flag_4, flag_2, flag_1, Bool.false_eq_true, if_false]
    rw [List.drop_eq_getElem_cons hlt, List.drop_eq_nil_of_le (by omega : l.length ≤ k + 1), chk]
    by_cases c : bufCode M (l.take k) l[k].1 l[k].2.1 l[k].2.2 = 0
    · rw [if_pos c, if_pos c, decn (show ¬ k + 1 < l.length by omega), if_neg (by decide)]
      rfl
    · rw [if_neg c, if_neg c]
  | succ e ih =>
    intro k n hk hf
    obtain ⟨n, rfl⟩ : ∃ q, n = q + 1 := ⟨n - 1, by omega⟩
    have hlt : k < l.length := by omega
    have IH := ih (k + 1) n (by omega) (by omega)
    obtain ⟨t1, t2⟩ := emod_lt (x := first + k) (s := s) h1
    obtain ⟨f1, f2, f3, f4⟩ := F k hlt
    show spec_ReadChain_l11_step (spec_ReadChain_l11 n) M d s false ((first + k) % s) (k : Int) z 0 (l.take k) = _
    rw [spec_stp _ M d s false _ _ z _ hM t1 (by omega) (by omega) h2 hd h3 (by rw [List.length_take]; omega)]
    unfold stp
    simp only [if_neg (show ¬ (first + (k : Int)) % s ≥ s by omega), if_neg (show ¬ (k : Int) + 1 > s by omega), f1, f2, f3, f4, flag_4, flag_2, flag_1, Bool.false_eq_true, if_false]
    rw [List.drop_eq_getElem_cons hlt, chk]
    by_cases c : bufCode M (l.take k) l[k].1 l[k].2.1 l[k].2.2 = 0
    · rw [if_pos c, if_pos c, decp (show k + 1 < l.length by omega), if_pos rfl]
      have hx : nextOf s first l.length k = (first + ((k + 1 : Nat) : Int)) % s := by
        unfold nextOf
        rw [if_pos (show k + 1 < l.length by omega)]
        congr 1
        omega
      have ht : l.take k ++ [(l[k].1, l[k].2.1, l[k].2.2)] = l.take (k + 1) := by
        rw [List.take_succ_eq_append_getElem hlt]
      rw [hx, ht, show (k : Int) + 1 = ((k + 1 : Nat) : Int) by omega]
      exact IH
    · rw [if_neg c, if_neg c]
theorem u64_range (x : Int) : 0 ≤ IntKind.u64.wrap x ∧ IntKind.u64.wrap x < 18446744073709551616 := by
  have e : IntKind.u64.wrap x = x % 18446744073709551616 := rfl
  rw [e]
  omega
theorem u64_id {x : Int} (h0 : 0 ≤ x) (h1 : x < 18446744073709551616) : IntKind.u64.wrap x = x := by
  have e : IntKind.u64.wrap x = x % 18446744073709551616 := rfl
  rw [e]
  omega
/-- A number below k out of a source. -/
theorem src_n (c : List Int) (at_ st size k : Int) (ha : 0 ≤ at_) (hk : k ≤ 4611686018427387904) (hc : c.length ≤ 1048576) : ∃ r at' st', spec_l01Src_n_v2 c at_ st size k = some (r, c, at', st', size, ()) ∧ 0 ≤ r ∧ (1 < k → r < k) ∧ (k ≤ 1 → r = 0) ∧ 0 ≤ at' := by
  unfold spec_l01Src_n_v2
  by_cases h : k ≤ 1
  · rw [decp h]
    exact ⟨0, at_, st, rfl, by omega, by omega, fun _ => rfl, ha⟩
  rw [decn h]
  simp only [cond_false, Bool.cond_self, decp (show (0 : Int) ≤ 13 by decide), decp (show (0 : Int) ≤ 7 by decide), decp (show (0 : Int) ≤ 17 by decide), decp (show (0 : Int) ≤ 20 by decide), cond_true, Bool.true_and]
  have hu : IntKind.u64.wrap k = k := u64_id (by omega) (by omega)
  rw [hu, show (k == 0) = false from beq_false_of_ne (by omega)]
  generalize hx : IntKind.u64.wrap ((bif decide (at_ < (c.length : Int)) then IntKind.u64.wrap (rd (.int .u8) c at_) else 0) + shr .u64 (bits .xor .u64 (bits .xor .u64 (bits .xor .u64 st (shl .u64 st 13)) (shr .u64 (bits .xor .u64 st (shl .u64 st 13)) 7)) (shl .u64 (bits .xor .u64 (bits .xor .u64 st (shl .u64 st 13)) (shr .u64 (bits .xor .u64 st (shl .u64 st 13)) 7)) 17)) 20) = X
  have hX : 0 ≤ X := by rw [← hx]; exact (u64_range _).1
  have h1 : 0 ≤ Int.tmod X k := by rw [Int.tmod_eq_emod_of_nonneg hX]; exact Int.emod_nonneg _ (by omega)
  have h2 : Int.tmod X k < k := by rw [Int.tmod_eq_emod_of_nonneg hX]; exact Int.emod_lt_of_pos _ (by omega)
  have hw : wrap64 (Int.tmod X k) = Int.tmod X k := wrap_id (by omega) (by omega)
  rw [hw]
  clear hx hw
  by_cases hb : at_ < (c.length : Int)
  · rw [decp hb, decp ha]
    refine ⟨_, _, _, rfl, h1, fun _ => h2, fun h' => absurd h' h, ?_⟩
    show 0 ≤ wrap64 (at_ + 1)
    rw [wrap_id (by omega) (by omega)]
    omega
  · rw [decn hb]
    exact ⟨_, _, _, rfl, h1, fun _ => h2, fun h' => absurd h' h, ha⟩
theorem src_one (c : List Int) (at_ st size k : Int) (ha : 0 ≤ at_) (hk : k ≤ 4611686018427387904) (hc : c.length ≤ 1048576) : ∃ b at' st', spec_l01Src_one_v2 c at_ st size k = some (b, c, at', st', size, ()) ∧ 0 ≤ at' := by
  unfold spec_l01Src_one_v2
  obtain ⟨r, at', st', e, _, _, _, h⟩ := src_n c at_ st size k ha hk hc
  rw [e]
  exact ⟨_, _, _, rfl, h⟩
theorem wrap_i (i n : Nat) (h : i < n) (hn : n ≤ 9223372036854775807) : wrap64 ((i : Int) + 1) = ((i + 1 : Nat) : Int) := by
  rw [w64_eq]; unfold RowKit.wrap64; omega
theorem src_source (c : List Int) (hc : c.length ≤ 1048576) : ∃ st size, spec_l01Source_v3 c = some (c, 0, st, size, ()) ∧ 0 ≤ size ∧ size ≤ 12 := by
  have key : ∀ (d f i : Nat) (st : Int), i + d = c.length → d < f → ∃ st', spec_l01Source_v3_l3 f c (i : Int) c 0 st 0 = some (c, c, 0, st', 0, ()) := by
    intro d
    induction d with
    | zero =>
      intro f i st hi hf
      obtain ⟨f, rfl⟩ : ∃ q, f = q + 1 := ⟨f - 1, by omega⟩
      show ∃ st', spec_l01Source_v3_l3_step (spec_l01Source_v3_l3 f) c (i : Int) c 0 st 0 = _
      unfold spec_l01Source_v3_l3_step
      rw [decn (show ¬ (i : Int) < (c.length : Int) by omega)]
      exact ⟨st, rfl⟩
    | succ d ih =>
      intro f i st hi hf
      obtain ⟨f, rfl⟩ : ∃ q, f = q + 1 := ⟨f - 1, by omega⟩
      show ∃ st', spec_l01Source_v3_l3_step (spec_l01Source_v3_l3 f) c (i : Int) c 0 st 0 = _
      unfold spec_l01Source_v3_l3_step
      rw [decp (show (i : Int) < (c.length : Int) by omega), decp (show (0 : Int) ≤ (i : Int) by omega), wrap_i i c.length (by omega) (by omega)]
      by_cases h : (i : Int) < 64
      · rw [decp h]
        exact ih f (i + 1) _ (by omega) (by omega)
      · rw [decn h]
        exact ⟨st, rfl⟩
  unfold spec_l01Source_v3
  obtain ⟨st', e⟩ := key c.length K0 0 88172645463325252 (by omega) (by rw [K0_eq]; omega)
  have e' : spec_l01Source_v3_l3 K0 c 0 c 0 88172645463325252 0 = _ := e
  rw [e']
  simp only [Option.bind_some, Bool.cond_self]
  refine ⟨st', _, rfl, ?_, ?_⟩
  · cases h : decide ((c.length : Int) > 12)
    · show 0 ≤ (c.length : Int); omega
    · show (0 : Int) ≤ 12; decide
  · cases h : decide ((c.length : Int) > 12)
    · have := of_decide_eq_false h
      show (c.length : Int) ≤ 12; omega
    · show (12 : Int) ≤ 12; decide
theorem cond_le {b : Bool} {x y : Int} (h1 : 0 ≤ x) (h2 : 0 ≤ y) : 0 ≤ (bif b then x else y) := by cases b <;> assumption
theorem b2s_size' (l : List Int) : (b2s l).size = l.length := by unfold b2s; show (List.toArray _).size = _; simp
theorem fr_loop (c : List Int) (hc : c.length ≤ 1048576) (size : Int) : ∀ (d f : Nat) (y0 : Int) (b : List Int) (at_ st : Int), y0 = (d : Int) → d < f → d ≤ 100 → b.length = 1280 → 0 ≤ at_ →
    ∃ b' at' st', spec_l01Src_frames_v2_l3 f y0 c at_ st size b = some (c, at', st', size, b', ()) ∧ List.length b' = 1280 ∧ 0 ≤ at' := by
  intro d
  induction d with
  | zero =>
    intro f y0 b at_ st hy hf hd hb ha
    obtain ⟨f, rfl⟩ : ∃ q, f = q + 1 := ⟨f - 1, by omega⟩
    show ∃ b' at' st', spec_l01Src_frames_v2_l3_step (spec_l01Src_frames_v2_l3 f) y0 c at_ st size b = _ ∧ _
    unfold spec_l01Src_frames_v2_l3_step
    rw [decn (show ¬ y0 > 0 by omega)]
    exact ⟨b, at_, st, rfl, hb, ha⟩
  | succ d ih =>
    intro f y0 b at_ st hy hf hd hb ha
    obtain ⟨f, rfl⟩ : ∃ q, f = q + 1 := ⟨f - 1, by omega⟩
    show ∃ b' at' st', spec_l01Src_frames_v2_l3_step (spec_l01Src_frames_v2_l3 f) y0 c at_ st size b = _ ∧ _
    unfold spec_l01Src_frames_v2_l3_step
    rw [decp (show y0 > 0 by omega)]
    obtain ⟨n1, a1, s1, e1, n1a, n1b, _, h1⟩ := src_n c at_ st size (b.length : Int) ha (by omega) hc
    have n1c := n1b (by omega)
    obtain ⟨n2, a2, s2, e2, _, _, _, h2⟩ := src_n c a1 s1 size 256 h1 (by decide) hc
    simp only [e1, e2, Option.bind_some, cond_true]
    rw [decp n1a, decp n1c, wrap_id (x := y0 - 1) (by omega) (by omega)]
    simp only [Bool.and_true, cond_true]
    exact ih f (y0 - 1) _ _ _ (by omega) (by omega) (by omega) (by rw [List.length_set]; exact hb) h2
theorem fr_all (c : List Int) (hc : c.length ≤ 1048576) (at_ st size : Int) (ha : 0 ≤ at_) : ∃ m at' st', spec_l01Src_frames_v2 c at_ st size 5 = some (m, c, at', st', size, ()) ∧ ByteArray.size m = 1280 ∧ 0 ≤ at' := by
  unfold spec_l01Src_frames_v2
  have w : wrap64 (5 * 256) = 1280 := wrap_id (by decide) (by decide)
  rw [w, roomy_ok (by decide)]
  clear w
  obtain ⟨n1, a1, s1, e1, n1a, n1b, _, h1⟩ := src_n c at_ st size 6 ha (by decide) hc
  have n1c := n1b (by decide)
  obtain ⟨b, a2, s2, e2, h2, h3⟩ := fr_loop c hc size n1.toNat K0 n1 (List.replicate (1280 : Int).toNat (Ty.dflt (.int .u8))) a1 s1 (by omega) (by rw [K0_eq]; omega) (by omega) (by rw [List.length_replicate]; rfl) h1
  simp only [e1, e2, Option.bind_some]
  exact ⟨b2s b, a2, s2, rfl, by rw [b2s_size', h2], h3⟩
theorem set_ok (m : ByteArray) (a n : Int) (hm : m.size = 1280) (h0 : 0 ≤ a) (h1 : a + 4 ≤ 1280) : ∃ m', spec_SetWord m a n = some (m', ()) ∧ ByteArray.size m' = 1280 :=
  ⟨put m a n, spec_setWord m a n (by omega) h0 (by omega), by rw [put_size m a n h0 (by omega), hm]⟩
theorem rd3 (n : Int) (h0 : 0 ≤ n) (h : n < 4) : 1 ≤ rd (.int .i64) ([4, 8, 2, 1] : List Int) n ∧ rd (.int .i64) ([4, 8, 2, 1] : List Int) n ≤ 8 := by
  rcases (show n = 0 ∨ n = 1 ∨ n = 2 ∨ n = 3 by omega) with rfl | rfl | rfl | rfl <;> exact ⟨by decide, by decide⟩
theorem q_in (c : List Int) (hc : c.length ≤ 1048576) (at_ st size : Int) (ha : 0 ≤ at_) : ∃ m s t g at' st', spec_l01Src_queueIn_v2 c at_ st size = some (m, s, 0, 128, 176, t, g, c, at', st', size, ()) ∧ ByteArray.size m = 1280 ∧ (1 ≤ s ∧ s ≤ 8) ∧ 0 ≤ at' := by
  unfold spec_l01Src_queueIn_v2
  obtain ⟨n1, a1, s1, e1, n1a, n1b, _, h1⟩ := src_n c at_ st size 4 ha (by decide) hc
  have n1c := n1b (by decide)
  obtain ⟨n2, a2, s2, e2, n2a, n2b, _, h2⟩ := src_n c a1 s1 size 3 h1 (by decide) hc
  have n2c := n2b (by decide)
  obtain ⟨n3, a3, s3, e3, n3a, n3b, _, h3⟩ := src_n c a2 s2 size 3 h2 (by decide) hc
  have n3c := n3b (by decide)
  obtain ⟨m, a4, s4, e4, hm, h4⟩ := fr_all c hc a3 s3 size h3
  obtain ⟨n5, a5, s5, e5, _, _, _, h5⟩ := src_n c a4 s4 size 2 h4 (by decide) hc
  obtain ⟨m6, e6, hm6⟩ := set_ok m 128 n5 hm (by decide) (by decide)
  obtain ⟨m7, e7, hm7⟩ := set_ok m6 132 (rd (.int .i64) ([0, 3, 65535] : List Int) n2) hm6 (by decide) (by decide)
  simp only [e1, e2, e3, Option.bind_some]
  rw [decp n1a, decp (show n1 < (([4, 8, 2, 1] : List Int).length : Int) from n1c), decp n2a, decp (show n2 < (([0, 3, 65535] : List Int).length : Int) from n2c), decp n3a, decp (show n3 < (([0, 5, 65535] : List Int).length : Int) from n3c)]
  simp only [Bool.and_true, cond_true, e4, e5, e6, e7, Option.bind_some]
  exact ⟨_, _, _, _, _, _, rfl, hm7, rd3 n1 n1a n1c, h5⟩
theorem bufs_loop (c : List Int) (hc : c.length ≤ 1048576) (size y0 : Int) (hy : y0 ≤ 100) : ∀ (d f i : Nat) (bs : List V1) (at_ st : Int), y0 = (i : Int) + d → d < f → bs.length = i → 0 ≤ at_ →
    ∃ bs' at' st', spec_l01Src_bufs_v2_l3 f y0 (i : Int) c at_ st size bs = some (c, at', st', size, bs', ()) ∧ ((List.length bs' : Nat) : Int) = y0 ∧ 0 ≤ at' := by
  intro d
  induction d with
  | zero =>
    intro f i bs at_ st hi hf hb ha
    obtain ⟨f, rfl⟩ : ∃ q, f = q + 1 := ⟨f - 1, by omega⟩
    show ∃ bs' at' st', spec_l01Src_bufs_v2_l3_step (spec_l01Src_bufs_v2_l3 f) y0 (i : Int) c at_ st size bs = _ ∧ _
    unfold spec_l01Src_bufs_v2_l3_step
    rw [decn (show ¬ (i : Int) < y0 by omega)]
    exact ⟨bs, at_, st, rfl, by omega, ha⟩
  | succ d ih =>
    intro f i bs at_ st hi hf hb ha
    obtain ⟨f, rfl⟩ : ∃ q, f = q + 1 := ⟨f - 1, by omega⟩
    show ∃ bs' at' st', spec_l01Src_bufs_v2_l3_step (spec_l01Src_bufs_v2_l3 f) y0 (i : Int) c at_ st size bs = _ ∧ _
    unfold spec_l01Src_bufs_v2_l3_step
    rw [decp (show (i : Int) < y0 by omega)]
    obtain ⟨n1, a1, s1, e1, n1a, n1b, _, h1⟩ := src_n c at_ st size 11 ha (by decide) hc
    obtain ⟨n2, a2, s2, e2, n2a, n2b, _, h2⟩ := src_n c a1 s1 size 6 h1 (by decide) hc
    have n2c := n2b (by decide)
    obtain ⟨b3, a3, s3, e3, h3⟩ := src_one c a2 s2 size 2 h2 (by decide) hc
    generalize hB : decide ((i : Int) > 0) = B
    obtain ⟨b4, a4, s4, e4, h4⟩ := src_one c (bif B then a3 else a2) (bif B then s3 else s2) size 10 (cond_le h3 h2) (by decide) hc
    generalize hC : (decide ((bs.length : Int) > 0) && (rd R1 bs (wrap64 ((bs.length : Int) - 1))).2.2) = C
    obtain ⟨b5, a5, s5, e5, h5⟩ := src_one c (bif C then a4 else (bif B then a3 else a2)) (bif C then s4 else (bif B then s3 else s2)) size 25 (cond_le h4 (cond_le h3 h2)) (by decide) hc
    obtain ⟨n6, a6, s6, e6, n6a, n6b, _, h6⟩ := src_n c a5 s5 size 4 h5 (by decide) hc
    have n6c := n6b (by decide)
    have hlen : (!decide ((bs.length : Int) > 0) || (decide (0 ≤ wrap64 ((bs.length : Int) - 1)) && decide (wrap64 ((bs.length : Int) - 1) < (bs.length : Int)))) = true := (lastW_eq bs (by omega)).2
    have l4 : ∀ x y z w : Int, decide (n6 < (([x, y, z, w] : List Int).length : Int)) = true := fun x y z w => decp (show n6 < (4 : Int) from n6c)
    have l6 : ∀ x y z w v u : Int, decide (n2 < (([x, y, z, w, v, u] : List Int).length : Int)) = true := fun x y z w v u => decp (show n2 < (6 : Int) from n2c)
    have rm : ∀ t : V1, roomy ((bs.length : Int) + (([t] : List V1).length : Int)) 24 = true := fun t => roomy_ok (by simp; omega)
    have wi : wrap64 ((i : Int) + 1) = ((i + 1 : Nat) : Int) := wrap_i i (i + 1) (by omega) (by omega)
    simp only [e1, e2, e3, hB, e4, hC, e5, e6, hlen, l4, l6, rm, wi, decp n2a, decp n6a, Option.bind_some, Option.getD_some, Option.isSome_some, Bool.cond_self, Bool.or_true, Bool.and_true, cond_true]
    exact ih f (i + 1) _ _ _ (by clear wi; omega) (by omega) (by simp; omega) (cond_le h6 h5)
theorem bufs_all (c : List Int) (hc : c.length ≤ 1048576) (at_ st size n : Int) (ha : 0 ≤ at_) (hn : 0 ≤ n) (hn2 : n ≤ 100) : ∃ bs at' st', spec_l01Src_bufs_v2 c at_ st size n = some (bs, c, at', st', size, ()) ∧ ((List.length bs : Nat) : Int) = n ∧ 0 ≤ at' := by
  unfold spec_l01Src_bufs_v2
  obtain ⟨bs, a1, s1, e1, h1, h2⟩ := bufs_loop c hc size n hn2 n.toNat K0 0 [] at_ st (by omega) (by rw [K0_eq]; omega) rfl ha
  have e1' : spec_l01Src_bufs_v2_l3 K0 n 0 c at_ st size [] = _ := e1
  simp only [e1', Option.bind_some]
  exact ⟨bs, a1, s1, rfl, h1, h2⟩
theorem post_size (m : ByteArray) (s d a u t g first : Int) (l : List Buf) (h : (postRes m s d a u t g first l).1 = 0) : (postRes m s d a u t g first l).2.1.size = m.size := by
  unfold postRes at h ⊢
  by_cases c1 : (decide ((m.size : Int) > 65536) || decide ((l.length : Int) > 1000)) = true
  · rw [if_pos c1] at h; exact absurd h (by decide)
  rw [if_neg c1] at h ⊢
  by_cases c2 : (queueOk m s d a u t g && decide (0 ≤ first ∧ first < s) && decide (1 ≤ (l.length : Int) ∧ (l.length : Int) ≤ s) && l.all bufOk) = true
  · rw [if_pos c2]
    simp only [Bool.and_eq_true] at c2
    obtain ⟨q1, q2, q3, q4, q5, q6, q7, q8, q9, q10, q11, q12, q13, q14⟩ := queue_true c2.1.1.1
    have hz := mem_size d s first l.length q5 q3 l 0 m q6
    show (postEnd _ s a first).size = m.size
    rw [end_size _ s a first q3 q7 (by omega), hz]
  · rw [if_neg c2] at h; exact absurd h (by decide)
theorem po_loop (c : List Int) (hc : c.length ≤ 1048576) (size s d a u t g z7 z8 z9 z10 z11 z12 : Int) (hs : 1 ≤ s ∧ s ≤ 8) : ∀ (e f : Nat) (y2 y1 : Int) (m : ByteArray) (at_ st : Int), y2 = (e : Int) → e < f → e ≤ 100 → m.size = 1280 → 0 ≤ at_ →
    ∃ m' at' st', spec_l01Src_posted_v2_l4 f m y1 y2 c at_ st size z7 z8 z9 z10 z11 z12 s d a u t g = some (m', c, at', st', size, z7, z8, z9, z10, z11, z12, s, d, a, u, t, g, ()) ∧ ByteArray.size m' = 1280 ∧ 0 ≤ at' := by
  intro e
  induction e with
  | zero =>
    intro f y2 y1 m at_ st hy hf he hm ha
    obtain ⟨f, rfl⟩ : ∃ q, f = q + 1 := ⟨f - 1, by omega⟩
    show ∃ m' at' st', spec_l01Src_posted_v2_l4_step (spec_l01Src_posted_v2_l4 f) m y1 y2 c at_ st size z7 z8 z9 z10 z11 z12 s d a u t g = _ ∧ _
    unfold spec_l01Src_posted_v2_l4_step
    rw [decn (show ¬ y2 > 0 by omega)]
    exact ⟨m, at_, st, rfl, hm, ha⟩
  | succ e ih =>
    intro f y2 y1 m at_ st hy hf he hm ha
    obtain ⟨f, rfl⟩ : ∃ q, f = q + 1 := ⟨f - 1, by omega⟩
    show ∃ m' at' st', spec_l01Src_posted_v2_l4_step (spec_l01Src_posted_v2_l4 f) m y1 y2 c at_ st size z7 z8 z9 z10 z11 z12 s d a u t g = _ ∧ _
    unfold spec_l01Src_posted_v2_l4_step
    rw [decp (show y2 > 0 by omega)]
    obtain ⟨k, ek, k1, k2⟩ : ∃ k, spec_l01Min 3 s = some (k, ()) ∧ 1 ≤ k ∧ k ≤ 3 := by
      unfold spec_l01Min
      by_cases h : (3 : Int) < s
      · rw [decp h]; exact ⟨3, rfl, by omega, by omega⟩
      · rw [decn h]; exact ⟨s, rfl, by omega, by omega⟩
    obtain ⟨n1, a1, s1, e1, n1a, n1b, n1d, h1⟩ := src_n c at_ st size k ha (by omega) hc
    have n1c : n1 ≤ 3 := by
      by_cases h : 1 < k
      · have := n1b h; omega
      · have := n1d (by omega); omega
    have w1 : wrap64 (1 + n1) = 1 + n1 := wrap_id (by omega) (by omega)
    obtain ⟨bs, a2, s2, e2, _, h2⟩ := bufs_all c hc a1 s1 size (1 + n1) h1 (by clear w1; omega) (by clear w1; omega)
    have hs0 : (s == 0) = false := beq_false_of_ne (by clear w1; omega)
    have w2 : wrap64 (y2 - 1) = y2 - 1 := wrap_id (by clear w1; omega) (by clear w1; omega)
    simp only [ek, e1, w1, e2, spec_post, hs0, w2, Option.bind_some, Bool.cond_self, Bool.not_false, cond_true]
    refine ih f (y2 - 1) _ _ _ _ (by clear w1 w2; omega) (by omega) (by omega) ?_ h2
    by_cases h : (postRes m s d a u t g (Int.tmod y1 s) bs).1 = 0
    · rw [show ((postRes m s d a u t g (Int.tmod y1 s) bs).1 == 0) = true from beq_iff_eq.2 h]
      exact (post_size _ _ _ _ _ _ _ _ _ h).trans hm
    · rw [show ((postRes m s d a u t g (Int.tmod y1 s) bs).1 == 0) = false from beq_false_of_ne h]
      exact hm
theorem put_words (a : Int) (l : List Int) (hl : l.length ≤ 1000) (h0 : 0 ≤ a) (h1 : a + 4 * l.length ≤ 1280) : ∀ (e f i : Nat) (m : ByteArray), i + e = l.length → e < f → m.size = 1280 →
    ∃ m', spec_l04Put_l2 f m a l (i : Int) = some (m', ()) ∧ ByteArray.size m' = 1280 := by
  intro e
  induction e with
  | zero =>
    intro f i m hi hf hm
    obtain ⟨f, rfl⟩ : ∃ q, f = q + 1 := ⟨f - 1, by omega⟩
    show ∃ m', spec_l04Put_l2_step (spec_l04Put_l2 f) m a l (i : Int) = _ ∧ _
    unfold spec_l04Put_l2_step
    rw [decn (show ¬ (i : Int) < (l.length : Int) by omega)]
    exact ⟨m, rfl, hm⟩
  | succ e ih =>
    intro f i m hi hf hm
    obtain ⟨f, rfl⟩ : ∃ q, f = q + 1 := ⟨f - 1, by omega⟩
    show ∃ m', spec_l04Put_l2_step (spec_l04Put_l2 f) m a l (i : Int) = _ ∧ _
    unfold spec_l04Put_l2_step
    rw [decp (show (i : Int) < (l.length : Int) by omega), decp (show (0 : Int) ≤ (i : Int) by omega)]
    have w1 : wrap64 ((4 : Int) * i) = 4 * i := wrap_id (by omega) (by omega)
    have w2 : wrap64 (a + 4 * (i : Int)) = a + 4 * i := wrap_id (by clear w1; omega) (by clear w1; omega)
    obtain ⟨m', e1, hm'⟩ := set_ok m (a + 4 * i) (rd (.int .i64) l (i : Int)) hm (by clear w1 w2; omega) (by clear w1 w2; omega)
    simp only [w1, w2, e1, wrap_i i l.length (by clear w1 w2; omega) (by clear w1 w2; omega), Option.bind_some, Bool.and_true, cond_true]
    exact ih f (i + 1) m' (by omega) (by omega) hm'
theorem put_all (m : ByteArray) (a : Int) (l : List Int) (hl : l.length ≤ 1000) (h0 : 0 ≤ a) (h1 : a + 4 * l.length ≤ 1280) (hm : m.size = 1280) : ∃ m', spec_l04Put m a l = some (m', ()) ∧ ByteArray.size m' = 1280 := by
  unfold spec_l04Put
  obtain ⟨m', e, h⟩ := put_words a l hl h0 h1 l.length K0 0 m (by omega) (by rw [K0_eq]; omega) hm
  have e' : spec_l04Put_l2 K0 m a l 0 = _ := e
  rw [e']
  exact ⟨m', rfl, h⟩
theorem cond_sz {b : Bool} {x y : ByteArray} (h1 : x.size = 1280) (h2 : y.size = 1280) : (bif b then x else y).size = 1280 := by cases b <;> assumption
theorem src_small (c : List Int) (at_ st size k : Int) (ha : 0 ≤ at_) (k1 : 1 ≤ k) (k2 : k ≤ 100000) (hc : c.length ≤ 1048576) : ∃ r at' st', spec_l01Src_n_v2 c at_ st size k = some (r, c, at', st', size, ()) ∧ (0 ≤ r ∧ r < k) ∧ 0 ≤ at' := by
  obtain ⟨r, a, s, e, h1, h2, h3, h4⟩ := src_n c at_ st size k ha (by omega) hc
  refine ⟨r, a, s, e, ⟨h1, ?_⟩, h4⟩
  by_cases h : 1 < k
  · exact h2 h
  · have := h3 (by omega); omega
theorem po_all (c : List Int) (hc : c.length ≤ 1048576) (at_ st size : Int) (ha : 0 ≤ at_) : ∃ m s t g at' st', spec_l01Src_posted_v2 c at_ st size = some (m, s, 0, 128, 176, t, g, c, at', st', size, ()) ∧ ByteArray.size m = 1280 ∧ (1 ≤ s ∧ s ≤ 8) ∧ 0 ≤ at' := by
  unfold spec_l01Src_posted_v2
  obtain ⟨m1, s, t, g, a1, s1, e1, hm1, hs, h1⟩ := q_in c hc at_ st size ha
  obtain ⟨n2, a2, s2, e2, n2a, h2⟩ := src_small c a1 s1 size 4 h1 (by decide) (by decide) hc
  obtain ⟨m3, a3, s3, e3, hm3, h3⟩ := po_loop c hc size s 0 128 176 t g 0 0 0 0 0 0 hs n2.toNat K0 n2 0 m1 a2 s2 (by omega) (by rw [K0_eq]; omega) (by omega) hm1 h2
  obtain ⟨b4, a4, s4, e4, h4⟩ := src_one c a3 s3 size 4 h3 (by decide) hc
  obtain ⟨n5, a5, s5, e5, n5a, h5⟩ := src_small c a4 s4 size s h4 (by omega) (by omega) hc
  obtain ⟨n6, a6, s6, e6, n6a, h6⟩ := src_small c a5 s5 size 5 h5 (by decide) (by decide) hc
  obtain ⟨n7, a7, s7, e7, n7a, h7⟩ := src_small c a6 s6 size 8 h6 (by decide) (by decide) hc
  obtain ⟨n8, a8, s8, e8, n8a, h8⟩ := src_small c a6 s6 size 10 h6 (by decide) (by decide) hc
  obtain ⟨n9, a9, s9, e9, n9a, h9⟩ := src_small c a6 s6 size 20 h6 (by decide) (by decide) hc
  obtain ⟨n10, a10, s10, e10, n10a, h10⟩ := src_small c a6 s6 size s h6 (by omega) (by omega) hc
  obtain ⟨n11, a11, s11, e11, n11a, h11⟩ := src_small c a10 s10 size 12 h10 (by decide) (by decide) hc
  obtain ⟨n12, a12, s12, e12, n12a, h12⟩ := src_small c a6 s6 size 5 h6 (by decide) (by decide) hc
  obtain ⟨n13, a13, s13, e13, n13a, h13⟩ := src_small c a12 s12 size 6 h12 (by decide) (by decide) hc
  obtain ⟨n14, a14, s14, e14, n14a, h14⟩ := src_small c a13 s13 size 3 h13 (by decide) (by decide) hc
  obtain ⟨n15, a15, s15, e15, n15a, h15⟩ := src_small c a14 s14 size 4 h14 (by decide) (by decide) hc
  obtain ⟨n16, a16, s16, e16, n16a, h16⟩ := src_small c a15 s15 size 4 h15 (by decide) (by decide) hc
  obtain ⟨m7, f7, hm7⟩ := set_ok m3 (16 * n5 + 8) n7 hm3 (by omega) (by omega)
  obtain ⟨m8, f8, hm8⟩ := set_ok m3 (16 * n5 + 12) n8 hm3 (by omega) (by omega)
  obtain ⟨m9, f9, hm9⟩ := set_ok m3 132 (wrap64 (t + n9)) hm3 (by decide) (by decide)
  obtain ⟨m11, f11, hm11⟩ := set_ok m3 (136 + 4 * n10) n11 hm3 (by omega) (by omega)
  obtain ⟨m12, f12, hm12⟩ := put_all m3 (16 * n5) [1024, rd (.int .i64) ([16, 32, 48, 8, 272] : List Int) n12, 4, 0] (by simp) (by omega) (by simp; omega) hm3
  obtain ⟨m17, f17, hm17⟩ := put_all m12 1024 [512, 20, n13, n14, 600, 8, n15, n16, 700, 4, 2, 0] (by simp) (by omega) (by simp) hm12
  have w1 : wrap64 ((16 : Int) * n5) = 16 * n5 := wrap_id (by omega) (by omega)
  have w2 : wrap64 (16 * n5 + 8) = 16 * n5 + 8 := wrap_id (by clear w1; omega) (by clear w1; omega)
  have w3 : wrap64 (16 * n5 + 12) = 16 * n5 + 12 := wrap_id (by clear w1 w2; omega) (by clear w1 w2; omega)
  have w4 : wrap64 ((4 : Int) * n10) = 4 * n10 := wrap_id (by clear w1 w2 w3; omega) (by clear w1 w2 w3; omega)
  have w5 : wrap64 ((136 : Int) + 4 * n10) = 136 + 4 * n10 := wrap_id (by clear w1 w2 w3 w4; omega) (by clear w1 w2 w3 w4; omega)
  have l5 : decide (n12 < (([16, 32, 48, 8, 272] : List Int).length : Int)) = true := decp (show n12 < (5 : Int) from n12a.2)
  simp only [e1, e2, e3, e4, Option.bind_some]
  cases b4
  · exact ⟨_, _, _, _, _, _, rfl, hm3, hs, h4⟩
  simp only [cond_true, e5, e6, w1, w2, w3, w4, w5, e7, e8, e9, e10, e11, e12, e13, e14, e15, e16, f7, f8, f9, f11, f12, f17, l5, decp n12a.1, Option.bind_some, Option.getD_some, Option.isSome_some, Bool.cond_self, Bool.or_true, Bool.and_true]
  clear w1 w2 w3 w4 w5
  refine ⟨_, _, _, _, _, _, rfl, ?_, hs, ?_⟩
  · exact cond_sz hm7 (cond_sz hm8 (cond_sz hm9 (cond_sz hm11 (cond_sz hm17 hm3))))
  · exact cond_le h7 (cond_le h8 (cond_le h9 (cond_le h11 (cond_le h16 h6))))
theorem cond_b {b : Bool} {x y l h : Int} (h1 : l ≤ x ∧ x ≤ h) (h2 : l ≤ y ∧ y ≤ h) : l ≤ (bif b then x else y) ∧ (bif b then x else y) ≤ h := by cases b <;> assumption
theorem rd4 (n : Int) : 0 ≤ rd (.int .i64) ([0, 3, 16, 32] : List Int) n ∧ rd (.int .i64) ([0, 3, 16, 32] : List Int) n ≤ 32 := by
  have key : ∀ k : Nat, 0 ≤ ([0, 3, 16, 32] : List Int).getD k 0 ∧ ([0, 3, 16, 32] : List Int).getD k 0 ≤ 32 := by
    intro k
    match k with
    | 0 => decide
    | 1 => decide
    | 2 => decide
    | 3 => decide
    | k + 4 => simp
  exact key n.toNat
theorem any_all (c : List Int) (hc : c.length ≤ 1048576) (at_ st size : Int) (ha : 0 ≤ at_) : ∃ m s d a u t g at' st', spec_l01Src_anyPosted_v2 c at_ st size = some (m, s, d, a, u, t, g, c, at', st', size, ()) ∧ (0 ≤ s ∧ s ≤ 32) ∧ 0 ≤ at' := by
  unfold spec_l01Src_anyPosted_v2
  obtain ⟨m1, s, t, g, a1, s1, e1, hm1, hs, h1⟩ := po_all c hc at_ st size ha
  obtain ⟨b2, a2, s2, e2, h2⟩ := src_one c a1 s1 size 8 h1 (by decide) hc
  obtain ⟨n3, a3, s3, e3, n3a, h3⟩ := src_small c a2 s2 size 7 h2 (by decide) (by decide) hc
  obtain ⟨n4, a4, s4, e4, n4a, h4⟩ := src_small c a3 s3 size 4 h3 (by decide) (by decide) hc
  obtain ⟨n5, a5, s5, e5, n5a, h5⟩ := src_small c a3 s3 size 3 h3 (by decide) (by decide) hc
  obtain ⟨n6, a6, s6, e6, n6a, h6⟩ := src_small c a3 s3 size 2 h3 (by decide) (by decide) hc
  have l4 : ∀ x y z w : Int, decide (n4 < (([x, y, z, w] : List Int).length : Int)) = true := fun x y z w => decp (show n4 < (4 : Int) from n4a.2)
  have l3 : ∀ x y z : Int, decide (n5 < (([x, y, z] : List Int).length : Int)) = true := fun x y z => decp (show n5 < (3 : Int) from n5a.2)
  have l2 : ∀ x y : Int, decide (n6 < (([x, y] : List Int).length : Int)) = true := fun x y => decp (show n6 < (2 : Int) from n6a.2)
  have z1 : decide (1 ≤ m1.size) = true := decp (by omega)
  have z2 : decide ((1 : Int) ≤ (m1.size : Int)) = true := decp (by omega)
  have z3 : decide ((0 : Int) ≤ 1) = true := rfl
  have z4 : decide ((m1.size : Int) ≤ (m1.size : Int)) = true := decp (by omega)
  simp only [e1, e2, e3, Option.bind_some]
  cases b2
  · exact ⟨_, _, _, _, _, _, _, _, _, rfl, by omega, h2⟩
  simp only [Bool.not_true, cond_false, e4, e5, e6, l4, l3, l2, z1, z2, z3, z4, decp n4a.1, decp n5a.1, decp n6a.1, Option.bind_some, Option.getD_some, Option.isSome_some, Bool.cond_self, Bool.or_true, Bool.and_true, cond_true]
  refine ⟨_, _, _, _, _, _, _, _, _, rfl, ?_, ?_⟩
  · exact cond_b (rd4 n4) (by omega)
  · exact cond_le h4 (cond_le h5 (cond_le h4 (cond_le h4 (cond_le h6 (cond_le h6 h3)))))
theorem draw_all (c : List Int) (hc : c.length ≤ 1048576) : ∃ m s d a u t g first l, spec_DrawPostChain_v3 c = some (m, s, d, a, u, t, g, first, l, ()) := by
  unfold spec_DrawPostChain_v3
  obtain ⟨st, size, e0, _, _⟩ := src_source c hc
  obtain ⟨m, s, d, a, u, t, g, a1, s1, e1, hs, h1⟩ := any_all c hc 0 st size (by decide)
  obtain ⟨n2, a2, s2, e2, n2a, h2⟩ := src_small c a1 s1 size 6 h1 (by decide) (by decide) hc
  obtain ⟨bs, a3, s3, e3, hb, h3⟩ := bufs_all c hc a2 s2 size n2 h2 n2a.1 (by omega)
  obtain ⟨b4, a4, s4, e4, h4⟩ := src_one c a3 s3 size 12 h3 (by decide) hc
  obtain ⟨n5, a5, s5, e5, n5a, h5⟩ := src_small c a4 s4 size 2 h4 (by decide) (by decide) hc
  generalize hB : (b4 && decide ((bs.length : Int) > 0)) = B
  have w : wrap64 (s + 2) = s + 2 := wrap_id (by omega) (by omega)
  obtain ⟨n6, a6, s6, e6, n6a, h6⟩ := src_small c (bif B then a5 else a4) (bif B then s5 else s4) size (s + 2) (cond_le h5 h4) (by clear w; omega) (by clear w; omega) hc
  obtain ⟨n7, a7, s7, e7, n7a, h7⟩ := src_small c a6 s6 size 2 h6 (by decide) (by decide) hc
  have l2 : ∀ x y : Int, decide (n5 < (([x, y] : List Int).length : Int)) = true := fun x y => decp (show n5 < (2 : Int) from n5a.2)
  have hb0 : (!B || (decide ((0 : Int) ≤ 0) && decide ((0 : Int) < (bs.length : Int)))) = true := by
    rw [← hB]
    cases b4
    · rfl
    · by_cases h : (bs.length : Int) > 0
      · rw [decp h]; rfl
      · rw [decn h]; rfl
  simp only [e0, e1, e2, e3, e4, e5, hB, w, e6, e7, l2, hb0, decp n5a.1, Option.bind_some, Option.getD_some, Option.isSome_some, Bool.cond_self, Bool.or_true, Bool.and_true, cond_true]
  exact ⟨_, _, _, _, _, _, _, _, _, rfl⟩
theorem seq_same (s : ByteArray) : seq s s = true := by unfold seq; simp
theorem queueOk_to {m m' : ByteArray} (hm : m'.size = m.size) {s d a u t g t' : Int} (h : queueOk m s d a u t g = true) (ht : 0 ≤ t' ∧ t' ≤ 65535) : queueOk m' s d a u t' g = true := by
  unfold queueOk memOk at h ⊢
  rw [hm]
  simp only [Bool.and_eq_true, decide_eq_true_eq] at h ⊢
  exact ⟨⟨h.1.1, ht⟩, h.2⟩
theorem post_ok {m : ByteArray} {s d a u t g first : Int} {l : List Buf} (h : (postRes m s d a u t g first l).1 = 0) :
    postRes m s d a u t g first l = (0, postEnd (postMem d s first l.length l 0 m) s a first, s, d, a, u, t, g, false, ()) ∧ queueOk m s d a u t g = true ∧ (0 ≤ first ∧ first < s) ∧ (1 ≤ (l.length : Int) ∧ (l.length : Int) ≤ s) ∧ l.all bufOk = true := by
  unfold postRes at h ⊢
  by_cases c1 : (decide ((m.size : Int) > 65536) || decide ((l.length : Int) > 1000)) = true
  · rw [if_pos c1] at h; exact absurd h (by decide)
  rw [if_neg c1] at h ⊢
  by_cases c2 : (queueOk m s d a u t g && decide (0 ≤ first ∧ first < s) && decide (1 ≤ (l.length : Int) ∧ (l.length : Int) ≤ s) && l.all bufOk) = true
  · rw [if_pos c2]
    simp only [Bool.and_eq_true, decide_eq_true_eq] at c2
    exact ⟨rfl, c2.1.1.1, c2.1.1.2, c2.1.2, c2.2⟩
  · rw [if_neg c2] at h; exact absurd h (by decide)
theorem take_posted {m : ByteArray} {s d a u t g first : Int} {l : List Buf} (hq : queueOk m s d a u t g = true) (hf : 0 ≤ first ∧ first < s) (hl : 1 ≤ (l.length : Int) ∧ (l.length : Int) ≤ s) (hok : l.all bufOk = true) (hap : d + 16 * s ≤ a ∨ a + (8 + 4 * s) ≤ d) :
    queueOk (postEnd (postMem d s first l.length l 0 m) s a first) s d a u (word m (a + 4) % 65536) g = true ∧
    spec_TakeChain (postEnd (postMem d s first l.length l 0 m) s a first) s d a u (word m (a + 4) % 65536) g = some ((chk m [] l).1, first, (chk m [] l).2.1, s, d, a, u, Int.tmod (wrap64 (word m (a + 4) % 65536 + 1)) 65536, g, ()) := by
  obtain ⟨q1, q2, q3, q4, q5, q6, q7, q8, q9, q10, q11, q12, q13, q14⟩ := queue_true hq
  have hz := mem_size d s first l.length q5 q3 l 0 m q6
  have gM := mem_get d s first l.length q5 q3 q4 hl.2 l 0 m (by omega) q6 hok
  have wM : word (postMem d s first l.length l 0 m) (a + 4) = word m (a + 4) := by
    refine mem_other d s first l.length q5 q3 (a + 4) (by omega) l 0 m q6 (fun j _ _ => ?_)
    obtain ⟨t1, t2⟩ := emod_lt (x := first + j) (s := s) q3
    omega
  generalize hM : postMem d s first l.length l 0 m = M at *
  have hw := word_range m (a + 4)
  have n1 : 0 ≤ word m (a + 4) % 65536 := by omega
  have n2 : word m (a + 4) % 65536 < 65536 := by omega
  obtain ⟨x1, x2⟩ := emod_lt (x := word m (a + 4) % 65536) (s := s) q3
  have p1 := put_size M (a + 8 + 4 * ((word m (a + 4) % 65536) % s)) first (by omega) (by omega)
  have hP : postEnd M s a first = put (put M (a + 8 + 4 * ((word m (a + 4) % 65536) % s)) first) (a + 4) ((word m (a + 4) % 65536 + 1) % 65536) := by unfold postEnd; rw [wM]
  have hsz : (postEnd M s a first).size = m.size := by rw [end_size M s a first q3 q7 (by omega), hz]
  have w4 : word (postEnd M s a first) (a + 4) = (word m (a + 4) % 65536 + 1) % 65536 := by
    rw [hP, word_self _ _ _ (by omega) (by omega) (by omega) (by omega)]
  have w8 : word (postEnd M s a first) (a + 8 + 4 * ((word m (a + 4) % 65536) % s)) = first := by
    rw [hP, word_other _ _ _ _ (by omega) (by omega) (by omega) (by omega), word_self _ _ _ (by omega) (by omega) hf.1 (by omega)]
  have wd : ∀ y, d ≤ y → y + 4 ≤ d + 16 * s → word (postEnd M s a first) y = word M y := by
    intro y y1 y2
    rw [hP, word_other _ _ _ _ (by omega) (by omega) (by omega) (by omega), word_other _ _ _ _ (by omega) (by omega) (by omega) (by omega)]
  clear hP
  generalize word m (a + 4) % 65536 = n at *
  have hqP : queueOk (postEnd M s a first) s d a u n g = true := queueOk_to hsz hq ⟨n1, by omega⟩
  refine ⟨hqP, ?_⟩
  generalize postEnd M s a first = P at *
  have F : ∀ k (hk : k < l.length), IsDesc P (d + 16 * ((first + k) % s)) l[k] (flagsOf l.length k l[k].2.2) (nextOf s first l.length k) := by
    intro k hk
    have h := gM k hk
    rw [Nat.zero_add] at h
    obtain ⟨f1, f2, f3, f4⟩ := h
    obtain ⟨t1, t2⟩ := emod_lt (x := first + k) (s := s) q3
    refine ⟨?_, ?_, ?_, ?_⟩
    · rw [wd _ (by omega) (by omega)]; exact f1
    · rw [wd _ (by omega) (by omega)]; exact f2
    · rw [wd _ (by omega) (by omega)]; exact f3
    · rw [wd _ (by omega) (by omega)]; exact f4
  have r := read_posted P d s first l (by omega) q5 q3 q4 (by omega) hl.2 F 0 (l.length - 1) 0 K0 (by omega) (by rw [K0_eq]; omega)
  rw [show (first + ((0 : Nat) : Int)) % s = first by rw [Int.ofNat_zero, Int.add_zero]; exact Int.emod_eq_of_lt hf.1 hf.2, List.take_zero, List.drop_zero, chk_size m P hsz] at r
  have r' : spec_ReadChain_l11 K0 P d s false first 0 0 0 [] = some (chk m [] l) := r
  have rc : spec_ReadChain P s d a u n g first = some (chk m [] l) := by
    unfold spec_ReadChain
    rw [decn (show ¬ (P.size : Int) > 65536 by omega)]
    simp only [cond_false, spec_queue, hqP, Option.bind_some, if_true, bne_self_eq_false]
    rw [decn (show ¬ first < 0 by omega), decn (show ¬ first ≥ s by omega)]
    simp only [Bool.or_false, cond_false, r', Option.bind_some]
  clear r r' F wd gM
  unfold spec_TakeChain
  rw [decn (show ¬ (P.size : Int) > 65536 by omega)]
  simp only [cond_false, spec_queue, Option.bind_some, hqP]
  have e4 : wrap64 (a + 4) = a + 4 := wrap_id (by omega) (by omega)
  rw [e4, spec_word P (a + 4) (by clear e4; omega) (by clear e4; omega) (by clear e4; omega), w4]
  clear e4
  simp only [Option.bind_some]
  have w1 : wrap64 ((n + 1) % 65536 - n) = (n + 1) % 65536 - n := wrap_id (by omega) (by omega)
  have em : ((n + 1) % 65536 - n) % 65536 = 1 := by clear w1; omega
  rw [w1, spec_mod _ _ (by decide) (by decide), em]
  clear w1 em
  have hs0 : (s == 0) = false := beq_false_of_ne (by omega)
  have hmt : Int.tmod n s = n % s := Int.tmod_eq_emod_of_nonneg n1
  have w3 : wrap64 (4 * (n % s)) = 4 * (n % s) := wrap_id (by omega) (by omega)
  have w6 : wrap64 (a + 8) = a + 8 := wrap_id (by clear w3; omega) (by clear w3; omega)
  have w5 : wrap64 (a + 8 + 4 * (n % s)) = a + 8 + 4 * (n % s) := wrap_id (by clear w3 w6; omega) (by clear w3 w6; omega)
  rw [hmt, w3, w6, w5, hs0]
  clear hmt w3 w6 w5
  rw [spec_word P _ (by omega) (by omega) (by omega), w8]
  simp only [Option.bind_some, rc]
  rw [decn (show ¬ (1 : Int) > s by omega)]
  simp
theorem last_take (l : List Buf) (k : Nat) (hk : k < l.length) (hl : l.length ≤ 1000) : (decide ((k : Int) > 0) && (rd R1 l (wrap64 ((k : Int) - 1))).2.2) = lastW (l.take k) ∧ (!decide ((k : Int) > 0) || (decide (0 ≤ wrap64 ((k : Int) - 1)) && decide (wrap64 ((k : Int) - 1) < (l.length : Int)))) = true := by
  unfold lastW
  cases k with
  | zero => simp
  | succ j =>
    have w : wrap64 (((j + 1 : Nat) : Int) - 1) = (j : Int) := by rw [wrap_id (by omega) (by omega)]; omega
    rw [w, rd_at R1 l j (by clear w; omega), decp (show ((j + 1 : Nat) : Int) > 0 by clear w; omega), decp (show (0 : Int) ≤ (j : Int) by clear w; omega), decp (show (j : Int) < (l.length : Int) by clear w; omega)]
    clear w
    rw [List.length_take, Nat.min_eq_left (by omega), decp (show 0 < j + 1 by omega), Nat.add_sub_cancel, List.getD_eq_getElem?_getD, List.getElem?_take_of_lt (by omega), List.getElem?_eq_getElem (by omega)]
    simp
theorem code_is (m : ByteArray) (hm : m.size ≤ 65536) (bs : List Buf) (b : Buf) (h : bufOk b = true) : (bif decide (wrap64 (b.1 + b.2.1) > (m.size : Int)) then 2 else bif (lastW bs && !b.2.2) then 6 else 0) = bufCode m bs b.1 b.2.1 b.2.2 := by
  obtain ⟨b1, b2⟩ := bufOk_iff h
  have e1 : wrap64 (b.1 + b.2.1) = b.1 + b.2.1 := wrap_id (by omega) (by omega)
  have e2 : wrap64 ((m.size : Int) - b.1) = m.size - b.1 := wrap_id (by clear e1; omega) (by clear e1; omega)
  unfold bufCode inB
  rw [e1, e2]
  clear e1 e2
  by_cases c : b.1 + b.2.1 > (m.size : Int)
  · rw [decp c, decn (show ¬ (0 ≤ b.1 ∧ 0 ≤ b.2.1 ∧ b.1 ≤ (m.size : Int) ∧ b.2.1 ≤ (m.size : Int) - b.1) by omega), if_neg (by decide)]
    rfl
  · rw [decn c, decp (show (0 ≤ b.1 ∧ 0 ≤ b.2.1 ∧ b.1 ≤ (m.size : Int) ∧ b.2.1 ≤ (m.size : Int) - b.1) by omega), if_pos rfl]
    cases (lastW bs && !b.2.2) <;> rfl
theorem ok_loop (m : ByteArray) (hm : m.size ≤ 65536) (l : List Buf) (hok : l.all bufOk = true) (hl : l.length ≤ 1000) (y1 y4 y5 y6 y7 y8 y9 y10 : Int) (y11 : ByteArray) (y12 y13 y14 y15 y16 y17 : Int) (y18 : Bool) (y19 y20 : Int) (y21 : List V1) (y22 y23 y24 y25 y26 y27 : Int) :
    ∀ (e k n : Nat), k + e = l.length → e + 1 < n →
      laws_FnChains_l15 n m y1 0 (k : Int) y4 y5 y6 y7 y8 y9 y10 y11 y12 y13 y14 y15 y16 y17 y18 y19 y20 y21 y22 y23 y24 y25 y26 y27 l = some (y1, (chk m (l.take k) (l.drop k)).1, y4, y5, y6, y7, y8, y9, y10, y11, y12, y13, y14, y15, y16, y17, y18, y19, y20, y21, y22, y23, y24, y25, y26, y27, l, ()) := by
  intro e
  induction e with
  | zero =>
    intro k n hk hn
    obtain ⟨n, rfl⟩ : ∃ q, n = q + 1 := ⟨n - 1, by omega⟩
    show laws_FnChains_l15_step (laws_FnChains_l15 n) m y1 0 (k : Int) y4 y5 y6 y7 y8 y9 y10 y11 y12 y13 y14 y15 y16 y17 y18 y19 y20 y21 y22 y23 y24 y25 y26 y27 l = _
    unfold laws_FnChains_l15_step
    rw [decn (show ¬ (k : Int) < (l.length : Int) by omega), List.drop_eq_nil_of_le (by omega : l.length ≤ k), chk]
    rfl
  | succ e ih =>
    intro k n hk hn
    obtain ⟨n, rfl⟩ : ∃ q, n = q + 2 := ⟨n - 2, by omega⟩
    have hlt : k < l.length := by omega
    have hb : bufOk l[k] = true := List.all_eq_true.1 hok _ (List.getElem_mem hlt)
    obtain ⟨t1, t2⟩ := last_take l k hlt hl
    have ci := code_is m hm (l.take k) l[k] hb
    have wk : wrap64 ((k : Int) + 1) = ((k + 1 : Nat) : Int) := wrap_i k l.length hlt (by omega)
    have IH := ih (k + 1) (n + 1) (by clear wk; omega) (by clear wk; omega)
    have d1 : decide ((k : Int) < (l.length : Int)) = true := decp (by clear wk; omega)
    have d2 : decide ((0 : Int) ≤ (k : Int)) = true := decp (by clear wk; omega)
    show laws_FnChains_l15_step (laws_FnChains_l15 (n + 1)) m y1 0 (k : Int) y4 y5 y6 y7 y8 y9 y10 y11 y12 y13 y14 y15 y16 y17 y18 y19 y20 y21 y22 y23 y24 y25 y26 y27 l = _
    unfold laws_FnChains_l15_step
    simp only [d1, d2, t1, t2, wk, rd_at R1 l k hlt, beq_self_eq_true, Bool.cond_self, Bool.and_true, Bool.or_true, cond_true]
    rw [ci, List.drop_eq_getElem_cons hlt, chk]
    clear ci t1 t2 wk
    by_cases c : bufCode m (l.take k) l[k].1 l[k].2.1 l[k].2.2 = 0
    · rw [if_pos c, c, show l.take k ++ [l[k]] = l.take (k + 1) by rw [List.take_succ_eq_append_getElem hlt]]
      exact IH
    · rw [if_neg c]
      show laws_FnChains_l15_step (laws_FnChains_l15 n) m y1 (bufCode m (l.take k) l[k].1 l[k].2.1 l[k].2.2) ((k + 1 : Nat) : Int) y4 y5 y6 y7 y8 y9 y10 y11 y12 y13 y14 y15 y16 y17 y18 y19 y20 y21 y22 y23 y24 y25 y26 y27 l = _
      unfold laws_FnChains_l15_step
      simp only [show (bufCode m (l.take k) l[k].1 l[k].2.1 l[k].2.2 == 0) = false from beq_false_of_ne c, Bool.and_false, cond_false]
theorem same_loop (l : List Buf) (hl : l.length ≤ 1000) (y1 y2 y3 y4 y5 y6 y7 : Int) (y8 : ByteArray) (y9 y10 y11 y12 y13 y14 : Int) (y15 : Bool) (y16 y17 y19 y20 y21 y22 y23 y24 : Int) :
    ∀ (e k n : Nat), k + e = l.length → e < n →
      laws_FnChains_l29 n (k : Int) y1 y2 y3 y4 y5 y6 y7 y8 y9 y10 y11 y12 y13 y14 y15 y16 y17 l y19 y20 y21 y22 y23 y24 l = some (Sum.inr (y1, y2, y3, y4, y5, y6, y7, y8, y9, y10, y11, y12, y13, y14, y15, y16, y17, l, y19, y20, y21, y22, y23, y24, ())) := by
  intro e
  induction e with
  | zero =>
    intro k n hk hn
    obtain ⟨n, rfl⟩ : ∃ q, n = q + 1 := ⟨n - 1, by omega⟩
    show laws_FnChains_l29_step (laws_FnChains_l29 n) (k : Int) y1 y2 y3 y4 y5 y6 y7 y8 y9 y10 y11 y12 y13 y14 y15 y16 y17 l y19 y20 y21 y22 y23 y24 l = _
    unfold laws_FnChains_l29_step
    rw [decn (show ¬ (k : Int) < (l.length : Int) by omega)]
    rfl
  | succ e ih =>
    intro k n hk hn
    obtain ⟨n, rfl⟩ : ∃ q, n = q + 1 := ⟨n - 1, by omega⟩
    have hlt : k < l.length := by omega
    have IH := ih (k + 1) n (by omega) (by omega)
    show laws_FnChains_l29_step (laws_FnChains_l29 n) (k : Int) y1 y2 y3 y4 y5 y6 y7 y8 y9 y10 y11 y12 y13 y14 y15 y16 y17 l y19 y20 y21 y22 y23 y24 l = _
    unfold laws_FnChains_l29_step
    rw [decp (show (k : Int) < (l.length : Int) by omega), decp (show (0 : Int) ≤ (k : Int) by omega), wrap_i k l.length hlt (by omega)]
    simp only [beq_self_eq_true, Bool.and_true, Bool.not_true, cond_true, cond_false]
    exact IH
theorem give_val {P : ByteArray} {s d a u t g head : Int} (hq : queueOk P s d a u t g = true) (hh : 0 ≤ head ∧ head < s) : ∃ m1 sg, impl_GiveChain P s d a u t g head 5 = some (0, m1, s, d, a, u, t, Int.tmod (wrap64 (g + 1)) 65536, sg, ()) := by
  obtain ⟨q1, q2, q3, q4, q5, q6, q7, q8, q9, q10, q11, q12, q13, q14⟩ := queue_true hq
  unfold impl_GiveChain impl_ymemQueue
  rw [impl_big1, decn (show ¬ (P.size : Int) > 65536 by omega)]
  simp only [Option.bind_some, cond_false, impl_queue, hq, if_true, bne_self_eq_false, yin_eq]
  rw [wrap_id (x := s - 1) (by omega) (by omega), decp (show 0 ≤ head ∧ head ≤ s - 1 by omega)]
  rw [show impl_yisWord 5 = some (true, ()) from rfl]
  simp only [Option.getD_some, Option.isSome_some, Bool.or_true, cond_true, Bool.not_true, Bool.or_false, cond_false]
  unfold impl_ygiveChain
  have hmt : Int.tmod g s = g % s := Int.tmod_eq_emod_of_nonneg q13
  obtain ⟨k1, k2⟩ := emod_lt (x := g) (s := s) q3
  rw [hmt]
  clear hmt
  generalize g % s = x at k1 k2
  have e1 : wrap64 (u + 8) = u + 8 := wrap_id (by omega) (by omega)
  have e2 : wrap64 ((8 : Int) * x) = 8 * x := wrap_id (by clear e1; omega) (by clear e1; omega)
  have e3 : wrap64 (u + 8 + 8 * x) = u + 8 + 8 * x := wrap_id (by clear e1 e2; omega) (by clear e1 e2; omega)
  have e5 : wrap64 (u + 4) = u + 4 := wrap_id (by clear e1 e2 e3; omega) (by clear e1 e2 e3; omega)
  simp only [e1, e2, e3, e5]
  clear e1 e2 e3 e5
  have p1 := put_size P (u + 8 + 8 * x) head (by omega) (by omega)
  have p2 := put_size (put P (u + 8 + 8 * x) head) (u + 8 + 8 * x + 4) 5 (by omega) (by omega)
  rw [impl_yset2 P (u + 8 + 8 * x) head 5 (by omega) (by omega) (by omega), show (s == 0) = false from beq_false_of_ne (by omega)]
  simp only [Option.bind_some]
  generalize Int.tmod (wrap64 (g + 1)) 65536 = n
  have p3 := put_size (put (put P (u + 8 + 8 * x) head) (u + 8 + 8 * x + 4) 5) (u + 4) n (by omega) (by omega)
  rw [impl_yset1 (put (put P (u + 8 + 8 * x) head) (u + 8 + 8 * x + 4) 5) (u + 4) n (by omega) (by omega) (by omega)]
  simp only [Option.bind_some]
  rw [impl_word _ a (by omega) (by omega) (by omega)]
  exact ⟨_, _, rfl⟩
theorem get_word (m : ByteArray) (a : Int) (hm : m.size ≤ 65536) (h0 : 0 ≤ a) (h1 : a + 4 ≤ m.size) : spec_GetWord m a = some (true, word m a, ()) := by
  unfold spec_GetWord
  have e : wrap64 ((m.size : Int) - 4) = m.size - 4 := wrap_id (by omega) (by omega)
  simp only [e]
  clear e
  rw [decn (show ¬ (m.size : Int) > 65536 by omega), decn (show ¬ a < 0 by omega), decn (show ¬ a > (m.size : Int) - 4 by omega), spec_word m a (by omega) h0 h1]
  rfl
theorem FnChains : laws_FnChains.Pure := by
  intro a0 g0
  unfold laws_FnChains
  by_cases hx : a0.length ≤ 1048576
  case neg =>
    rw [decp (show (a0.length : Int) > 1048576 by omega)]
    rfl
  rw [decn (show ¬ (a0.length : Int) > 1048576 by omega)]
  obtain ⟨m, s, d, a, u, T, g, first, l, e⟩ := draw_all a0 hx
  simp only [e, spec_post, impl_post, cond_false, Option.bind_some, bne_self_eq_false, seq_same, Bool.not_true, Bool.or_false, Bool.false_or, beq_self_eq_true, Bool.and_true]
  by_cases h0 : (postRes m s d a u T g first l).1 = 0
  case neg =>
    simp only [show ((postRes m s d a u T g first l).1 != 0) = true from bne_iff_ne.2 h0, cond_true]
  obtain ⟨hp, hq, hf, hl, hok⟩ := post_ok h0
  obtain ⟨q1, q2, q3, q4, q5, q6, q7, q8, q9, q10, q11, q12, q13, q14⟩ := queue_true hq
  rw [hp]
  have w1 : wrap64 ((16 : Int) * s) = 16 * s := wrap_id (by omega) (by omega)
  have w2 : wrap64 ((4 : Int) * s) = 4 * s := wrap_id (by clear w1; omega) (by clear w1; omega)
  have w3 : wrap64 (8 + 4 * s) = 8 + 4 * s := wrap_id (by clear w1 w2; omega) (by clear w1 w2; omega)
  have w4 : wrap64 (d + 16 * s) = d + 16 * s := wrap_id (by clear w1 w2 w3; omega) (by clear w1 w2 w3; omega)
  have w5 : wrap64 (a + (8 + 4 * s)) = a + (8 + 4 * s) := wrap_id (by clear w1 w2 w3 w4; omega) (by clear w1 w2 w3 w4; omega)
  have w6 : wrap64 (a + 4) = a + 4 := wrap_id (by clear w1 w2 w3 w4 w5; omega) (by clear w1 w2 w3 w4 w5; omega)
  have hw := word_range m (a + 4)
  have wt : Int.tmod (word m (a + 4)) 65536 = word m (a + 4) % 65536 := Int.tmod_eq_emod_of_nonneg hw.1
  simp only [w1, w2, w3, w6, laws_lwApart, w4, w5, Option.bind_some, bne_self_eq_false, cond_false]
  clear w1 w2 w3 w4 w5 w6
  by_cases hap : d + 16 * s ≤ a ∨ a + (8 + 4 * s) ≤ d
  case neg =>
    rw [decn (show ¬ d + 16 * s ≤ a from fun h => hap (Or.inl h)), decn (show ¬ a + (8 + 4 * s) ≤ d from fun h => hap (Or.inr h))]
    rfl
  have ap : (decide (d + 16 * s ≤ a) || decide (a + (8 + 4 * s) ≤ d)) = true := by
    rcases hap with h | h
    · rw [decp h]; rfl
    · rw [decp h, Bool.or_true]
  obtain ⟨hqP, st⟩ := take_posted hq hf hl hok hap
  simp only [ap, get_word m (a + 4) (by clear wt; omega) (by clear wt; omega) (by clear wt; omega), wt, Bool.not_true, cond_false, Option.bind_some, show (!((65536 : Int) == 0)) = true from rfl, cond_true]
  clear wt
  generalize postEnd (postMem d s first l.length l 0 m) s a first = P at *
  have nr : 0 ≤ word m (a + 4) % 65536 ∧ word m (a + 4) % 65536 ≤ 65535 := by omega
  generalize word m (a + 4) % 65536 = n at *
  obtain ⟨R, _, r1, r2⟩ := take_same P s d a u n g
  rw [st] at r1
  have r3 := Option.some.inj r1
  subst r3
  have lo := ok_loop m (by omega) l hok (by omega) first s d a u n g 0 P s d a u T g false (chk m [] l).1 first (chk m [] l).2.1 s d a u (Int.tmod (wrap64 (n + 1)) 65536) g l.length 0 K0 (by omega) (by rw [K0_eq]; omega)
  rw [List.take_zero, List.drop_zero] at lo
  have lo' : laws_FnChains_l15 K0 m first 0 0 s d a u n g 0 P s d a u T g false (chk m [] l).1 first (chk m [] l).2.1 s d a u (Int.tmod (wrap64 (n + 1)) 65536) g l = _ := lo
  simp only [r2, lo', st, Option.bind_some, bne_self_eq_false, Bool.or_false, cond_false]
  clear lo lo'
  by_cases hc : (chk m [] l).1 = 0
  case neg =>
    simp only [show ((chk m [] l).1 != 0) = true from bne_iff_ne.2 hc, cond_true]
  have hb : (chk m [] l).2.1 = l := (chk_all m l [] hc).trans (List.nil_append l)
  have ls := same_loop l (by omega) s d a u n g 0 P s d a u T g false (chk m [] l).1 first s d a u (Int.tmod (wrap64 (n + 1)) 65536) g l.length 0 K0 (by omega) (by rw [K0_eq]; omega)
  have ls' : laws_FnChains_l29 K0 0 s d a u n g 0 P s d a u T g false (chk m [] l).1 first l s d a u (Int.tmod (wrap64 (n + 1)) 65536) g l = _ := ls
  have tr : 0 ≤ Int.tmod (wrap64 (n + 1)) 65536 ∧ Int.tmod (wrap64 (n + 1)) 65536 ≤ 65535 := by
    rw [wrap_id (x := n + 1) (by omega) (by omega), Int.tmod_eq_emod_of_nonneg (by omega)]
    omega
  obtain ⟨m1, sg, gv⟩ := give_val (P := P) (head := first) (queueOk_to rfl hqP tr) hf
  rw [hc] at ls'
  simp only [hc, hb, ls', Option.bind_some, bne_self_eq_false, cond_false, gv, beq_self_eq_true, Bool.and_true, Bool.or_true, cond_true]
end Go.Ab.FnChains.Pure
