/- The plain statement of the law FnExactTakeChain. -/
import Derived.Test.YthcmgjbkmnpibaaAbStFnExactTakeChain
import Derived.Laws.BitsLemmas
namespace Go.Ab.FnExactTakeChain.Pure
open Go.RowKit Go.Ab
set_option linter.unusedVariables false
set_option linter.unusedSimpArgs false
theorem wrap_id {x : Int} (h0 : -9223372036854775808 ≤ x) (h1 : x ≤ 9223372036854775807) : wrap64 x = x := by unfold wrap64; omega
theorem K0_ge {n : Nat} (h : n ≤ 18446744073709551616) : ∃ k, K0 = k + n := ⟨K0 - n, by rw [K0_eq]; omega⟩
theorem roomy_ok {n b : Int} (h : n * b ≤ 140737488355328) : roomy n b = true := by unfold roomy; rw [M0_eq]; simpa using h
theorem rd_nat (t : Ty) (l : List t.val) (i : Nat) : rd t l (i : Int) = l.getD i t.dflt := by unfold rd; rw [Int.toNat_natCast]
theorem rd_at (t : Ty) (l : List t.val) (i : Nat) (h : i < List.length l) : rd t l (i : Int) = l[i]'h := by rw [rd_nat]; simp [h]
theorem decp {p : Prop} [Decidable p] (h : p) : decide p = true := decide_eq_true h
theorem decn {p : Prop} [Decidable p] (h : ¬ p) : decide p = false := decide_eq_false h
theorem bt_range (m : ByteArray) (a : Int) : 0 ≤ bt m a ∧ bt m a ≤ 255 := by
  unfold bt
  have := (m.data.getD a.toNat 0).toNat_lt
  omega
theorem shl_eq {x s : Int} (n : Nat) (hs : s = (n : Int)) (h : n ≤ 64) (h0 : 0 ≤ x * 2 ^ n) (h1 : x * 2 ^ n ≤ 9223372036854775807) : shl .i64 x s = x * 2 ^ n := by
  subst hs
  unfold shl
  rw [Int.toNat_natCast, show min n IntKind.i64.bits = n from Nat.min_eq_left h, IntKind.wrap_i64]
  omega
theorem wrap_succ (i n : Nat) (h : i < n) (hn : n ≤ 140737488351232) : wrap64 ((i : Int) + 1) = ((i + 1 : Nat) : Int) := by
  unfold wrap64; omega
/-- Memory as both want it: whole pages, at least one. -/
def memOk (m : ByteArray) : Bool := decide (256 ≤ (m.size : Int) ∧ (m.size : Int) ≤ 65536 ∧ (m.size : Int) % 256 = 0)
theorem impl_memOk (m : ByteArray) : impl_ymemOk m = some (memOk m, ()) := by
  unfold impl_ymemOk memOk
  have e : Int.tmod (m.size : Int) 256 = (m.size : Int) % 256 := Int.tmod_eq_emod_of_nonneg (by omega)
  rw [e]
  simp
  rw [Bool.eq_iff_iff]
  simp
  omega
theorem spec_memOk (m : ByteArray) : spec_MemFault m = some (if memOk m = true then 0 else 1, ()) := by
  unfold spec_MemFault memOk
  have e : Int.tmod (m.size : Int) 256 = (m.size : Int) % 256 := Int.tmod_eq_emod_of_nonneg (by omega)
  rw [e]
  simp
  grind
/-- A place in so many bytes. -/
def inB (n a b : Int) : Bool := decide (0 ≤ a ∧ 0 ≤ b ∧ a ≤ n ∧ b ≤ wrap64 (n - a))
theorem spec_in (m : ByteArray) (a b : Int) : spec_l10In m a b = some (inB m.size a b, ()) := by
  unfold spec_l10In inB
  dsimp only
  congr 2
  rw [Bool.eq_iff_iff]
  simp
  omega
theorem impl_in (n a b : Int) : impl_yfits n a b = some (inB n a b, ()) := by
  unfold impl_yfits inB
  dsimp only
  congr 2
  rw [Bool.eq_iff_iff]
  simp
  omega
theorem inB_true {n a b : Int} (h0 : 0 ≤ n) (hn : n ≤ 140737488351232) (h : inB n a b = true) : 0 ≤ a ∧ 0 ≤ b ∧ a + b ≤ n := by
  unfold inB at h
  simp only [decide_eq_true_eq] at h
  obtain ⟨h1, h2, h3, h4⟩ := h
  have e : wrap64 (n - a) = n - a := by unfold wrap64; omega
  rw [e] at h4
  omega
theorem inB_le {n a b : Int} (h : inB n a b = true) : 0 ≤ a ∧ 0 ≤ b := by
  unfold inB at h; simp only [decide_eq_true_eq] at h; exact ⟨h.1, h.2.1⟩
theorem yin_eq (a b c : Int) : impl_yin a b c = some (decide (b ≤ a ∧ a ≤ c), ()) := by
  unfold impl_yin
  dsimp only
  congr 2
  rw [Bool.eq_iff_iff]
  simp
theorem bits_eq (op : BinOp) (k : IntKind) (x y : Int) : Go.Ab.bits op k x y = Go.bits op k x y := by cases op <;> rfl
theorem wraps_i64 (n : Int) (h0 : 0 ≤ n) (h1 : n < 2 ^ 63) : IntKind.i64.wrap n = n := by rw [IntKind.wrap_i64]; omega
theorem or_comm_i64 (x y : Int) : Go.bits .or .i64 x y = Go.bits .or .i64 y x := by
  unfold Go.bits
  simp only [BitVec.or_comm]
theorem or_low (i : Nat) (x y : Int) (hx0 : 0 ≤ x) (hx : x < 2 ^ i) (hy0 : 0 ≤ y) (hy : y % 2 ^ i = 0) (hy1 : y < 2 ^ 63) (hx1 : x < 2 ^ 63) : Go.Ab.bits .or .i64 x y = x + y := by
  rw [bits_eq, or_comm_i64, Int.add_comm]
  exact bits_join .i64 63 (by decide) wraps_i64 i y x hy0 hy hy1 hx0 hx hx1
theorem and_mask (i : Nat) (hi : i ≤ 63) (x : Int) (h0 : 0 ≤ x) (h1 : x < 2 ^ 63) : Go.Ab.bits .and .i64 x (2 ^ i - 1) = x % 2 ^ i := by
  rw [bits_eq]
  exact bits_mask .i64 63 (by decide) wraps_i64 i hi x h0 h1
/-- Four bytes as a number. -/
def word (m : ByteArray) (a : Int) : Int := bt m a + bt m (a + 1) * 256 + bt m (a + 2) * 65536 + bt m (a + 3) * 16777216
theorem word_range (m : ByteArray) (a : Int) : 0 ≤ word m a ∧ word m a < 4294967296 := by
  have h0 := bt_range m a; have h1 := bt_range m (a + 1); have h2 := bt_range m (a + 2); have h3 := bt_range m (a + 3)
  unfold word; omega
theorem spec_word (m : ByteArray) (a : Int) (hm : m.size ≤ 140737488351232) (h0 : 0 ≤ a) (h1 : a + 4 ≤ m.size) : spec_l01Word m a = some (word m a, ()) := by
  have b0 := bt_range m a; have b1 := bt_range m (a + 1); have b2 := bt_range m (a + 2); have b3 := bt_range m (a + 3)
  have e1 : wrap64 (a + 1) = a + 1 := wrap_id (by omega) (by omega)
  have e2 : wrap64 (a + 2) = a + 2 := wrap_id (by omega) (by omega)
  have e3 : wrap64 (a + 3) = a + 3 := wrap_id (by omega) (by omega)
  unfold spec_l01Word word
  simp only [e1, e2, e3]
  rw [decp h0, decp (show a < (m.size : Int) by omega), decp (show 0 ≤ a + 1 by omega), decp (show a + 1 < (m.size : Int) by omega), decp (show 0 ≤ a + 2 by omega), decp (show a + 2 < (m.size : Int) by omega), decp (show 0 ≤ a + 3 by omega), decp (show a + 3 < (m.size : Int) by omega)]
  clear e1 e2 e3
  rw [wrap_id (x := bt m a) (by omega) (by omega), wrap_id (x := bt m (a + 1)) (by omega) (by omega), wrap_id (x := bt m (a + 2)) (by omega) (by omega), wrap_id (x := bt m (a + 3)) (by omega) (by omega)]
  rw [shl_eq (x := bt m (a + 1)) 8 (by rfl) (by decide) (by omega) (by omega), shl_eq (x := bt m (a + 2)) 16 (by rfl) (by decide) (by omega) (by omega), shl_eq (x := bt m (a + 3)) 24 (by rfl) (by decide) (by omega) (by omega)]
  rw [wrap_id (x := bt m a + bt m (a + 1) * 2 ^ 8) (by omega) (by omega), wrap_id (x := bt m a + bt m (a + 1) * 2 ^ 8 + bt m (a + 2) * 2 ^ 16) (by omega) (by omega), wrap_id (by omega) (by omega)]
  rfl
theorem impl_word (m : ByteArray) (a : Int) (hm : m.size ≤ 140737488351232) (h0 : 0 ≤ a) (h1 : a + 4 ≤ m.size) : impl_ywordAt m a = some (word m a, ()) := by
  have b0 := bt_range m a; have b1 := bt_range m (a + 1); have b2 := bt_range m (a + 2); have b3 := bt_range m (a + 3)
  have e1 : wrap64 (a + 1) = a + 1 := wrap_id (by omega) (by omega)
  have e2 : wrap64 (a + 2) = a + 2 := wrap_id (by omega) (by omega)
  have e3 : wrap64 (a + 3) = a + 3 := wrap_id (by omega) (by omega)
  unfold impl_ywordAt word
  simp only [e1, e2, e3]
  rw [decp h0, decp (show a < (m.size : Int) by omega), decp (show 0 ≤ a + 1 by omega), decp (show a + 1 < (m.size : Int) by omega), decp (show 0 ≤ a + 2 by omega), decp (show a + 2 < (m.size : Int) by omega), decp (show 0 ≤ a + 3 by omega), decp (show a + 3 < (m.size : Int) by omega)]
  clear e1 e2 e3
  rw [wrap_id (x := bt m a) (by omega) (by omega), wrap_id (x := bt m (a + 1)) (by omega) (by omega), wrap_id (x := bt m (a + 2)) (by omega) (by omega), wrap_id (x := bt m (a + 3)) (by omega) (by omega)]
  rw [shl_eq (x := bt m (a + 1)) 8 (by rfl) (by decide) (by omega) (by omega), shl_eq (x := bt m (a + 2)) 16 (by rfl) (by decide) (by omega) (by omega), shl_eq (x := bt m (a + 3)) 24 (by rfl) (by decide) (by omega) (by omega)]
  rw [or_low 8 (bt m a) (bt m (a + 1) * 2 ^ 8) (by omega) (by omega) (by omega) (by omega) (by omega) (by omega)]
  rw [or_low 16 (bt m a + bt m (a + 1) * 2 ^ 8) (bt m (a + 2) * 2 ^ 16) (by omega) (by omega) (by omega) (by omega) (by omega) (by omega)]
  rw [or_low 24 _ (bt m (a + 3) * 2 ^ 24) (by omega) (by omega) (by omega) (by omega) (by omega) (by omega)]
  rfl
theorem impl_big1 (m : ByteArray) : impl_ybig [m] = some (decide ((m.size : Int) > 65536), ()) := by
  obtain ⟨k, hk⟩ := K0_ge (n := 2) (by decide)
  unfold impl_ybig
  rw [hk]
  simp only [impl_ybig_l2, impl_ybig_l2_step, rd, wrap64]
  by_cases h : (m.size : Int) > 65536 <;> simp (config := {decide := true}) [h]
def placeOk (n a b : Int) : Bool := (Int.tmod a 4 == 0) && inB n a b
theorem impl_place (m : ByteArray) (a b : Int) : impl_yplace m a b = some (placeOk m.size a b, ()) := by
  unfold impl_yplace placeOk
  simp only [impl_in]
  simp
/-- How many a queue may hold. -/
def sizeOk (s : Int) : Bool := s == 1 || s == 2 || s == 4 || s == 8 || s == 16
theorem spec_sizes (s : Int) : spec_l01InInts [1, 2, 4, 8, 16] s = some (sizeOk s, ()) := by
  obtain ⟨k, hk⟩ := K0_ge (n := 6) (by decide)
  unfold spec_l01InInts sizeOk
  rw [hk]
  simp only [spec_l01InInts_l2, spec_l01InInts_l2_step, rd, wrap64]
  simp (config := {decide := true})
  grind
theorem impl_sizes (s : Int) : slices_Contains_int64 [1, 2, 4, 8, 16] s = some (sizeOk s, ()) := by
  obtain ⟨k, hk⟩ := K0_ge (n := 6) (by decide)
  unfold slices_Contains_int64 slices_Index_int64 sizeOk
  rw [hk]
  simp only [slices_Index_int64_l2, slices_Index_int64_l2_step, rd, wrap64]
  simp (config := {decide := true})
  grind
theorem sizeOk_le {s : Int} (h : sizeOk s = true) : 1 ≤ s ∧ s ≤ 16 := by
  unfold sizeOk at h
  simp at h
  omega
/-- What a queue is. -/
def queueOk (m : ByteArray) (s d a u t g : Int) : Bool :=
  memOk m && sizeOk s && placeOk m.size d (wrap64 (16 * s)) && placeOk m.size a (wrap64 (8 + wrap64 (4 * s))) && placeOk m.size u (wrap64 (8 + wrap64 (8 * s))) && decide (0 ≤ t ∧ t ≤ 65535) && decide (0 ≤ g ∧ g ≤ 65535)
theorem spec_queue (m : ByteArray) (s d a u t g : Int) : spec_QueueFault m s d a u t g = some (if queueOk m s d a u t g = true then 0 else 1, ()) := by
  unfold spec_QueueFault queueOk placeOk
  simp only [spec_memOk, spec_sizes, spec_in, Option.bind_some]
  simp
  grind
theorem impl_queue (m : ByteArray) (s d a u t g : Int) : impl_QueueFault m s d a u t g = some (if queueOk m s d a u t g = true then 0 else 1, ()) := by
  unfold impl_QueueFault queueOk
  simp only [impl_memOk, impl_sizes, impl_place, yin_eq, Option.bind_some]
  simp
  grind
theorem queue_true {m : ByteArray} {s d a u t g : Int} (h : queueOk m s d a u t g = true) :
    256 ≤ m.size ∧ m.size ≤ 65536 ∧ 1 ≤ s ∧ s ≤ 16 ∧ 0 ≤ d ∧ d + 16 * s ≤ m.size ∧ 0 ≤ a ∧ a + (8 + 4 * s) ≤ m.size ∧ 0 ≤ u ∧ u + (8 + 8 * s) ≤ m.size ∧ 0 ≤ t ∧ t ≤ 65535 ∧ 0 ≤ g ∧ g ≤ 65535 := by
  unfold queueOk placeOk memOk at h
  simp only [Bool.and_eq_true, decide_eq_true_eq] at h
  obtain ⟨⟨⟨⟨⟨⟨⟨h1, h2, _⟩, h3⟩, _, h4⟩, _, h5⟩, _, h6⟩, h7⟩, h8⟩ := h
  have hs := sizeOk_le h3
  rw [wrap_id (x := 16 * s) (by omega) (by omega)] at h4
  rw [wrap_id (x := 4 * s) (by omega) (by omega), wrap_id (by omega) (by omega)] at h5
  rw [wrap_id (x := 8 * s) (by omega) (by omega), wrap_id (by omega) (by omega)] at h6
  have a4 := inB_true (by omega) (by omega) h4
  have a5 := inB_true (by omega) (by omega) h5
  have a6 := inB_true (by omega) (by omega) h6
  omega
theorem impl_readDesc (m : ByteArray) (a : Int) (hm : m.size ≤ 140737488351232) (h0 : 0 ≤ a) (h1 : a + 16 ≤ m.size) : impl_yreadDesc m a = some (word m a, word m (a + 4), word m (a + 8), word m (a + 12), ()) := by
  obtain ⟨k, hk⟩ := K0_ge (n := 5) (by decide)
  have w0 : wrap64 (a + wrap64 (4 * 0)) = a := by rw [wrap_id (x := 4 * 0) (by decide) (by decide), wrap_id (by omega) (by omega)]; omega
  have w1 : wrap64 (a + wrap64 (4 * 1)) = a + 4 := by clear w0; rw [wrap_id (x := 4 * 1) (by decide) (by decide), wrap_id (by omega) (by omega)]; omega
  have w2 : wrap64 (a + wrap64 (4 * 2)) = a + 8 := by clear w0 w1; rw [wrap_id (x := 4 * 2) (by decide) (by decide), wrap_id (by omega) (by omega)]; omega
  have w3 : wrap64 (a + wrap64 (4 * 3)) = a + 12 := by clear w0 w1 w2; rw [wrap_id (x := 4 * 3) (by decide) (by decide), wrap_id (by omega) (by omega)]; omega
  have v0 : wrap64 (0 + 1) = 1 := wrap_id (by decide) (by decide)
  have v1 : wrap64 (1 + 1) = 2 := wrap_id (by decide) (by decide)
  have v2 : wrap64 (2 + 1) = 3 := wrap_id (by decide) (by decide)
  have v3 : wrap64 (3 + 1) = 4 := wrap_id (by decide) (by decide)
  have i0 := impl_word m a hm h0 (by clear w0 w1 w2 w3 v0 v1 v2 v3; omega)
  have i1 := impl_word m (a + 4) hm (by clear w0 w1 w2 w3 v0 v1 v2 v3; omega) (by clear w0 w1 w2 w3 v0 v1 v2 v3; omega)
  have i2 := impl_word m (a + 8) hm (by clear w0 w1 w2 w3 v0 v1 v2 v3; omega) (by clear w0 w1 w2 w3 v0 v1 v2 v3; omega)
  have i3 := impl_word m (a + 12) hm (by clear w0 w1 w2 w3 v0 v1 v2 v3; omega) (by clear w0 w1 w2 w3 v0 v1 v2 v3; omega)
  unfold impl_yreadDesc
  rw [hk]
  simp only [impl_yreadDesc_l3, impl_yreadDesc_l3_step, w0, w1, w2, w3, v0, v1, v2, v3, i0, i1, i2, i3, Option.bind_some]
  simp (config := {decide := true})
abbrev Buf := Int × Int × Bool
/-- Is the last one to be written? -/
def lastW (bs : List Buf) : Bool := decide (0 < bs.length) && (bs.getD (bs.length - 1) (0, 0, false)).2.2
/-- What putting a buffer behind others answers. -/
def bufCode (m : ByteArray) (bs : List Buf) (x y : Int) (wr : Bool) : Int := if inB m.size x y = true then (if (lastW bs && !wr) = true then 6 else 0) else 2
theorem last_at (bs : List Buf) (hb : bs.length ≤ 1048576) (h0 : 0 < bs.length) : wrap64 ((bs.length : Int) - 1) = ((bs.length - 1 : Nat) : Int) := by
  rw [wrap_id (by omega) (by omega)]; omega
theorem lastW_eq (bs : List Buf) (hb : bs.length ≤ 1048576) : (decide ((bs.length : Int) > 0) && (rd R1 bs (wrap64 ((bs.length : Int) - 1))).2.2) = lastW bs ∧ (!decide ((bs.length : Int) > 0) || (decide (0 ≤ wrap64 ((bs.length : Int) - 1)) && decide (wrap64 ((bs.length : Int) - 1) < (bs.length : Int)))) = true := by
  unfold lastW
  by_cases h0 : 0 < bs.length
  · have e := last_at bs hb h0
    rw [e, rd_nat]
    constructor
    · rw [decp (show (bs.length : Int) > 0 by clear e; omega), decp h0]
      rfl
    · rw [decp (show 0 ≤ ((bs.length - 1 : Nat) : Int) by clear e; omega), decp (show ((bs.length - 1 : Nat) : Int) < (bs.length : Int) by clear e; omega)]
      simp
  · rw [decn (show ¬ (bs.length : Int) > 0 by omega), decn h0]
    simp
theorem spec_buf (m : ByteArray) (bs : List Buf) (x y : Int) (wr : Bool) (hb : bs.length ≤ 1048576) : spec_l10Buf m bs x y wr = some (bufCode m bs x y wr, ()) := by
  unfold spec_l10Buf bufCode
  obtain ⟨e1, e2⟩ := lastW_eq bs hb
  simp only [spec_in, Option.bind_some, e1, e2]
  cases inB m.size x y <;> cases lastW bs <;> cases wr <;> rfl
/-- Has f any of x's bits? -/
def flag (f x : Int) : Bool := Go.Ab.bits .and .i64 f x != 0
theorem flag_def (f x : Int) : (Go.Ab.bits .and .i64 f x != 0) = flag f x := rfl
theorem flag_not (f x : Int) : (Go.Ab.bits .and .i64 f x == 0) = !flag f x := by unfold flag; cases h : (Go.Ab.bits .and .i64 f x == 0) <;> simp_all [bne]
theorem impl_has (a b c d x : Int) : impl_ydesc_has a b c d x = some (flag c x, ()) := rfl
theorem impl_buf (a b c d : Int) : impl_ydesc_buf a b c d = some (a, b, flag c 2, ()) := rfl
theorem impl_add (m : ByteArray) (bs : List Buf) (a b c d : Int) (hb : bs.length ≤ 1048576) : impl_yadd_v4 m bs a b c d = some (if bufCode m bs a b (flag c 2) = 0 then (bs ++ [(a, b, flag c 2)], 0, ()) else ([], bufCode m bs a b (flag c 2), ())) := by
  unfold impl_yadd_v4 bufCode
  obtain ⟨e1, e2⟩ := lastW_eq bs hb
  simp only [impl_in, Option.bind_some, impl_has, impl_buf, e1, e2, Option.getD_some, Option.isSome_some]
  rw [roomy_ok (by simp; omega)]
  generalize flag c 2 = W
  cases inB m.size a b <;> cases lastW bs <;> cases W <;> simp
theorem getD_at {α : Type} (xs : List α) (i : Nat) (z : α) (h : i < xs.length) : xs.getD ((i : Int)).toNat z = xs[i] := by simp [h]
/-- A loop that goes on while p holds; then R, else B. -/
theorem all_loop {α γ : Type} (F : Nat → Int → Option γ) (xs : List α) (p : α → Bool) (B : Option γ) (R : Option γ) (K : Nat)
    (hF : ∀ (k i : Nat) (hi : i < xs.length), F (k + 1) (i : Int) = if p xs[i] = true then F k ((i + 1 : Nat) : Int) else B)
    (hE : ∀ k : Nat, K ≤ k → F (k + 1) (xs.length : Int) = R) :
    ∀ (d k i : Nat), i + d = xs.length → d + K < k → F k (i : Int) = if (xs.drop i).all p = true then R else B := by
  intro d
  induction d with
  | zero =>
    intro k i hi hk
    obtain ⟨k, rfl⟩ : ∃ q, k = q + 1 := ⟨k - 1, by omega⟩
    have : i = xs.length := by omega
    subst this
    rw [hE k (by omega), List.drop_length]; rfl
  | succ d ih =>
    intro k i hi hk
    obtain ⟨k, rfl⟩ : ∃ q, k = q + 1 := ⟨k - 1, by omega⟩
    have hlt : i < xs.length := by omega
    rw [hF k i hlt, List.drop_eq_getElem_cons hlt, List.all_cons]
    cases h : p xs[i]
    · simp
    · simp only [if_true, Bool.true_and]; exact ih k (i + 1) (by omega) (by omega)
theorem eqBuf_self (b : Buf) : laws_eqBuf b.1 b.2.1 b.2.2 b.1 b.2.1 b.2.2 = some (true, ()) := by
  unfold laws_eqBuf
  cases b.2.2 <;> simp
theorem eqBufs (l : List Buf) (hl : l.length ≤ 1048576) : laws_eqBufS l l = some (true, ()) := by
  unfold laws_eqBufS
  have h := all_loop (fun k i => laws_eqBufS_l4 k l l i) l (fun _ => true) none (some (Sum.inr ())) 0 (by
    intro k i hi
    show laws_eqBufS_l4_step (laws_eqBufS_l4 k) l l (i : Int) = _
    unfold laws_eqBufS_l4_step
    dsimp only
    rw [eqBuf_self, decp (show (i : Int) < (l.length : Int) by omega), decp (show (0 : Int) ≤ (i : Int) by omega), wrap_succ i l.length hi (by omega)]
    rfl) (by
    intro k _
    show laws_eqBufS_l4_step (laws_eqBufS_l4 k) l l (l.length : Int) = _
    unfold laws_eqBufS_l4_step
    dsimp only
    rw [decn (show ¬ (l.length : Int) < (l.length : Int) by omega)]
    rfl) l.length K0 0 (by omega) (by rw [K0_eq]; omega)
  simp only [List.all_eq_true, implies_true, if_true] at h
  have h' : laws_eqBufS_l4 K0 l l 0 = some (Sum.inr ()) := h
  rw [h']
  simp
/-- A loop F that marks each element with running numbers, and a loop G that tells whether the marks stand. -/
theorem mark_held {α β γ : Type} (F : Nat → List α → Int → Int → Option β) (G : Nat → List α → Int → Int → Option γ) (fo : Int → List α → β) (go : Int → γ) (c : Int) (E : Int → α → α) (hc : 0 ≤ c)
    (hF : ∀ (k : Nat) (xs : List α) (m : Int) (i : Nat) (hi : i < xs.length), 0 ≤ m → m ≤ 4000000000000000000 → xs.length ≤ 140737488351232 → F (k + 1) xs m (i : Int) = F k (xs.set i (E m xs[i])) (m + c) ((i + 1 : Nat) : Int))
    (hFe : ∀ (k : Nat) (xs : List α) (m : Int), F (k + 1) xs m (xs.length : Int) = some (fo m xs))
    (hG : ∀ (k : Nat) (xs : List α) (m : Int) (i : Nat) (hi : i < xs.length) (a : α), 0 ≤ m → m ≤ 4000000000000000000 → xs.length ≤ 140737488351232 → xs[i] = E m a → G (k + 1) xs m (i : Int) = G k xs (m + c) ((i + 1 : Nat) : Int))
    (hGe : ∀ (k : Nat) (xs : List α) (m : Int), G (k + 1) xs m (xs.length : Int) = some (go m)) :
    ∀ (d k1 k2 i : Nat) (xs : List α) (m : Int), i + d = xs.length → d < k1 → d < k2 → 0 ≤ m → m + c * d ≤ 4000000000000000000 → xs.length ≤ 140737488351232 →
      ∃ ys, F k1 xs m (i : Int) = some (fo (m + c * d) ys) ∧ ys.length = xs.length ∧ (∀ j, j < i → ys[j]? = xs[j]?) ∧ G k2 ys m (i : Int) = some (go (m + c * d)) := by
  intro d
  induction d with
  | zero =>
    intro k1 k2 i xs m hi h1 h2 hm hb hl
    obtain ⟨k1, rfl⟩ : ∃ q, k1 = q + 1 := ⟨k1 - 1, by omega⟩
    obtain ⟨k2, rfl⟩ : ∃ q, k2 = q + 1 := ⟨k2 - 1, by omega⟩
    have : i = xs.length := by omega
    subst this
    exact ⟨xs, by rw [hFe]; simp, rfl, fun _ _ => rfl, by rw [hGe]; simp⟩
  | succ d ih =>
    intro k1 k2 i xs m hi h1 h2 hm hb hl
    obtain ⟨k1, rfl⟩ : ∃ q, k1 = q + 1 := ⟨k1 - 1, by omega⟩
    obtain ⟨k2, rfl⟩ : ∃ q, k2 = q + 1 := ⟨k2 - 1, by omega⟩
    have hlt : i < xs.length := by omega
    have hcd : 0 ≤ c * (d : Int) := Int.mul_nonneg hc (by omega)
    have hs : c * ((d + 1 : Nat) : Int) = c * (d : Int) + c := by rw [Int.natCast_succ, Int.mul_add, Int.mul_one]
    rw [hs] at hb ⊢
    obtain ⟨ys, e1, e2, e3, e4⟩ := ih k1 k2 (i + 1) (xs.set i (E m xs[i])) (m + c) (by simp; omega) (by omega) (by omega) (by omega) (by omega) (by simpa using hl)
    have hy : i < ys.length := by rw [e2]; simpa using hlt
    have hyi : ys[i] = E m xs[i] := by
      have h := e3 i (by omega)
      rw [List.getElem?_eq_getElem hy, List.getElem?_set_self hlt] at h
      exact Option.some.inj h
    have z : m + c + c * (d : Int) = m + (c * (d : Int) + c) := by omega
    rw [z] at e1 e4
    refine ⟨ys, ?_, by rw [e2]; simp, ?_, ?_⟩
    · rw [hF k1 xs m i hlt hm (by omega) hl]; exact e1
    · intro j hj
      rw [e3 j (by omega), List.getElem?_set_ne (by omega)]
    · rw [hG k2 ys m i hy xs[i] hm (by omega) (by rw [e2]; simpa using hl) hyi]; exact e4
def markB (m : Int) (_ : Buf) : Buf := (m, m + 1, (Int.tmod (m + 2) 3 == 0))
theorem markBufs (l : List Buf) (hl : l.length ≤ 1048576) : ∃ ys : List Buf, laws_markBufS_v2 l 1 = some (1 + 3 * (l.length : Int), ys, ()) ∧ ys.length = l.length ∧ laws_heldBufS ys 1 = some (1 + 3 * (l.length : Int), ()) := by
  obtain ⟨ys, e1, e2, _, e4⟩ := mark_held (fun k xs m i => laws_markBufS_v2_l2 k m i xs) (fun k xs m i => laws_heldBufS_l2 k xs m i) (fun m xs => (m, xs, ())) (fun m => Sum.inr (m, ())) 3 markB (by decide) (by
    intro k xs m i hi h0 hm hl
    show laws_markBufS_v2_l2_step (laws_markBufS_v2_l2 k) m (i : Int) xs = _
    have w1 : wrap64 (m + 1) = m + 1 := wrap_id (by omega) (by omega)
    have w2 : wrap64 (m + 1 + 1) = m + 2 := by rw [wrap_id (by clear w1; omega) (by clear w1; omega)]; clear w1; omega
    have w3 : wrap64 (m + 2 + 1) = m + 3 := by rw [wrap_id (by clear w1 w2; omega) (by clear w1 w2; omega)]; clear w1 w2; omega
    have d1 : decide ((i : Int) < (xs.length : Int)) = true := decp (by clear w1 w2 w3; omega)
    have d2 : decide ((0 : Int) ≤ (i : Int)) = true := decp (by clear w1 w2 w3; omega)
    unfold laws_markBufS_v2_l2_step
    simp only [w1, w2, w3, wrap_succ i xs.length hi (by clear w1 w2 w3 d1 d2; omega), List.length_set, d1, d2]
    unfold rd markB
    simp [hi]) (by
    intro k xs m
    show laws_markBufS_v2_l2_step (laws_markBufS_v2_l2 k) m (xs.length : Int) xs = _
    unfold laws_markBufS_v2_l2_step
    simp) (by
    intro k xs m i hi a h0 hm hl hx
    show laws_heldBufS_l2_step (laws_heldBufS_l2 k) xs m (i : Int) = _
    have w1 : wrap64 (m + 1) = m + 1 := wrap_id (by omega) (by omega)
    have w2 : wrap64 (m + 1 + 1) = m + 2 := by rw [wrap_id (by clear w1; omega) (by clear w1; omega)]; clear w1; omega
    have w3 : wrap64 (m + 2 + 1) = m + 3 := by rw [wrap_id (by clear w1 w2; omega) (by clear w1 w2; omega)]; clear w1 w2; omega
    have hr : rd R1 xs (i : Int) = markB m a := by rw [rd_at R1 xs i hi, hx]
    have d1 : decide ((i : Int) < (xs.length : Int)) = true := decp (by clear w1 w2 w3; omega)
    have d2 : decide ((0 : Int) ≤ (i : Int)) = true := decp (by clear w1 w2 w3; omega)
    unfold laws_heldBufS_l2_step
    simp only [w1, w2, w3, wrap_succ i xs.length hi (by clear w1 w2 w3 d1 d2; omega), hr, d1, d2, markB]
    simp) (by
    intro k xs m
    show laws_heldBufS_l2_step (laws_heldBufS_l2 k) xs m (xs.length : Int) = _
    unfold laws_heldBufS_l2_step
    simp) l.length K0 K0 0 l 1 (by omega) (by rw [K0_eq]; omega) (by rw [K0_eq]; omega) (by omega) (by omega) (by omega)
  have f1 : laws_markBufS_v2_l2 K0 1 0 l = some (1 + 3 * (l.length : Int), ys, ()) := e1
  have f2 : laws_heldBufS_l2 K0 ys 1 0 = some (Sum.inr (1 + 3 * (l.length : Int), ())) := e4
  refine ⟨ys, ?_, e2, ?_⟩
  · unfold laws_markBufS_v2
    rw [f1]
    rfl
  · unfold laws_heldBufS
    rw [f2]
    rfl
/-- Is a descriptor of a table of its own wrong? -/
def badTab (x y f : Int) : Bool := flag f 1 || (Int.tmod y 16 != 0) || !decide (16 ≤ y ∧ y ≤ 256) || (Int.tmod x 4 != 0)
abbrev Chain := Int × List Buf × Unit
/-- One descriptor. -/
def stp (m : ByteArray) (R : Int → Int → Bool → Int → Int → List Buf → Option Chain) (table size : Int) (inner : Bool) (at_ steps : Int) (bs : List Buf) : Option Chain :=
  if at_ ≥ size then some (5, [], ()) else if steps + 1 > size then some (9, [], ()) else
  let d := table + 16 * at_
  let f := word m (d + 8)
  if flag f 4 = true then
    if (inner || badTab (word m d) (word m (d + 4)) f) = true then some (3, [], ()) else
    if inB m.size (word m d) (word m (d + 4)) = true then R (word m d) (word m (d + 4) / 16) true 0 0 bs else some (2, [], ())
  else
    let code := bufCode m bs (word m d) (word m (d + 4)) (flag f 2)
    if code = 0 then (if flag f 1 = true then R table size inner (word m (d + 12)) (steps + 1) (bs ++ [(word m d, word m (d + 4), flag f 2)]) else some (0, bs ++ [(word m d, word m (d + 4), flag f 2)], ()))
    else some (code, [], ())
theorem spec_stp (rec : ByteArray → Int → Int → Bool → Int → Int → Int → Int → List Buf → Option Chain) (m : ByteArray) (table size : Int) (inner : Bool) (at_ steps z : Int) (bs : List Buf) (hm : m.size ≤ 65536)
    (ha : 0 ≤ at_) (hs : 0 ≤ steps) (hs' : steps ≤ size) (hz : size ≤ 16) (hr : 0 ≤ table) (hr1 : table + 16 * size ≤ m.size) (hb : bs.length ≤ 1000) :
    spec_ReadChain_l11_step rec m table size inner at_ steps z 0 bs = stp m (fun t s i a n l => rec m t s i a n z 0 l) table size inner at_ steps bs := by
  unfold spec_ReadChain_l11_step stp
  by_cases h : at_ ≥ size
  · rw [decp h, if_pos h, Bool.or_true]; rfl
  rw [decn h, if_neg h, decn (show ¬ at_ < 0 by omega), wrap_id (x := steps + 1) (by omega) (by omega)]
  dsimp only [Bool.or_false, cond_false]
  by_cases hst : steps + 1 > size
  · rw [decp hst, if_pos hst]; rfl
  rw [decn hst, if_neg hst]
  have f1 : wrap64 (16 * at_) = 16 * at_ := wrap_id (by omega) (by omega)
  have f2 : wrap64 (table + 16 * at_) = table + 16 * at_ := wrap_id (by clear f1; omega) (by clear f1; omega)
  rw [f1, f2]
  clear f1 f2
  have d0 : 0 ≤ table + 16 * at_ := by omega
  have d1 : table + 16 * at_ + 16 ≤ m.size := by omega
  generalize table + 16 * at_ = d at d0 d1
  have q0 := spec_word m d (by omega) d0 (by omega)
  have q4 := spec_word m (d + 4) (by omega) (by omega) (by omega)
  have q8 := spec_word m (d + 8) (by omega) (by omega) (by omega)
  have q12 := spec_word m (d + 12) (by omega) (by omega) (by omega)
  have r0 := word_range m d
  have r4 := word_range m (d + 4)
  have sb := spec_buf m bs (word m d) (word m (d + 4)) (flag (word m (d + 8)) 2) (by omega)
  have rm : roomy ((bs.length : Int) + ([(word m d, word m (d + 4), flag (word m (d + 8)) 2)].length : Int)) 24 = true := roomy_ok (by simp; omega)
  have e4 : wrap64 (d + 4) = d + 4 := wrap_id (by omega) (by omega)
  have e8 : wrap64 (d + 8) = d + 8 := wrap_id (by clear e4; omega) (by clear e4; omega)
  have e12 : wrap64 (d + 12) = d + 12 := wrap_id (by clear e4 e8; omega) (by clear e4 e8; omega)
  have et : wrap64 (Int.tdiv (word m (d + 4)) 16) = word m (d + 4) / 16 := by
    clear e4 e8 e12
    rw [Int.tdiv_eq_ediv_of_nonneg r4.1, wrap_id (by omega) (by omega)]
  rw [q0, Option.bind_some, e4, q4, Option.bind_some, e8, q8, Option.bind_some, e12, q12, Option.bind_some]
  simp only [flag_def, flag_not]
  rw [spec_in, Option.bind_some, sb, Option.bind_some, rm, et]
  clear e4 e8 e12 et q0 q4 q8 q12 sb rm
  have hy : (decide (word m (d + 4) < 16) || decide (word m (d + 4) > 256)) = !decide (16 ≤ word m (d + 4) ∧ word m (d + 4) ≤ 256) := by
    rw [Bool.eq_iff_iff]
    simp
  rw [Bool.or_assoc (((inner || flag (word m (d + 8)) 1) || (Int.tmod (word m (d + 4)) 16 != 0))), hy]
  unfold badTab
  generalize rec m (word m d) (word m (d + 4) / 16) true 0 0 z 0 bs = r1
  generalize rec m table size inner (word m (d + 12)) (steps + 1) z 0 (bs ++ [(word m d, word m (d + 4), flag (word m (d + 8)) 2)]) = r2
  generalize bs ++ [(word m d, word m (d + 4), flag (word m (d + 8)) 2)] = bs'
  generalize bufCode m bs (word m d) (word m (d + 4)) (flag (word m (d + 8)) 2) = code
  generalize decide (16 ≤ word m (d + 4) ∧ word m (d + 4) ≤ 256) = b1
  generalize (Int.tmod (word m (d + 4)) 16 != 0) = b2
  generalize (Int.tmod (word m d) 4 != 0) = b3
  generalize inB m.size (word m d) (word m (d + 4)) = b4
  generalize flag (word m (d + 8)) 1 = b5
  generalize flag (word m (d + 8)) 4 = b6
  clear hy
  cases b6
  · by_cases hc : code = 0
    · subst hc
      cases b5 <;> rfl
    · rw [bne_iff_ne.2 hc, if_neg hc]; rfl
  · cases inner <;> cases b5 <;> cases b2 <;> cases b1 <;> cases b3 <;> cases b4 <;> rfl
theorem impl_stp (rec : ByteArray → Int → Int → Int → Int → Bool → Int → List Buf → Option Chain) (m : ByteArray) (table size : Int) (inner : Bool) (at_ steps z : Int) (bs : List Buf) (hm : m.size ≤ 65536)
    (ha : 0 ≤ at_) (hs : 0 ≤ steps) (hs' : steps ≤ size) (hz : size ≤ 16) (hr : 0 ≤ table) (hr1 : table + 16 * size ≤ m.size) (hb : bs.length ≤ 1000) :
    impl_yreadChain_l6_step rec m table size at_ steps inner z bs = stp m (fun t s i a n l => rec m t s a n i z l) table size inner at_ steps bs := by
  unfold impl_yreadChain_l6_step stp
  by_cases h : at_ ≥ size
  · rw [decp h, if_pos h]; simp
  rw [decn h, if_neg h, wrap_id (x := steps + 1) (by omega) (by omega)]
  dsimp only [cond_false]
  by_cases hst : steps + 1 > size
  · rw [decp hst, if_pos hst]; rfl
  rw [decn hst, if_neg hst]
  have f1 : wrap64 (16 * at_) = 16 * at_ := wrap_id (by omega) (by omega)
  have f2 : wrap64 (table + 16 * at_) = table + 16 * at_ := wrap_id (by clear f1; omega) (by clear f1; omega)
  rw [f1, f2]
  clear f1 f2
  have d0 : 0 ≤ table + 16 * at_ := by omega
  have d1 : table + 16 * at_ + 16 ≤ m.size := by omega
  generalize table + 16 * at_ = d at d0 d1
  have rd := impl_readDesc m d (by omega) d0 (by omega)
  have r0 := word_range m d
  have r4 := word_range m (d + 4)
  have ia := impl_add m bs (word m d) (word m (d + 4)) (word m (d + 8)) (word m (d + 12)) (by omega)
  have et : wrap64 (Int.tdiv (word m (d + 4)) 16) = word m (d + 4) / 16 := by
    rw [Int.tdiv_eq_ediv_of_nonneg r4.1, wrap_id (by omega) (by omega)]
  rw [rd, Option.bind_some, impl_has, Option.bind_some]
  dsimp only
  rw [impl_has, yin_eq, impl_in, Option.bind_some, ia, Option.bind_some, Option.bind_some, et]
  unfold badTab
  clear et rd ia
  generalize rec m (word m d) (word m (d + 4) / 16) 0 0 true z bs = r1
  generalize bs ++ [(word m d, word m (d + 4), flag (word m (d + 8)) 2)] = bs'
  generalize bufCode m bs (word m d) (word m (d + 4)) (flag (word m (d + 8)) 2) = code
  generalize decide (16 ≤ word m (d + 4) ∧ word m (d + 4) ≤ 256) = b1
  generalize (Int.tmod (word m (d + 4)) 16 != 0) = b2
  generalize (Int.tmod (word m d) 4 != 0) = b3
  generalize inB m.size (word m d) (word m (d + 4)) = b4
  generalize flag (word m (d + 8)) 1 = b5
  generalize flag (word m (d + 8)) 4 = b6
  cases b6
  · by_cases hc : code = 0
    · subst hc
      cases b5 <;> rfl
    · rw [if_neg hc, if_neg hc]
      dsimp only
      rw [bne_iff_ne.2 hc]; rfl
  · cases inner <;> cases b5 <;> cases b2 <;> cases b1 <;> cases b3 <;> cases b4 <;> rfl
/-- Both walk the same chain. -/
theorem chain_loop (m : ByteArray) (hm : m.size ≤ 65536) : ∀ (μ n1 n2 : Nat) (table size : Int) (inner : Bool) (at_ steps z z' : Int) (bs : List Buf),
    μ ≤ n1 → μ ≤ n2 → 0 ≤ at_ → 0 ≤ steps → steps ≤ size → size ≤ 16 → 0 ≤ table → table + 16 * size ≤ m.size →
    (if inner = true then 0 else 17) + (size - steps) < (μ : Int) → (bs.length : Int) ≤ (if inner = true then 16 else 0) + steps →
    ∃ R : Chain, R.2.1.length ≤ 40 ∧ spec_ReadChain_l11 n1 m table size inner at_ steps z 0 bs = some R ∧ impl_yreadChain_l6 n2 m table size at_ steps inner z' bs = some R := by
  intro μ
  induction μ with
  | zero =>
    intro n1 n2 table size inner at_ steps z z' bs h1 h2 ha hs hs' hz ht ht' hmu hb
    exfalso
    split at hmu <;> omega
  | succ μ ih =>
    intro n1 n2 table size inner at_ steps z z' bs h1 h2 ha hs hs' hz ht ht' hmu hb
    obtain ⟨n1, rfl⟩ : ∃ q, n1 = q + 1 := ⟨n1 - 1, by omega⟩
    obtain ⟨n2, rfl⟩ : ∃ q, n2 = q + 1 := ⟨n2 - 1, by omega⟩
    have hb' : bs.length ≤ 1000 := by split at hb <;> omega
    show ∃ R : Chain, R.2.1.length ≤ 40 ∧ spec_ReadChain_l11_step (spec_ReadChain_l11 n1) m table size inner at_ steps z 0 bs = some R ∧ impl_yreadChain_l6_step (impl_yreadChain_l6 n2) m table size at_ steps inner z' bs = some R
    rw [spec_stp _ m table size inner at_ steps z bs hm ha hs hs' hz ht ht' hb', impl_stp _ m table size inner at_ steps z' bs hm ha hs hs' hz ht ht' hb']
    unfold stp
    dsimp only
    by_cases c1 : at_ ≥ size
    · simp only [if_pos c1]; exact ⟨_, by simp, rfl, rfl⟩
    by_cases c2 : steps + 1 > size
    · simp only [if_neg c1, if_pos c2]; exact ⟨_, by simp, rfl, rfl⟩
    simp only [if_neg c1, if_neg c2]
    by_cases c3 : flag (word m (table + 16 * at_ + 8)) 4 = true
    · simp only [if_pos c3]
      by_cases c4 : (inner || badTab (word m (table + 16 * at_)) (word m (table + 16 * at_ + 4)) (word m (table + 16 * at_ + 8))) = true
      · simp only [if_pos c4]; exact ⟨_, by simp, rfl, rfl⟩
      simp only [if_neg c4]
      by_cases c5 : inB m.size (word m (table + 16 * at_)) (word m (table + 16 * at_ + 4)) = true
      · simp only [if_pos c5]
        have hin : inner = false := by cases inner <;> simp_all
        subst hin
        have hB := inB_true (by omega) (by omega) c5
        have c7 : 16 ≤ word m (table + 16 * at_ + 4) ∧ word m (table + 16 * at_ + 4) ≤ 256 := by
          by_cases h : 16 ≤ word m (table + 16 * at_ + 4) ∧ word m (table + 16 * at_ + 4) ≤ 256
          · exact h
          · exfalso
            apply c4
            unfold badTab
            rw [decn h]
            simp
        refine ih n1 n2 _ _ true 0 0 z z' bs (by omega) (by omega) (by omega) (by omega) (by omega) (by omega) hB.1 (by omega) ?_ ?_
        · simp only [if_true, Bool.false_eq_true, if_false] at hmu ⊢
          omega
        · simp only [if_true, Bool.false_eq_true, if_false] at hb ⊢
          omega
      · simp only [if_neg c5]; exact ⟨_, by simp, rfl, rfl⟩
    · simp only [if_neg c3]
      by_cases c4 : bufCode m bs (word m (table + 16 * at_)) (word m (table + 16 * at_ + 4)) (flag (word m (table + 16 * at_ + 8)) 2) = 0
      · simp only [if_pos c4]
        by_cases c5 : flag (word m (table + 16 * at_ + 8)) 1 = true
        · simp only [if_pos c5]
          have r := word_range m (table + 16 * at_ + 12)
          refine ih n1 n2 _ _ inner _ _ z z' _ (by omega) (by omega) r.1 (by omega) (by omega) hz ht ht' ?_ ?_
          · split at hmu <;> split <;> omega
          · simp only [List.length_append, List.length_cons, List.length_nil]
            split at hb <;> split <;> first | omega | simp_all
        · simp only [if_neg c5]
          refine ⟨_, ?_, rfl, rfl⟩
          simp only [List.length_append, List.length_cons, List.length_nil]
          split at hb <;> omega
      · simp only [if_neg c4]; exact ⟨_, by simp, rfl, rfl⟩
/-- Both read the same, from a right queue. -/
theorem yread_same (m : ByteArray) (s d a u t g head : Int) (hq : queueOk m s d a u t g = true) : ∃ R : Chain, R.2.1.length ≤ 40 ∧ spec_ReadChain m s d a u t g head = some R ∧ impl_yreadChain m s d a u t g head = some R := by
  obtain ⟨q1, q2, q3, q4, q5, q6, q7, q8, q9, q10, q11, q12, q13, q14⟩ := queue_true hq
  unfold spec_ReadChain impl_yreadChain
  rw [decn (show ¬ (m.size : Int) > 65536 by omega)]
  simp only [cond_false, spec_queue, yin_eq, Option.bind_some, hq]
  have e : wrap64 (s - 1) = s - 1 := wrap_id (by omega) (by omega)
  rw [e]
  clear e
  by_cases hd : 0 ≤ head ∧ head ≤ s - 1
  · rw [decp hd, decn (show ¬ head < 0 by omega), decn (show ¬ head ≥ s by omega)]
    obtain ⟨R, r1, r2, r3⟩ := chain_loop m (by omega) 40 K0 K0 d s false head 0 0 0 [] (by rw [K0_eq]; omega) (by rw [K0_eq]; omega) (by omega) (by omega) (by omega) (by omega) (by omega) (by omega) (by simp; omega) (by simp)
    refine ⟨R, r1, ?_, ?_⟩
    · simp [r2]
    · simp [r3]
  · refine ⟨(1, [], ()), by simp, ?_, ?_⟩
    · by_cases h1 : head < 0
      · rw [decp h1]; simp
      · rw [decn h1, decp (show head ≥ s by omega)]; simp
    · rw [decn hd]; simp
theorem mod_eq (a b : Int) (hb : 0 < b) : (if a.tmod b < 0 then a.tmod b + b else a.tmod b) = a % b := by
  have h1 := Int.emod_nonneg a (show b ≠ 0 by omega)
  have h2 := Int.emod_lt_of_pos a hb
  rw [Int.tmod_eq_emod]
  by_cases h : 0 ≤ a ∨ b ∣ a
  · rw [if_pos h]; simp; omega
  · rw [if_neg h, if_pos (by omega)]; omega
theorem mod_cond (a b : Int) (hb : 0 < b) (hb2 : b ≤ 4611686018427387904) : (bif decide (a.tmod b < 0) then wrap64 (a.tmod b + b) else a.tmod b) = a % b := by
  rw [← mod_eq a b hb]
  have h1 := Int.emod_nonneg a (show b ≠ 0 by omega)
  have h2 := Int.emod_lt_of_pos a hb
  by_cases h : a.tmod b < 0
  · have h3 : -b < a.tmod b := by
      rw [Int.tmod_eq_emod]; split <;> omega
    rw [decp h, if_pos h]
    exact wrap_id (by omega) (by omega)
  · rw [decn h, if_neg h]; rfl
theorem spec_mod (a b : Int) (hb : 0 < b) (hb2 : b ≤ 4611686018427387904) : spec_l01Mod a b = some (a % b, ()) := by
  unfold spec_l01Mod
  dsimp only
  rw [mod_cond a b hb hb2, show (b == 0) = false from beq_false_of_ne (by omega)]
  rfl
theorem impl_mod (a b : Int) (hb : 0 < b) (hb2 : b ≤ 4611686018427387904) : impl_ymod a b = some (a % b, ()) := by
  unfold impl_ymod
  dsimp only
  rw [mod_cond a b hb hb2, show (b == 0) = false from beq_false_of_ne (by omega)]
  rfl
abbrev Taken := Int × Int × List Buf × Int × Int × Int × Int × Int × Int × Unit
/-- Both take the same chain. -/
theorem ytake_same (m : ByteArray) (s d a u t g : Int) (hq : queueOk m s d a u t g = true) : ∃ R : Taken, R.2.2.1.length ≤ 40 ∧ spec_TakeChain m s d a u t g = some R ∧ impl_ytakeChain m s d a u t g = some R := by
  obtain ⟨q1, q2, q3, q4, q5, q6, q7, q8, q9, q10, q11, q12, q13, q14⟩ := queue_true hq
  unfold spec_TakeChain impl_ytakeChain
  rw [decn (show ¬ (m.size : Int) > 65536 by omega)]
  simp only [cond_false, spec_queue, Option.bind_some, hq]
  have e4 : wrap64 (a + 4) = a + 4 := wrap_id (by omega) (by omega)
  have r4 := word_range m (a + 4)
  rw [e4, spec_word m (a + 4) (by clear e4; omega) (by clear e4; omega) (by clear e4; omega), impl_word m (a + 4) (by clear e4; omega) (by clear e4; omega) (by clear e4; omega)]
  clear e4
  simp only [Option.bind_some]
  have et : Int.tmod (word m (a + 4)) 65536 = word m (a + 4) % 65536 := Int.tmod_eq_emod_of_nonneg r4.1
  have w1 : wrap64 (word m (a + 4) - t) = word m (a + 4) - t := wrap_id (by clear et; omega) (by clear et; omega)
  have w2 : wrap64 (word m (a + 4) % 65536 - t) = word m (a + 4) % 65536 - t := wrap_id (by clear et w1; omega) (by clear et w1; omega)
  have em : (word m (a + 4) % 65536 - t) % 65536 = (word m (a + 4) - t) % 65536 := by clear et w1 w2; omega
  rw [et, w1, w2, spec_mod _ _ (by decide) (by decide), impl_mod _ _ (by decide) (by decide), em]
  clear et w1 w2 em
  simp only [Option.bind_some]
  generalize (word m (a + 4) - t) % 65536 = n
  have hs0 : (s == 0) = false := beq_false_of_ne (by omega)
  have hmt : Int.tmod t s = t % s := Int.tmod_eq_emod_of_nonneg q11
  have k1 := Int.emod_nonneg t (show s ≠ 0 by omega)
  have k2 := Int.emod_lt_of_pos t (show 0 < s by omega)
  have w3 : wrap64 (4 * (t % s)) = 4 * (t % s) := wrap_id (by omega) (by omega)
  have w4 : wrap64 (a + 8) = a + 8 := wrap_id (by clear w3; omega) (by clear w3; omega)
  have w5 : wrap64 (a + 8 + 4 * (t % s)) = a + 8 + 4 * (t % s) := wrap_id (by clear w3 w4; omega) (by clear w3 w4; omega)
  rw [hmt, w3, w4, w5, hs0]
  clear hmt w3 w4 w5
  rw [spec_word m _ (by omega) (by omega) (by omega), impl_word m _ (by omega) (by omega) (by omega)]
  simp only [Option.bind_some]
  obtain ⟨R, r1, r2, r3⟩ := yread_same m s d a u t g (word m (a + 8 + 4 * (t % s))) hq
  rw [r2, r3]
  by_cases c1 : n = 0
  · exact ⟨(5, 0, [], 0, 0, 0, 0, 0, 0, ()), by simp, by simp [c1], by simp [c1]⟩
  have c1' : (n == 0) = false := beq_false_of_ne c1
  by_cases c2 : n > s
  · exact ⟨(8, 0, [], 0, 0, 0, 0, 0, 0, ()), by simp, by simp [c1', c2], by simp [c1', c2]⟩
  refine ⟨(R.1, word m (a + 8 + 4 * (t % s)), R.2.1, s, d, a, u, Int.tmod (wrap64 (t + 1)) 65536, g, ()), r1, ?_, ?_⟩
  · simp [c1', c2]
  · simp [c1', c2]
theorem take_same (m : ByteArray) (s d a u t g : Int) : ∃ R : Taken, R.2.2.1.length ≤ 40 ∧ spec_TakeChain m s d a u t g = some R ∧ impl_TakeChain m s d a u t g = some R := by
  unfold impl_TakeChain impl_ymemQueue
  rw [impl_big1]
  by_cases hm : (m.size : Int) > 65536
  · refine ⟨(2, 0, [], 0, 0, 0, 0, 0, 0, ()), by simp, ?_, ?_⟩
    · unfold spec_TakeChain; rw [decp hm]; rfl
    · rw [decp hm]; rfl
  rw [decn hm]
  simp only [cond_false, impl_queue, Option.bind_some]
  cases hq : queueOk m s d a u t g
  · refine ⟨(1, 0, [], 0, 0, 0, 0, 0, 0, ()), by simp, ?_, by simp⟩
    unfold spec_TakeChain
    rw [decn hm]
    simp [spec_queue, hq]
  · obtain ⟨R, r1, r2, r3⟩ := ytake_same m s d a u t g hq
    exact ⟨R, r1, r2, by simp [r3]⟩
theorem eqTaken_self (R : Taken) (h : R.2.2.1.length ≤ 1048576) : laws_eqTakenChain R.1 R.2.1 R.2.2.1 R.2.2.2.1 R.2.2.2.2.1 R.2.2.2.2.2.1 R.2.2.2.2.2.2.1 R.2.2.2.2.2.2.2.1 R.2.2.2.2.2.2.2.2.1 R.1 R.2.1 R.2.2.1 R.2.2.2.1 R.2.2.2.2.1 R.2.2.2.2.2.1 R.2.2.2.2.2.2.1 R.2.2.2.2.2.2.2.1 R.2.2.2.2.2.2.2.2.1 = some (true, ()) := by
  unfold laws_eqTakenChain laws_eqQueue
  rw [eqBufs _ h]
  simp
theorem FnExactTakeChain : laws_FnExactTakeChain.Pure := by
  intro m q hm hq
  unfold laws_FnExactTakeChain laws_toQueue
  dsimp only [Option.bind_some]
  obtain ⟨R, hl, e1, e2⟩ := take_same m q.1 q.2.1 q.2.2.1 q.2.2.2.1 q.2.2.2.2.1 q.2.2.2.2.2
  obtain ⟨ys, m1, m2, m3⟩ := markBufs R.2.2.1 (by omega)
  rw [e1, e2]
  dsimp only [Option.bind_some]
  rw [eqTaken_self R (by omega)]
  unfold laws_markTakenChain_v2 laws_heldTakenChain
  simp only [m1, m3, Option.bind_some]
  rw [decn (show ¬ (1 + 3 * (R.2.2.1.length : Int) < 0) by omega)]
  dsimp only [cond_false, Option.bind_some]
  rw [decn (show ¬ (1 + 3 * (R.2.2.1.length : Int) < 0) by omega)]
  simp
end Go.Ab.FnExactTakeChain.Pure
