/- The plain statement of the law FnExactPostChain. -/
import Derived.Test.YthcmgjbkmnpibaaStFnExactPostChain
import Derived.OpenShut
namespace Go.Proofs.Ythcmgjbkmnpibaa.PureFnExactPostChain
set_option linter.unusedVariables false
set_option linter.unusedSimpArgs false
open Go.RowKit Go.Proofs.Ythcmgjbkmnpibaa.PFnExactPostChain Go.Proofs.YthcmgjbkmnpibaaW.PrintWords Go.Proofs.YthcmgjbkmnpibaaW.PrintLast Go.Proofs.YthcmgjbkmnpibaaW.PrintMore

/-! ### mem -/
/-- Memory as both want it: whole pages, at least one. -/
def memOk (m : ByteArray) : Bool := decide (256 ≤ (m.size : Int) ∧ (m.size : Int) ≤ 65536 ∧ (m.size : Int) % 256 = 0)
theorem impl_memOk (m : ByteArray) : impl_ymemOk.f m = some (memOk m) := by
  unfold impl_ymemOk.f memOk
  repeat' split
  all_goals (congr 1; rw [Bool.eq_iff_iff]; simp; omega)
theorem spec_memOk (m : ByteArray) : spec_MemFault.f m = some (if memOk m = true then 0 else 1) := by
  unfold spec_MemFault.f memOk
  grind
/-- A place in so many bytes. -/
def inB (n a b : Int) : Bool := decide (0 ≤ a ∧ 0 ≤ b ∧ a ≤ n ∧ b ≤ wrap64 (n - a))
theorem spec_in (m : ByteArray) (a b : Int) : spec_l10In.f m a b = some (inB m.size a b) := by
  unfold spec_l10In.f inB
  repeat' split
  all_goals (congr 1; rw [Bool.eq_iff_iff]; simp; omega)
theorem impl_in (n a b : Int) : impl_yfits.f n a b = some (inB n a b) := by
  unfold impl_yfits.f inB
  repeat' split
  all_goals (congr 1; rw [Bool.eq_iff_iff]; simp; omega)
theorem inB_true {n a b : Int} (h0 : 0 ≤ n) (hn : n ≤ 140737488351232) (h : inB n a b = true) : 0 ≤ a ∧ 0 ≤ b ∧ a + b ≤ n := by
  unfold inB at h
  simp only [decide_eq_true_eq] at h
  obtain ⟨h1, h2, h3, h4⟩ := h
  have e : wrap64 (n - a) = n - a := by unfold wrap64; omega
  rw [e] at h4
  omega

/-! ### yin -/
theorem impl_yin (a b c : Int) : impl_yin.f a b c = some (decide (b ≤ a ∧ a ≤ c)) := by
  unfold impl_yin.f
  split
  all_goals (congr 1; rw [Bool.eq_iff_iff]; simp; try omega)

/-! ### place -/
def placeOk (n a b : Int) : Bool := decide (Int.tmod a 4 = 0) && inB n a b
theorem impl_place (m : ByteArray) (a b : Int) : impl_yplace.f m a b = some (placeOk m.size a b) := by
  unfold impl_yplace.f placeOk
  simp only [impl_in, Option.bind_some]
  split <;> rename_i h <;> simp [h]

/-! ### queue -/
/-- How many a queue may hold. -/
def sizeOk (s : Int) : Bool := s == 1 || s == 2 || s == 4 || s == 8 || s == 16
theorem spec_sizes (k : Nat) (hk : 6 ≤ k) (s : Int) : spec_l01InInts.f k ([1, 2, 4, 8, 16] : List Int) s = some (sizeOk s) := by
  obtain ⟨k, rfl⟩ : ∃ m, k = m + 6 := ⟨k - 6, by omega⟩
  unfold spec_l01InInts.f sizeOk
  simp only [spec_l01InInts.l0, rd, wrap64]
  simp (config := {decide := true})
  grind
theorem impl_sizes (k : Nat) (hk : 6 ≤ k) (s : Int) : slices_Contains_int64.f k ([1, 2, 4, 8, 16] : List Int) s = some (sizeOk s) := by
  obtain ⟨k, rfl⟩ : ∃ m, k = m + 6 := ⟨k - 6, by omega⟩
  unfold slices_Contains_int64.f slices_Index_int64.f sizeOk
  simp only [slices_Index_int64.l0, rd, wrap64]
  simp (config := {decide := true})
  grind
theorem sizeOk_le {s : Int} (h : sizeOk s = true) : 1 ≤ s ∧ s ≤ 16 := by
  unfold sizeOk at h
  simp at h
  omega
/-- What a queue is. -/
def queueOk (m : ByteArray) (s d a u t g : Int) : Bool :=
  memOk m && sizeOk s && placeOk m.size d (wrap64 (16 * s)) && placeOk m.size a (wrap64 (8 + wrap64 (4 * s))) && placeOk m.size u (wrap64 (8 + wrap64 (8 * s))) && decide (0 ≤ t ∧ t ≤ 65535) && decide (0 ≤ g ∧ g ≤ 65535)
theorem spec_queue (k : Nat) (hk : 7 ≤ k) (m : ByteArray) (s d a u t g : Int) : spec_QueueFault.f k m s d a u t g = some (if queueOk m s d a u t g = true then 0 else 1) := by
  obtain ⟨k, rfl⟩ : ∃ m, k = m + 1 := ⟨k - 1, by omega⟩
  unfold spec_QueueFault.f queueOk placeOk
  simp only [spec_memOk, spec_sizes _ (show 6 ≤ k + 1 by omega), spec_QueueFault.j0, spec_in, Option.bind_some]
  grind
theorem impl_queue (k : Nat) (hk : 6 ≤ k) (m : ByteArray) (s d a u t g : Int) : impl_QueueFault.f k m s d a u t g = some (if queueOk m s d a u t g = true then 0 else 1) := by
  unfold impl_QueueFault.f queueOk
  simp only [impl_memOk, impl_sizes _ hk, impl_place, impl_yin, Option.bind_some]
  grind

/-! ### wbase -/
theorem wrap_id {x : Int} (h0 : -9223372036854775808 ≤ x) (h1 : x ≤ 9223372036854775807) : wrap64 x = x := by unfold wrap64; omega
theorem wraps_i64 (n : Int) (h0 : 0 ≤ n) (h1 : n < 2 ^ 63) : IntKind.i64.wrap n = n := by rw [IntKind.wrap_i64]; omega
theorem or_comm_i64 (x y : Int) : Go.bits .or .i64 x y = Go.bits .or .i64 y x := by
  unfold Go.bits
  simp only [BitVec.or_comm]
theorem or_low (i : Nat) (x y : Int) (hx0 : 0 ≤ x) (hx : x < 2 ^ i) (hy0 : 0 ≤ y) (hy : y % 2 ^ i = 0) (hy1 : y < 2 ^ 63) (hx1 : x < 2 ^ 63) : Go.bits .or .i64 x y = x + y := by
  rw [or_comm_i64, Int.add_comm]
  exact bits_join .i64 63 (by decide) wraps_i64 i y x hy0 hy hy1 hx0 hx hx1
theorem and_mask (i : Nat) (hi : i ≤ 63) (x : Int) (h0 : 0 ≤ x) (h1 : x < 2 ^ 63) : Go.bits .and .i64 x (2 ^ i - 1) = x % 2 ^ i :=
  bits_mask .i64 63 (by decide) wraps_i64 i hi x h0 h1

/-! ### words -/
/-- Four bytes as a number. -/
def word (m : ByteArray) (a : Int) : Int := bt m a + bt m (a + 1) * 256 + bt m (a + 2) * 65536 + bt m (a + 3) * 16777216
theorem word_range (m : ByteArray) (a : Int) : 0 ≤ word m a ∧ word m a < 4294967296 := by
  have h0 := bt_range m a; have h1 := bt_range m (a + 1); have h2 := bt_range m (a + 2); have h3 := bt_range m (a + 3)
  unfold word; omega
theorem spec_word (m : ByteArray) (a : Int) (hm : m.size ≤ 140737488351232) (h0 : 0 ≤ a) (h1 : a + 4 ≤ m.size) : spec_l01Word.f m a = some (word m a) := by
  have b0 := bt_range m a; have b1 := bt_range m (a + 1); have b2 := bt_range m (a + 2); have b3 := bt_range m (a + 3)
  have e1 : wrap64 (a + 1) = a + 1 := wrap_id (by omega) (by omega)
  have e2 : wrap64 (a + 2) = a + 2 := wrap_id (by omega) (by omega)
  have e3 : wrap64 (a + 3) = a + 3 := wrap_id (by omega) (by omega)
  unfold spec_l01Word.f word
  rw [e1, e2, e3, if_pos h0, if_pos (by omega), if_pos (by omega), if_pos (by omega), if_pos (by omega), if_pos (by omega), if_pos (by omega), if_pos (by omega)]
  rw [wrap_id (x := bt m a) (by omega) (by omega), wrap_id (x := bt m (a + 1)) (by omega) (by omega), wrap_id (x := bt m (a + 2)) (by omega) (by omega), wrap_id (x := bt m (a + 3)) (by omega) (by omega)]
  rw [wrap_id (x := bt m (a + 1) * 256) (by omega) (by omega), wrap_id (x := bt m (a + 2) * 65536) (by omega) (by omega), wrap_id (x := bt m (a + 3) * 16777216) (by omega) (by omega)]
  rw [wrap_id (x := bt m a + bt m (a + 1) * 256) (by omega) (by omega), wrap_id (x := bt m a + bt m (a + 1) * 256 + bt m (a + 2) * 65536) (by omega) (by omega), wrap_id (by omega) (by omega)]

/-! ### iword -/
theorem impl_word (m : ByteArray) (a : Int) (hm : m.size ≤ 140737488351232) (h0 : 0 ≤ a) (h1 : a + 4 ≤ m.size) : impl_ywordAt.f m a = some (word m a) := by
  have b0 := bt_range m a; have b1 := bt_range m (a + 1); have b2 := bt_range m (a + 2); have b3 := bt_range m (a + 3)
  have e1 : wrap64 (a + 1) = a + 1 := wrap_id (by omega) (by omega)
  have e2 : wrap64 (a + 2) = a + 2 := wrap_id (by omega) (by omega)
  have e3 : wrap64 (a + 3) = a + 3 := wrap_id (by omega) (by omega)
  unfold impl_ywordAt.f word
  rw [e1, e2, e3, if_pos h0, if_pos (by omega), if_pos (by omega), if_pos (by omega), if_pos (by omega), if_pos (by omega), if_pos (by omega), if_pos (by omega)]
  rw [wrap_id (x := bt m a) (by omega) (by omega), wrap_id (x := bt m (a + 1)) (by omega) (by omega), wrap_id (x := bt m (a + 2)) (by omega) (by omega), wrap_id (x := bt m (a + 3)) (by omega) (by omega)]
  rw [wrap_id (x := bt m (a + 1) * 256) (by omega) (by omega), wrap_id (x := bt m (a + 2) * 65536) (by omega) (by omega), wrap_id (x := bt m (a + 3) * 16777216) (by omega) (by omega)]
  rw [or_low 8 (bt m a) (bt m (a + 1) * 256) (by omega) (by omega) (by omega) (by omega) (by omega) (by omega)]
  rw [or_low 16 (bt m a + bt m (a + 1) * 256) (bt m (a + 2) * 65536) (by omega) (by omega) (by omega) (by omega) (by omega) (by omega)]
  rw [or_low 24 _ (bt m (a + 3) * 16777216) (by omega) (by omega) (by omega) (by omega) (by omega) (by omega)]

/-! ### isword -/
def isWord (n : Int) : Bool := decide (0 ≤ n ∧ n < 4294967296)
theorem spec_isWord (n : Int) : spec_l01IsWord.f n = some (isWord n) := by
  unfold spec_l01IsWord.f isWord
  split
  all_goals (congr 1; rw [Bool.eq_iff_iff]; simp; try omega)
theorem impl_isWord (n : Int) : impl_yisWord.f n = some (isWord n) := by
  unfold impl_yisWord.f isWord
  split
  all_goals (congr 1; rw [Bool.eq_iff_iff]; simp; try omega)

/-! ### put -/
/-- A number's four bytes. -/
def wordBytes (n : Int) : ByteArray := strOfNums [n % 4294967296 % 256, n % 4294967296 / 256 % 256, n % 4294967296 / 65536 % 256, n % 4294967296 / 16777216 % 256]
theorem wordBytes_size (n : Int) : (wordBytes n).size = 4 := rfl
theorem impl_putWord (n : Int) : impl_PutWord.f n = some (wordBytes n) := by
  unfold impl_PutWord.f wordBytes
  have : n % 4294967296 / 16777216 = n % 4294967296 / 16777216 % 256 := by omega
  rw [← this]
theorem tmod_word (n : Int) : (if Int.tmod n 4294967296 < 0 then wrap64 (Int.tmod n 4294967296 + 4294967296) else Int.tmod n 4294967296) = n % 4294967296 := by
  have h := Int.tmod_eq_emod (a := n) (b := 4294967296)
  split
  · rename_i hn
    rw [wrap_id (by have := Int.emod_nonneg n (b := 4294967296) (by decide); split at h <;> omega) (by omega)]
    have := Int.emod_nonneg n (b := 4294967296) (by decide)
    split at h <;> omega
  · rename_i hn
    have := Int.emod_lt_of_pos n (b := 4294967296) (by decide)
    split at h <;> omega
theorem spec_wordOf (n : Int) : spec_Word.f n = some (n % 4294967296) := by
  unfold spec_Word.f spec_l01Mod.f
  rw [if_neg (by decide)]
  have h := tmod_word n
  split <;> rename_i hn
  · rw [if_pos hn] at h; rw [h]; rfl
  · rw [if_neg hn] at h; rw [h]; rfl
theorem spec_putWord (n : Int) : spec_PutWord.f n = some (wordBytes n) := by
  unfold spec_PutWord.f wordBytes
  rw [spec_wordOf]; rfl
/-- A text with others in the place of some of its bytes. -/
def splice (m : ByteArray) (a : Int) (t : ByteArray) : ByteArray := m.extract 0 a.toNat ++ t ++ m.extract (a + t.size).toNat m.size
theorem splice_size (m : ByteArray) (a : Int) (t : ByteArray) (h0 : 0 ≤ a) (h1 : a + t.size ≤ m.size) : (splice m a t).size = m.size := by
  unfold splice
  simp only [ByteArray.size_append, ByteArray.size_extract]
  omega
theorem impl_splice (m : ByteArray) (a : Int) (t : ByteArray) (hm : m.size ≤ 140737488351232) (h0 : 0 ≤ a) (h1 : a + t.size ≤ m.size) : impl_ysplice.f m a t = some (splice m a t) := by
  have e : wrap64 (a + t.size) = a + t.size := wrap_id (by omega) (by omega)
  have s1 : (m.extract 0 a.toNat).size = a.toNat := by rw [ByteArray.size_extract]; omega
  have s2 : (m.extract 0 a.toNat ++ t).size = a.toNat + t.size := by rw [ByteArray.size_append, s1]
  have s3 : (m.extract (a + t.size).toNat m.size).size = m.size - (a + t.size).toNat := by rw [ByteArray.size_extract]; omega
  unfold impl_ysplice.f splice
  rw [e, if_pos h0, if_pos (by omega), if_pos (by omega), if_pos (by omega), if_pos (by omega), if_pos (by rw [s2, s3]; omega)]
/-- A number put into memory. -/
def put (m : ByteArray) (a n : Int) : ByteArray := splice m a (wordBytes n)
theorem put_size (m : ByteArray) (a n : Int) (h0 : 0 ≤ a) (h1 : a + 4 ≤ m.size) : (put m a n).size = m.size := splice_size m a _ h0 (by rw [wordBytes_size]; exact h1)
theorem spec_setWord (m : ByteArray) (a n : Int) (hm : m.size ≤ 65536) (h0 : 0 ≤ a) (h1 : a + 4 ≤ m.size) : spec_SetWord.f m a n = some (put m a n) := by
  unfold spec_SetWord.f spec_GetWord.f
  have e : wrap64 ((m.size : Int) - 4) = m.size - 4 := wrap_id (by omega) (by omega)
  have e4 : wrap64 (a + 4) = a + 4 := wrap_id (by omega) (by omega)
  rw [if_neg (by omega), if_neg (by omega), e, if_neg (by omega), spec_word m a (by omega) h0 h1]
  have s1 : (m.extract 0 a.toNat).size = a.toNat := by rw [ByteArray.size_extract]; omega
  have s2 : (m.extract 0 a.toNat ++ wordBytes n).size = a.toNat + 4 := by rw [ByteArray.size_append, s1, wordBytes_size]
  have s3 : (m.extract (a + 4).toNat m.size).size = m.size - (a + 4).toNat := by rw [ByteArray.size_extract]; omega
  simp only [Option.bind_some, if_true, spec_putWord, e4]
  rw [if_pos h0, if_pos (by omega), if_pos (by rw [s1, wordBytes_size]; omega), if_pos (by omega), if_pos (by omega), if_pos (by rw [s2, s3]; omega)]
  rfl

/-! ### yset -/
/-- Numbers put one behind the other. -/
def puts (m : ByteArray) (a : Int) : List Int → ByteArray
  | [] => m
  | n :: ns => puts (put m a n) (a + 4) ns
theorem puts_size (ns : List Int) : ∀ (m : ByteArray) (a : Int), 0 ≤ a → a + 4 * ns.length ≤ m.size → (puts m a ns).size = m.size := by
  induction ns with
  | nil => intro m a _ _; rfl
  | cons n ns ih =>
    intro m a h0 h1
    simp only [List.length_cons] at h1
    have hp := put_size m a n h0 (by omega)
    rw [puts, ih _ _ (by omega) (by rw [hp]; omega), hp]
theorem impl_yset_loop (ns : List Int) (a : Int) (h0 : 0 ≤ a) (d : Nat) : ∀ (k : Nat) (m : ByteArray) (i : Nat), i + d = ns.length → d < k → m.size ≤ 140737488351232 → a + 4 * ns.length ≤ m.size →
    impl_yset.l0 k m a ns (ns.length : Int) (i : Int) = some (puts m (a + 4 * i) (ns.drop i)) := by
  induction d with
  | zero =>
    intro k m i hi hk hm h1
    obtain ⟨k, rfl⟩ : ∃ q, k = q + 1 := ⟨k - 1, by omega⟩
    have : ns.drop i = [] := List.drop_eq_nil_of_le (by omega)
    rw [this, puts, impl_yset.l0, if_neg (by omega)]
  | succ d ih =>
    intro k m i hi hk hm h1
    obtain ⟨k, rfl⟩ : ∃ q, k = q + 1 := ⟨k - 1, by omega⟩
    have hlt : i < ns.length := by omega
    have hd : ns.drop i = ns[i] :: ns.drop (i + 1) := List.drop_eq_getElem_cons hlt
    have hr : rd ns (i : Int) = ns[i] := by unfold rd; simp [hlt]
    have hp : (put m (a + 4 * (i : Int)) ns[i]).size = m.size := put_size m _ _ (by omega) (by omega)
    have hq := ih k (put m (a + 4 * (i : Int)) ns[i]) (i + 1) (by omega) (by omega) (by omega) (by omega)
    have hs : splice m (a + 4 * (i : Int)) (wordBytes ns[i]) = put m (a + 4 * (i : Int)) ns[i] := by unfold put; rfl
    have hw := impl_splice m (a + 4 * (i : Int)) (wordBytes ns[i]) hm (by omega) (by rw [wordBytes_size]; omega)
    have hc : a + 4 * ((i + 1 : Nat) : Int) = a + 4 * (i : Int) + 4 := by omega
    have c1 : (i : Int) < (ns.length : Int) := by omega
    have c2 : 0 ≤ (i : Int) := by omega
    have ei : wrap64 ((i : Int) + 1) = ((i + 1 : Nat) : Int) := by rw [wrap_id (by omega) (by omega)]; omega
    rw [impl_yset.l0, if_pos c1, if_pos c2, if_pos c1, hr, impl_putWord]
    simp only [Option.bind_some]
    rw [wrap_id (x := 4 * (i : Int)) (by clear ei; omega) (by clear ei; omega), wrap_id (x := a + 4 * (i : Int)) (by clear ei; omega) (by clear ei; omega), hw]
    simp only [Option.bind_some]
    rw [ei, hs, hq, hd, puts, hc]
theorem impl_yset (k : Nat) (m : ByteArray) (a : Int) (ns : List Int) (hk : ns.length < k) (hm : m.size ≤ 140737488351232) (h0 : 0 ≤ a) (h1 : a + 4 * ns.length ≤ m.size) : impl_yset.f k m a ns = some (puts m a ns) := by
  have := impl_yset_loop ns a h0 ns.length k m 0 (by omega) hk hm h1
  unfold impl_yset.f
  rw [show a + 4 * ((0 : Nat) : Int) = a from by omega, List.drop_zero] at this
  exact this

/-! ### ybig -/
theorem impl_big1 (k : Nat) (hk : 2 ≤ k) (m : ByteArray) : impl_ybig.f k ([m] : List ByteArray) = some (decide ((m.size : Int) > 65536)) := by
  obtain ⟨k, rfl⟩ : ∃ q, k = q + 2 := ⟨k - 2, by omega⟩
  unfold impl_ybig.f
  simp only [impl_ybig.l0, rdOf, wrap64]
  by_cases h : (m.size : Int) > 65536 <;> simp (config := {decide := true}) [h]

/-! ### queue2 -/
theorem queue_true {m : ByteArray} {s d a u t g : Int} (h : queueOk m s d a u t g = true) :
    256 ≤ m.size ∧ m.size ≤ 65536 ∧ 1 ≤ s ∧ s ≤ 16 ∧ 0 ≤ d ∧ d + 16 * s ≤ m.size ∧ 0 ≤ a ∧ a + (8 + 4 * s) ≤ m.size ∧ 0 ≤ u ∧ u + (8 + 8 * s) ≤ m.size ∧ 0 ≤ t ∧ t ≤ 65535 ∧ 0 ≤ g ∧ g ≤ 65535 := by
  unfold queueOk placeOk memOk at h
  simp only [Bool.and_eq_true, decide_eq_true_eq] at h
  obtain ⟨⟨⟨⟨⟨⟨⟨h1, h2, _⟩, h3⟩, _, h4⟩, _, h5⟩, _, h6⟩, h7⟩, h8⟩ := h
  have hs := sizeOk_le h3
  rw [wrap_id (x := 16 * s) (by omega) (by omega)] at h4
  rw [wrap_id (x := 4 * s) (by omega) (by omega), wrap_id (by omega) (by omega)] at h5
  rw [wrap_id (x := 8 * s) (by omega) (by omega), wrap_id (by omega) (by omega)] at h6
  have a4 := inB_true (by omega) (by omega) h4
  have a5 := inB_true (by omega) (by omega) h5
  have a6 := inB_true (by omega) (by omega) h6
  omega

theorem tmod_lt {g s : Int} (hg : 0 ≤ g) (hs : 1 ≤ s) : 0 ≤ Int.tmod g s ∧ Int.tmod g s < s := by
  have h1 := Int.tmod_eq_emod_of_nonneg (b := s) hg
  rw [h1]
  exact ⟨Int.emod_nonneg _ (by omega), Int.emod_lt_of_pos _ (by omega)⟩


/-! ### loops -/
theorem getD_at {α : Type} (xs : List α) (i : Nat) (z : α) (h : i < xs.length) : xs.getD ((i : Int)).toNat z = xs[i] := by simp [h]
theorem wrap_succ (i n : Nat) (h : i < n) (hn : n ≤ 140737488351232) : wrap64 ((i : Int) + 1) = ((i + 1 : Nat) : Int) := by
  unfold wrap64; omega
/-- A loop that fills a list from the front. -/
theorem fill_loop {α β : Type} (F : Nat → List β → Int → Option (List β)) (xs : List α) (g : α → β)
    (hF : ∀ (k : Nat) (ys : List β) (i : Nat) (hi : i < xs.length), ys.length = xs.length → F (k + 1) ys (i : Int) = F k (ys.set i (g xs[i])) ((i + 1 : Nat) : Int))
    (hE : ∀ (k : Nat) (ys : List β), F (k + 1) ys (xs.length : Int) = some ys) :
    ∀ (d k : Nat) (ys : List β) (i : Nat), i + d = xs.length → d < k → ys.length = xs.length → ys.take i = (xs.take i).map g → F k ys (i : Int) = some (xs.map g) := by
  intro d
  induction d with
  | zero =>
    intro k ys i hi hk hl ht
    obtain ⟨k, rfl⟩ : ∃ q, k = q + 1 := ⟨k - 1, by omega⟩
    have : i = xs.length := by omega
    subst this
    rw [hE]
    rw [List.take_of_length_le (by omega), List.take_of_length_le (Nat.le_refl _)] at ht
    rw [ht]
  | succ d ih =>
    intro k ys i hi hk hl ht
    obtain ⟨k, rfl⟩ : ∃ q, k = q + 1 := ⟨k - 1, by omega⟩
    have hlt : i < xs.length := by omega
    rw [hF k ys i hlt hl]
    refine ih k _ (i + 1) (by omega) (by omega) (by rw [List.length_set, hl]) ?_
    rw [List.take_succ_eq_append_getElem (by rw [List.length_set]; omega), List.take_succ_eq_append_getElem hlt, List.map_append, ← ht]
    congr 1
    · rw [List.take_set, List.set_eq_of_length_le (by rw [List.length_take]; omega)]
    · simp
/-- The place of the first that p lets, from i on; -1: none. -/
def findAt {α : Type} (p : α → Bool) : List α → Nat → Int
  | [], _ => -1
  | x :: xs, i => if p x = true then (i : Int) else findAt p xs (i + 1)
theorem findAt_any {α : Type} (p : α → Bool) (xs : List α) : ∀ i, decide (findAt p xs i ≥ 0) = xs.any p := by
  induction xs with
  | nil => intro i; simp [findAt]
  | cons x xs ih =>
    intro i
    rw [findAt, List.any_cons]
    cases h : p x
    · simp only [Bool.false_eq_true, if_false, Bool.false_or]; exact ih (i + 1)
    · simp only [if_true, Bool.true_or]; simp
theorem find_loop {α : Type} (F : Nat → Int → Option Int) (xs : List α) (p : α → Bool)
    (hF : ∀ (k i : Nat) (hi : i < xs.length), F (k + 1) (i : Int) = if p xs[i] = true then some (i : Int) else F k ((i + 1 : Nat) : Int))
    (hE : ∀ k : Nat, F (k + 1) (xs.length : Int) = some (-1)) :
    ∀ (d k i : Nat), i + d = xs.length → d < k → F k (i : Int) = some (findAt p (xs.drop i) i) := by
  intro d
  induction d with
  | zero =>
    intro k i hi hk
    obtain ⟨k, rfl⟩ : ∃ q, k = q + 1 := ⟨k - 1, by omega⟩
    have : i = xs.length := by omega
    subst this
    rw [hE, List.drop_length, findAt]
  | succ d ih =>
    intro k i hi hk
    obtain ⟨k, rfl⟩ : ∃ q, k = q + 1 := ⟨k - 1, by omega⟩
    have hlt : i < xs.length := by omega
    rw [hF k i hlt, List.drop_eq_getElem_cons hlt, findAt]
    split
    · rfl
    · exact ih k (i + 1) (by omega) (by omega)
/-- A loop that goes on while p holds; then R, else B. -/
theorem all_loop {α γ : Type} (F : Nat → Int → Option γ) (xs : List α) (p : α → Bool) (B : Option γ) (R : Option γ) (K : Nat)
    (hF : ∀ (k i : Nat) (hi : i < xs.length), F (k + 1) (i : Int) = if p xs[i] = true then F k ((i + 1 : Nat) : Int) else B)
    (hE : ∀ k : Nat, K ≤ k → F (k + 1) (xs.length : Int) = R) :
    ∀ (d k i : Nat), i + d = xs.length → d + K < k → F k (i : Int) = if (xs.drop i).all p = true then R else B := by
  intro d
  induction d with
  | zero =>
    intro k i hi hk
    obtain ⟨k, rfl⟩ : ∃ q, k = q + 1 := ⟨k - 1, by omega⟩
    have : i = xs.length := by omega
    subst this
    rw [hE k (by omega), List.drop_length]; rfl
  | succ d ih =>
    intro k i hi hk
    obtain ⟨k, rfl⟩ : ∃ q, k = q + 1 := ⟨k - 1, by omega⟩
    have hlt : i < xs.length := by omega
    rw [hF k i hlt, List.drop_eq_getElem_cons hlt, List.all_cons]
    cases h : p xs[i]
    · simp
    · simp only [if_true, Bool.true_and]; exact ih k (i + 1) (by omega) (by omega)
/-- A search whose answer is told at once; c rounds a step. -/
theorem find_then {α γ : Type} (F : Nat → Int → Option γ) (xs : List α) (p : α → Bool) (G : Int → Option γ) (c K : Nat)
    (hF : ∀ (k i : Nat) (hi : i < xs.length), K ≤ k → F (k + c) (i : Int) = if p xs[i] = true then G (i : Int) else F k ((i + 1 : Nat) : Int))
    (hE : ∀ k : Nat, F (k + 1) (xs.length : Int) = G (-1)) :
    ∀ (d k i : Nat), i + d = xs.length → c * d + K < k → F k (i : Int) = G (findAt p (xs.drop i) i) := by
  intro d
  induction d with
  | zero =>
    intro k i hi hk
    obtain ⟨k, rfl⟩ : ∃ q, k = q + 1 := ⟨k - 1, by omega⟩
    have : i = xs.length := by omega
    subst this
    rw [hE, List.drop_length, findAt]
  | succ d ih =>
    intro k i hi hk
    rw [Nat.mul_add] at hk
    obtain ⟨k, rfl⟩ : ∃ q, k = q + c := ⟨k - c, by omega⟩
    have hlt : i < xs.length := by omega
    rw [hF k i hlt (by omega), List.drop_eq_getElem_cons hlt, findAt]
    split
    · rfl
    · exact ih k (i + 1) (by omega) (by omega)
theorem findAt_spec {α : Type} (p : α → Bool) (xs : List α) : ∀ i, findAt p xs i = -1 ∨ ∃ j, ∃ h : j < xs.length, findAt p xs i = ((i + j : Nat) : Int) ∧ p xs[j] = true := by
  induction xs with
  | nil => intro i; left; rfl
  | cons x xs ih =>
    intro i
    rw [findAt]
    split
    · rename_i h; right; exact ⟨0, by simp, by simp, h⟩
    · rcases ih (i + 1) with h | ⟨j, hj, h1, h2⟩
      · left; exact h
      · right; exact ⟨j + 1, by simpa using hj, by rw [h1]; omega, by simpa using h2⟩

/-! ### bufs -/
def cvBuf (x : S94) : S75 := ⟨x.f0, x.f1, x.f2⟩
theorem toBufs (k : Nat) (l : List S94) (hk : l.length < k) (hl : l.length ≤ 1048576) : laws_toBufS.f k l = some (l.map cvBuf) := by
  unfold laws_toBufS.f
  rw [if_pos (by omega), if_pos (by omega)]
  have h := fill_loop (fun k ys i => laws_toBufS.l0 k l ys i) l cvBuf (by
    intro k ys i hi hy
    show laws_toBufS.l0 (k + 1) l ys (i : Int) = _
    rw [laws_toBufS.l0, if_pos (by omega), if_pos (by omega)]
    unfold laws_toBuf.f
    simp only [Option.bind_some]
    rw [if_pos (by omega), wrap_succ i l.length hi (by omega)]
    unfold rd_T94
    rw [getD_at _ _ _ hi, Int.toNat_natCast]; rfl) (by
    intro k ys
    show laws_toBufS.l0 (k + 1) l ys (l.length : Int) = _
    rw [laws_toBufS.l0, if_neg (by omega)]) l.length k (List.replicate ((l.length : Int)).toNat z75) 0 (by omega) hk (by simp) (by simp)
  exact h
theorem eqBuf_self (b : S75) : laws_eqBuf.f b.f0 b.f1 b.f2 b.f0 b.f1 b.f2 = some true := by
  unfold laws_eqBuf.f
  cases b.f2 <;> simp
theorem eqBufs (k : Nat) (l : List S75) (hk : l.length < k) (hl : l.length ≤ 1048576) : laws_eqBufS.f k l l = some true := by
  unfold laws_eqBufS.f
  rw [if_pos rfl]
  have h := all_loop (fun k i => laws_eqBufS.l0 k l l i) l (fun _ => true) none (some true) 0 (by
    intro k i hi
    show laws_eqBufS.l0 (k + 1) l l (i : Int) = _
    rw [laws_eqBufS.l0, if_pos (by omega), if_pos (by omega), if_pos (by omega), eqBuf_self]
    simp only [Option.bind_some, if_true]
    rw [wrap_succ i l.length hi (by omega)]) (by
    intro k _
    show laws_eqBufS.l0 (k + 1) l l (l.length : Int) = _
    rw [laws_eqBufS.l0, if_neg (by omega)]) l.length k 0 (by omega) (by omega)
  have h2 := h
  simp only [List.all_eq_true, implies_true, if_true] at h2
  exact h2
theorem szBufs (l : List S94) (hm : l.length ≤ maxLen) : laws_szBufS.f l 1048576 = some (if l.length > 1048576 then -1 else 1048576 - (l.length : Int)) := by
  unfold maxLen at hm
  have e : wrap64 (1048576 - (l.length : Int)) = 1048576 - (l.length : Int) := by unfold wrap64; omega
  unfold laws_szBufS.f
  rw [e]
  split <;> split <;> first | rfl | omega

def bufOk (b : S75) : Bool := isWord b.f0 && isWord b.f1
/-- One buffer's descriptor. -/
def postOne (d s first : Int) (n i : Nat) (b : S75) (m : ByteArray) : ByteArray :=
  puts m (d + 16 * Int.tmod (first + i) s) [b.f0, b.f1, (if b.f2 = true then 2 else 0) + (if i + 1 < n then 1 else 0), if i + 1 < n then Int.tmod (first + i + 1) s else 0]
/-- All of them, from the i-th on. -/
def postMem (d s first : Int) (n : Nat) : List S75 → Nat → ByteArray → ByteArray
  | [], _, m => m
  | b :: bs, i, m => postMem d s first n bs (i + 1) (postOne d s first n i b m)
/-- What is put behind them. -/
def postEnd (m : ByteArray) (s a first : Int) : ByteArray :=
  let n := Int.tmod (word m (a + 4)) 65536
  put (put m (a + 8 + 4 * Int.tmod n s) first) (a + 4) (Int.tmod (n + 1) 65536)
def postRes (m : ByteArray) (s d a u t g first : Int) (l : List S75) : Int × ByteArray × Int × Int × Int × Int × Int × Int × Bool :=
  if (decide ((m.size : Int) > 65536) || decide ((l.length : Int) > 1000)) = true then (2, (⟨#[]⟩ : ByteArray), 0, 0, 0, 0, 0, 0, false)
  else if (queueOk m s d a u t g && decide (0 ≤ first ∧ first < s) && decide (1 ≤ (l.length : Int) ∧ (l.length : Int) ≤ s) && l.all bufOk) = true then
    (0, postEnd (postMem d s first l.length l 0 m) s a first, s, d, a, u, t, g, false)
  else (1, (⟨#[]⟩ : ByteArray), 0, 0, 0, 0, 0, 0, false)

theorem one_size (d s first : Int) (n i : Nat) (b : S75) (m : ByteArray) (hm : m.size ≤ 65536) (hd : 0 ≤ d) (h1 : 1 ≤ s) (h2 : d + 16 * s ≤ m.size) (hf : 0 ≤ first) : (postOne d s first n i b m).size = m.size := by
  obtain ⟨t1, t2⟩ := tmod_lt (g := first + i) (s := s) (by omega) h1
  unfold postOne
  exact puts_size _ _ _ (by omega) (by simp; omega)

theorem mem_size (d s first : Int) (n : Nat) (hd : 0 ≤ d) (h1 : 1 ≤ s) (hf : 0 ≤ first) (bs : List S75) : ∀ (i : Nat) (m : ByteArray), m.size ≤ 65536 → d + 16 * s ≤ m.size → (postMem d s first n bs i m).size = m.size := by
  induction bs with
  | nil => intro i m _ _; rfl
  | cons b bs ih =>
    intro i m hm h2
    have h := one_size d s first n i b m hm hd h1 h2 hf
    rw [postMem, ih _ _ (by omega) (by omega), h]

theorem spec_end (k : Nat) (m : ByteArray) (s d a u t g first : Int) (l : List S75) (hl : l.length ≤ 1000) (hm : m.size ≤ 65536) (h3 : 1 ≤ s) (h4 : s ≤ 16) (h7 : 0 ≤ a) (h8 : a + (8 + 4 * s) ≤ m.size) :
    spec_PostChain.l1 (k + 1) m first l (l.length : Int) s d a u t g = some (0, postEnd m s a first, s, d, a, u, t, g, false) := by
  have w := word_range m (a + 4)
  obtain ⟨t1, t2⟩ := tmod_lt (g := word m (a + 4)) (s := 65536) w.1 (by omega)
  have q0 := spec_word m (a + 4) (by omega) (by omega) (by omega)
  unfold postEnd
  generalize hn : Int.tmod (word m (a + 4)) 65536 = n at *
  obtain ⟨t3, t4⟩ := tmod_lt (g := n) (s := s) t1 h3
  generalize hx : Int.tmod n s = x at *
  have p1 := put_size m (a + 8 + 4 * x) first (by omega) (by omega)
  have q1 := spec_setWord m (a + 8 + 4 * x) first (by omega) (by omega) (by omega)
  have q2 := spec_setWord (put m (a + 8 + 4 * x) first) (a + 4) (Int.tmod (n + 1) 65536) (by omega) (by omega) (by omega)
  have c0 : ¬ ((l.length : Int) < (l.length : Int)) := by omega
  have c1 : ¬ s = 0 := by omega
  have e1 : wrap64 (a + 4) = a + 4 := wrap_id (by omega) (by omega)
  have e2 : wrap64 (a + 8) = a + 8 := wrap_id (by clear e1; omega) (by clear e1; omega)
  have e3 : wrap64 (4 * x) = 4 * x := wrap_id (by clear e1 e2; omega) (by clear e1 e2; omega)
  have e4 : wrap64 (a + 8 + 4 * x) = a + 8 + 4 * x := wrap_id (by clear e1 e2 e3; omega) (by clear e1 e2 e3; omega)
  have e5 : wrap64 (n + 1) = n + 1 := wrap_id (by clear e1 e2 e3 e4; omega) (by clear e1 e2 e3 e4; omega)
  rw [spec_PostChain.l1, if_neg c0, e1, q0]
  simp only [Option.bind_some, if_neg c1, hn, hx, e2, e3, e4, q1, e5, q2]

theorem impl_end (k : Nat) (hk : 2 ≤ k) (m : ByteArray) (s d a u t g first : Int) (l l2 : List S75) (hm : m.size ≤ 65536) (h3 : 1 ≤ s) (h4 : s ≤ 16) (h7 : 0 ≤ a) (h8 : a + (8 + 4 * s) ≤ m.size) :
    impl_PostChain.l0 (k + 1) m first l2 l (l.length : Int) (l.length : Int) s d a u t g = some (0, postEnd m s a first, s, d, a, u, t, g, false) := by
  have w := word_range m (a + 4)
  obtain ⟨t1, t2⟩ := tmod_lt (g := word m (a + 4)) (s := 65536) w.1 (by omega)
  have q0 := impl_word m (a + 4) (by omega) (by omega) (by omega)
  unfold postEnd
  generalize hn : Int.tmod (word m (a + 4)) 65536 = n at *
  obtain ⟨t3, t4⟩ := tmod_lt (g := n) (s := s) t1 h3
  generalize hx : Int.tmod n s = x at *
  have p1 := put_size m (a + 8 + 4 * x) first (by omega) (by omega)
  have q1 := impl_yset k m (a + 8 + 4 * x) [first] (by simp; omega) (by omega) (by omega) (by simp; omega)
  have q2 := impl_yset k (put m (a + 8 + 4 * x) first) (a + 4) [Int.tmod (n + 1) 65536] (by simp; omega) (by omega) (by omega) (by simp; omega)
  simp only [puts] at q1 q2
  have c0 : ¬ ((l.length : Int) < (l.length : Int)) := by omega
  have c1 : ¬ s = 0 := by omega
  have e1 : wrap64 (a + 4) = a + 4 := wrap_id (by omega) (by omega)
  have e2 : wrap64 (a + 8) = a + 8 := wrap_id (by clear e1; omega) (by clear e1; omega)
  have e3 : wrap64 (4 * x) = 4 * x := wrap_id (by clear e1 e2; omega) (by clear e1 e2; omega)
  have e4 : wrap64 (a + 8 + 4 * x) = a + 8 + 4 * x := wrap_id (by clear e1 e2 e3; omega) (by clear e1 e2 e3; omega)
  have e5 : wrap64 (n + 1) = n + 1 := wrap_id (by clear e1 e2 e3 e4; omega) (by clear e1 e2 e3 e4; omega)
  rw [impl_PostChain.l0, if_neg c0, e1, q0]
  simp only [Option.bind_some, if_neg c1, hn, hx, e2, e3, e4, q1, e5, q2]

theorem set4 (k : Nat) (m : ByteArray) (first : Int) (l : List S75) (i : Nat) (hi : i < l.length) (x f n s d a u t g : Int) (hl : l.length ≤ 1000) (hm : m.size ≤ 65536) (h0 : 0 ≤ x) (h1 : x + 16 ≤ m.size) :
    spec_PostChain.j4 (k + 1) m first l (i : Int) x f n s d a u t g = spec_PostChain.l1 k (puts m x [l[i].f0, l[i].f1, f, n]) first l ((i + 1 : Nat) : Int) s d a u t g := by
  have p1 := put_size m x l[i].f0 h0 (by omega)
  have p2 := put_size (put m x l[i].f0) (x + 4) l[i].f1 (by omega) (by omega)
  have p3 := put_size (put (put m x l[i].f0) (x + 4) l[i].f1) (x + 8) f (by omega) (by omega)
  have q1 := spec_setWord m x l[i].f0 hm h0 (by omega)
  have q2 := spec_setWord (put m x l[i].f0) (x + 4) l[i].f1 (by omega) (by omega) (by omega)
  have q3 := spec_setWord (put (put m x l[i].f0) (x + 4) l[i].f1) (x + 8) f (by omega) (by omega) (by omega)
  have q4 := spec_setWord (put (put (put m x l[i].f0) (x + 4) l[i].f1) (x + 8) f) (x + 12) n (by omega) (by omega) (by omega)
  have z3 : x + 4 + 4 = x + 8 := by omega
  have z4 : x + 8 + 4 = x + 12 := by omega
  have hr : rd_T75 l (i : Int) = l[i] := getD_at l i z75 hi
  have c1 : (0 : Int) ≤ i := by omega
  have c2 : (i : Int) < (l.length : Int) := by omega
  have ei := wrap_succ i l.length hi (by omega)
  have e4 : wrap64 (x + 4) = x + 4 := wrap_id (by clear ei; omega) (by clear ei; omega)
  have e8 : wrap64 (x + 8) = x + 8 := wrap_id (by clear ei e4; omega) (by clear ei e4; omega)
  have e12 : wrap64 (x + 12) = x + 12 := wrap_id (by clear ei e4 e8; omega) (by clear ei e4 e8; omega)
  rw [spec_PostChain.j4, if_pos c1, if_pos c2, hr, q1]
  simp only [Option.bind_some, e4, q2, e8, q3, e12, q4, ei, puts, z3, z4]

theorem spec_write (s d a u t g first : Int) (l : List S75) (hl : l.length ≤ 1000) (h3 : 1 ≤ s) (h4 : s ≤ 16) (h5 : 0 ≤ d) (h7 : 0 ≤ a) (hf : 0 ≤ first) (hf2 : first < s) (hn : (l.length : Int) ≤ s) :
    ∀ (e k : Nat) (m : ByteArray) (i : Nat), i + e = l.length → 2 * e < k → m.size ≤ 65536 → d + 16 * s ≤ m.size → a + (8 + 4 * s) ≤ m.size →
      spec_PostChain.l1 k m first l (i : Int) s d a u t g = some (0, postEnd (postMem d s first l.length (l.drop i) i m) s a first, s, d, a, u, t, g, false) := by
  intro e
  induction e with
  | zero =>
    intro k m i hi hk hm h6 h8
    obtain ⟨k, rfl⟩ : ∃ q, k = q + 1 := ⟨k - 1, by omega⟩
    have : i = l.length := by omega
    subst this
    rw [spec_end k m s d a u t g first l hl hm h3 h4 h7 h8, List.drop_length, postMem]
  | succ e ih =>
    intro k m i hi hk hm h6 h8
    obtain ⟨k, rfl⟩ : ∃ q, k = q + 2 := ⟨k - 2, by omega⟩
    have hlt : i < l.length := by omega
    have hr : rd_T75 l (i : Int) = l[i] := getD_at l i z75 hlt
    obtain ⟨t1, t2⟩ := tmod_lt (g := first + i) (s := s) (by omega) h3
    have hq := ih k (postOne d s first l.length i l[i] m) (i + 1) (by omega) (by omega) (by rw [one_size _ _ _ _ _ _ _ hm h5 h3 h6 hf]; exact hm) (by rw [one_size _ _ _ _ _ _ _ hm h5 h3 h6 hf]; exact h6) (by rw [one_size _ _ _ _ _ _ _ hm h5 h3 h6 hf]; exact h8)
    have c0 : (i : Int) < (l.length : Int) := by omega
    have c1 : ¬ s = 0 := by omega
    have c2 : (0 : Int) ≤ i := by omega
    have s1 : ∀ n f, spec_PostChain.j4 (k + 1) m first l (i : Int) (d + 16 * Int.tmod (first + i) s) f n s d a u t g = _ := fun n f => set4 k m first l i hlt _ f n s d a u t g hl hm (by omega) (by omega)
    have hop : ∀ f n, f = (if l[i].f2 = true then 2 else 0) + (if i + 1 < l.length then (1 : Int) else 0) → n = (if i + 1 < l.length then Int.tmod (first + i + 1) s else 0) →
        puts m (d + 16 * Int.tmod (first + i) s) [l[i].f0, l[i].f1, f, n] = postOne d s first l.length i l[i] m := by
      intro f n hf hn
      unfold postOne
      rw [hf, hn]
    have cw : (wrap64 ((i : Int) + 1) < (l.length : Int)) = (i + 1 < l.length) := by rw [wrap_succ i l.length hlt (by omega)]; apply propext; omega
    have e1 : wrap64 (first + (i : Int)) = first + i := wrap_id (by clear cw; omega) (by clear cw; omega)
    have e2 : wrap64 (16 * Int.tmod (first + i) s) = 16 * Int.tmod (first + i) s := wrap_id (by clear cw e1; omega) (by clear cw e1; omega)
    have e3 : wrap64 (d + 16 * Int.tmod (first + i) s) = d + 16 * Int.tmod (first + i) s := wrap_id (by clear cw e1 e2; omega) (by clear cw e1 e2; omega)
    have e4 : wrap64 (first + (i : Int) + 1) = first + i + 1 := wrap_id (by clear cw e1 e2 e3; omega) (by clear cw e1 e2 e3; omega)
    have w2 : wrap64 2 = 2 := wrap_id (by decide) (by decide)
    have w3 : wrap64 (2 + 1) = 3 := wrap_id (by decide) (by decide)
    have w0 : wrap64 0 = 0 := wrap_id (by decide) (by decide)
    have w1 : wrap64 (0 + 1) = 1 := wrap_id (by decide) (by decide)
    rw [List.drop_eq_getElem_cons hlt, postMem, ← hq]
    rw [spec_PostChain.l1, if_pos c0, if_neg c1, if_pos c2, hr]
    unfold spec_l01Bool.f
    simp only [e1, e2, e3, e4, cw]
    cases hB : l[i].f2
    · simp only [Bool.false_eq_true, if_false, Option.bind_some, Int.mul_zero, w0, w1]
      by_cases hL : i + 1 < l.length
      · rw [if_pos hL, s1, hop _ _ (by rw [hB, if_pos hL]; rfl) (by rw [if_pos hL])]
      · rw [if_neg hL, s1, hop _ _ (by rw [hB, if_neg hL]; rfl) (by rw [if_neg hL])]
    · simp only [if_true, Option.bind_some, Int.mul_one, w2, w3]
      by_cases hL : i + 1 < l.length
      · rw [if_pos hL, s1, hop _ _ (by rw [hB, if_pos hL]; rfl) (by rw [if_pos hL])]
      · rw [if_neg hL, s1, hop _ _ (by rw [hB, if_neg hL]; rfl) (by rw [if_neg hL])]

theorem impl_write (s d a u t g first : Int) (l : List S75) (hl : l.length ≤ 1000) (h3 : 1 ≤ s) (h4 : s ≤ 16) (h5 : 0 ≤ d) (h7 : 0 ≤ a) (hf : 0 ≤ first) (hf2 : first < s) (hn : (l.length : Int) ≤ s) :
    ∀ (e k : Nat) (m : ByteArray) (i : Nat), i + e = l.length → e + 6 < k → m.size ≤ 65536 → d + 16 * s ≤ m.size → a + (8 + 4 * s) ≤ m.size →
      impl_PostChain.l0 k m first l l (l.length : Int) (i : Int) s d a u t g = some (0, postEnd (postMem d s first l.length (l.drop i) i m) s a first, s, d, a, u, t, g, false) := by
  intro e
  induction e with
  | zero =>
    intro k m i hi hk hm h6 h8
    obtain ⟨k, rfl⟩ : ∃ q, k = q + 1 := ⟨k - 1, by omega⟩
    have : i = l.length := by omega
    subst this
    rw [impl_end k (by omega) m s d a u t g first l l hm h3 h4 h7 h8, List.drop_length, postMem]
  | succ e ih =>
    intro k m i hi hk hm h6 h8
    obtain ⟨k, rfl⟩ : ∃ q, k = q + 1 := ⟨k - 1, by omega⟩
    have hlt : i < l.length := by omega
    have hr : rd_T75 l (i : Int) = l[i] := getD_at l i z75 hlt
    obtain ⟨t1, t2⟩ := tmod_lt (g := first + i) (s := s) (by omega) h3
    have hq := ih k (postOne d s first l.length i l[i] m) (i + 1) (by omega) (by omega) (by rw [one_size _ _ _ _ _ _ _ hm h5 h3 h6 hf]; exact hm) (by rw [one_size _ _ _ _ _ _ _ hm h5 h3 h6 hf]; exact h6) (by rw [one_size _ _ _ _ _ _ _ hm h5 h3 h6 hf]; exact h8)
    have c0 : (i : Int) < (l.length : Int) := by omega
    have c1 : ¬ s = 0 := by omega
    have c2 : (0 : Int) ≤ i := by omega
    have hop : ∀ f n, f = (if l[i].f2 = true then 2 else 0) + (if i + 1 < l.length then (1 : Int) else 0) → n = (if i + 1 < l.length then Int.tmod (first + i + 1) s else 0) →
        impl_yset.f k m (d + 16 * Int.tmod (first + i) s) [l[i].f0, l[i].f1, f, n] = some (postOne d s first l.length i l[i] m) := by
      intro f n hf hn
      rw [impl_yset k m _ _ (by simp; omega) (by omega) (by omega) (by simp; omega)]
      unfold postOne
      rw [hf, hn]
    have hnx : Int.tmod (Int.tmod (first + i) s + 1) s = Int.tmod (first + i + 1) s := by
      rw [Int.tmod_eq_emod_of_nonneg (by omega), Int.tmod_eq_emod_of_nonneg (a := first + i) (by omega), Int.tmod_eq_emod_of_nonneg (a := first + i + 1) (by omega)]
      simp
    have cl : ((i : Int) < wrap64 ((l.length : Int) - 1)) = (i + 1 < l.length) := by
      rw [wrap_id (by omega) (by omega)]; apply propext; omega
    have ei := wrap_succ i l.length hlt (by omega)
    have e1 : wrap64 (first + (i : Int)) = first + i := wrap_id (by clear cl ei; omega) (by clear cl ei; omega)
    have e2 : wrap64 (16 * Int.tmod (first + i) s) = 16 * Int.tmod (first + i) s := wrap_id (by clear cl ei e1; omega) (by clear cl ei e1; omega)
    have e3 : wrap64 (d + 16 * Int.tmod (first + i) s) = d + 16 * Int.tmod (first + i) s := wrap_id (by clear cl ei e1 e2; omega) (by clear cl ei e1 e2; omega)
    have e4 : wrap64 (Int.tmod (first + i) s + 1) = Int.tmod (first + i) s + 1 := wrap_id (by clear cl ei e1 e2 e3; omega) (by clear cl ei e1 e2 e3; omega)
    have b2 : Go.bits .or .i64 0 2 = 2 := by decide
    have b3 : Go.bits .or .i64 2 1 = 3 := by decide
    have b1 : Go.bits .or .i64 0 1 = 1 := by decide
    rw [List.drop_eq_getElem_cons hlt, postMem, ← hq]
    rw [impl_PostChain.l0, if_pos c0, if_pos c2, if_pos c0, if_neg c1, hr]
    simp only [e1, e2, e3, e4, cl, hnx, b1, b2, b3, ei]
    cases hB : l[i].f2
    · simp only [Bool.false_eq_true, if_false]
      by_cases hL : i + 1 < l.length
      · rw [if_pos hL, hop _ _ (by rw [hB, if_pos hL]; rfl) (by rw [if_pos hL])]; rfl
      · rw [if_neg hL, hop _ _ (by rw [hB, if_neg hL]; rfl) (by rw [if_neg hL])]; rfl
    · simp only [if_true]
      by_cases hL : i + 1 < l.length
      · rw [if_pos hL, hop _ _ (by rw [hB, if_pos hL]; rfl) (by rw [if_pos hL])]; rfl
      · rw [if_neg hL, hop _ _ (by rw [hB, if_neg hL]; rfl) (by rw [if_neg hL])]; rfl

theorem spec_all (s d a u t g first : Int) (l : List S75) (hl : l.length ≤ 1000) (h3 : 1 ≤ s) (h4 : s ≤ 16) (h5 : 0 ≤ d) (h7 : 0 ≤ a) (hf : 0 ≤ first) (hf2 : first < s) (hn : (l.length : Int) ≤ s) (k : Nat) (m : ByteArray)
    (hk : 100 < k) (hm : m.size ≤ 65536) (h6 : d + 16 * s ≤ m.size) (h8 : a + (8 + 4 * s) ≤ m.size) :
    spec_PostChain.l0 k m first l 0 s d a u t g = if l.all bufOk = true then some (0, postEnd (postMem d s first l.length l 0 m) s a first, s, d, a, u, t, g, false) else some (1, (⟨#[]⟩ : ByteArray), 0, 0, 0, 0, 0, 0, false) := by
  have h := all_loop (fun k i => spec_PostChain.l0 k m first l i s d a u t g) l bufOk (some (1, (⟨#[]⟩ : ByteArray), 0, 0, 0, 0, 0, 0, false)) (some (0, postEnd (postMem d s first l.length l 0 m) s a first, s, d, a, u, t, g, false)) 40 (by
    intro k i hi
    show spec_PostChain.l0 (k + 1) m first l (i : Int) s d a u t g = _
    have hr : rd_T75 l (i : Int) = l[i] := getD_at l i z75 hi
    rw [spec_PostChain.l0, if_pos (by omega), if_pos (by omega), hr, spec_isWord, spec_isWord, wrap_succ i l.length hi (by omega)]
    unfold bufOk
    cases isWord l[i].f0 <;> cases isWord l[i].f1 <;> simp) (by
    intro k hk
    show spec_PostChain.l0 (k + 1) m first l (l.length : Int) s d a u t g = _
    rw [spec_PostChain.l0, if_neg (by omega)]
    exact spec_write s d a u t g first l hl h3 h4 h5 h7 hf hf2 hn l.length k m 0 (by omega) (by omega) hm h6 h8) l.length k 0 (by omega) (by omega)
  exact h

theorem impl_bad (k : Nat) (l : List S75) (hl : l.length ≤ 1000) (hk : l.length < k) : slices_ContainsFunc_Buf_at_impl_PostChain_c1.f k l = some (!l.all bufOk) := by
  have h := find_loop (fun k i => slices_IndexFunc_Buf_at_impl_PostChain_c1.l0 k l (l.length : Int) i) l (fun b => !bufOk b) (by
    intro k i hi
    show slices_IndexFunc_Buf_at_impl_PostChain_c1.l0 (k + 1) l (l.length : Int) (i : Int) = _
    have hr : rd_T75 l (i : Int) = l[i] := getD_at l i z75 hi
    rw [slices_IndexFunc_Buf_at_impl_PostChain_c1.l0, if_pos (by omega), if_pos (by omega), if_pos (by omega), hr, wrap_succ i l.length hi (by omega)]
    unfold impl_PostChain_c1.f bufOk
    rw [impl_isWord, impl_isWord]
    cases isWord l[i].f0 <;> cases isWord l[i].f1 <;> simp) (by
    intro k
    show slices_IndexFunc_Buf_at_impl_PostChain_c1.l0 (k + 1) l (l.length : Int) (l.length : Int) = _
    rw [slices_IndexFunc_Buf_at_impl_PostChain_c1.l0, if_neg (by omega)]) l.length k 0 (by omega) hk
  have h2 : slices_IndexFunc_Buf_at_impl_PostChain_c1.f k l = some (findAt (fun b => !bufOk b) l 0) := h
  unfold slices_ContainsFunc_Buf_at_impl_PostChain_c1.f
  rw [h2]
  simp only [Option.bind_some]
  rw [findAt_any, List.any_eq_not_all_not]
  simp

theorem spec_post (k : Nat) (hk : 110 ≤ k) (m : ByteArray) (s d a u t g first : Int) (l : List S75) : spec_PostChain.f k m s d a u t g first l = some (postRes m s d a u t g first l) := by
  obtain ⟨k, rfl⟩ : ∃ q, k = q + 2 := ⟨k - 2, by omega⟩
  have hj : spec_PostChain.f (k + 2) m s d a u t g first l = spec_PostChain.j0 (k + 2) m first l (decide ((m.size : Int) > 65536) || decide ((l.length : Int) > 1000)) s d a u t g := by
    unfold spec_PostChain.f
    by_cases h : (l.length : Int) > 1000
    · rw [if_pos h]; simp [h]
    · rw [if_neg h]; simp [h]
  rw [hj, spec_PostChain.j0]
  unfold postRes
  cases hb : (decide ((m.size : Int) > 65536) || decide ((l.length : Int) > 1000))
  rotate_left
  · simp
  simp only [Bool.or_eq_false_iff, decide_eq_false_iff_not] at hb
  rw [spec_queue _ (by omega)]
  simp only [Bool.false_eq_true, if_false, Option.bind_some]
  cases hq : queueOk m s d a u t g
  · simp [spec_PostChain.j1]
  obtain ⟨h1, h2, h3, h4, h5, h6, h7, h8, h9, h10, h11, h12, h13, h14⟩ := queue_true hq
  simp only [if_true, Bool.true_and]
  by_cases c1 : first < 0
  · rw [if_pos c1, spec_PostChain.j1]; simp; omega
  rw [if_neg c1]
  by_cases c2 : first ≥ s
  · rw [if_pos c2, spec_PostChain.j1]; simp; omega
  rw [if_neg c2]
  by_cases c3 : (l.length : Int) < 1
  · rw [if_pos c3, spec_PostChain.j1]
    have : decide (1 ≤ (l.length : Int) ∧ (l.length : Int) ≤ s) = false := by simp; omega
    simp [this]
  rw [if_neg c3, spec_PostChain.j1]
  by_cases c4 : (l.length : Int) > s
  · have : decide (1 ≤ (l.length : Int) ∧ (l.length : Int) ≤ s) = false := by simp; omega
    simp [this, c4]
  have e1 : decide ((l.length : Int) > s) = false := by simpa using c4
  have e2 : decide (1 ≤ (l.length : Int) ∧ (l.length : Int) ≤ s) = true := by simp; omega
  have e3 : decide (0 ≤ first ∧ first < s) = true := by simp; omega
  rw [e1, e2, e3, if_neg (by decide), spec_all s d a u t g first l (by omega) h3 h4 h5 h7 (by omega) (by omega) (by omega) k m (by omega) (by omega) h6 h8]
  cases l.all bufOk <;> rfl

theorem impl_post (k : Nat) (hk : 1010 ≤ k) (m : ByteArray) (s d a u t g first : Int) (l : List S75) (hs : (Lit.int .i64 s).wf = true) : impl_PostChain.f k m s d a u t g first l = some (postRes m s d a u t g first l) := by
  obtain ⟨k, rfl⟩ : ∃ q, k = q + 2 := ⟨k - 2, by omega⟩
  have hj : impl_PostChain.f (k + 2) m s d a u t g first l = impl_PostChain.j0 (k + 2) m first l (decide ((m.size : Int) > 65536) || decide ((l.length : Int) > 1000)) s d a u t g := by
    unfold impl_PostChain.f
    rw [impl_big1 _ (by omega)]
    simp only [Option.bind_some]
    by_cases h : (m.size : Int) > 65536 <;> simp [h]
  rw [hj, impl_PostChain.j0]
  unfold postRes
  cases hb : (decide ((m.size : Int) > 65536) || decide ((l.length : Int) > 1000))
  rotate_left
  · simp
  simp only [Bool.or_eq_false_iff, decide_eq_false_iff_not] at hb
  rw [impl_queue _ (by omega), impl_yin]
  simp only [Bool.false_eq_true, if_false, Option.bind_some]
  cases hq : queueOk m s d a u t g
  · simp [impl_PostChain.j1]
  obtain ⟨h1, h2, h3, h4, h5, h6, h7, h8, h9, h10, h11, h12, h13, h14⟩ := queue_true hq
  simp only [if_true, Bool.true_and]
  rw [wrap_id (x := s - 1) (by omega) (by omega)]
  have e0 : decide (0 ≤ first ∧ first ≤ s - 1) = decide (0 ≤ first ∧ first < s) := by rw [Bool.eq_iff_iff]; simp; omega
  rw [e0]
  cases e3 : decide (0 ≤ first ∧ first < s)
  · simp [impl_PostChain.j1]
  simp only [if_true, Bool.true_and]
  simp only [decide_eq_true_eq] at e3
  by_cases c3 : (l.length : Int) < 1
  · rw [if_pos c3, impl_PostChain.j1]
    have : decide (1 ≤ (l.length : Int) ∧ (l.length : Int) ≤ s) = false := by simp; omega
    simp [this]
  rw [if_neg c3]
  by_cases c4 : (l.length : Int) > s
  · rw [if_pos c4, impl_PostChain.j1]
    have : decide (1 ≤ (l.length : Int) ∧ (l.length : Int) ≤ s) = false := by simp; omega
    simp [this]
  have e2 : decide (1 ≤ (l.length : Int) ∧ (l.length : Int) ≤ s) = true := by simp; omega
  rw [if_neg c4, impl_bad _ l (by omega) (by omega)]
  simp only [Option.bind_some]
  rw [impl_PostChain.j1, e2]
  have hw := impl_write s d a u t g first l (by omega) h3 h4 h5 h7 (by omega) (by omega) (by omega) l.length k m 0 (by omega) (by omega) (by omega) h6 h8
  rw [List.drop_zero] at hw
  cases l.all bufOk
  · simp
  · simp only [Bool.not_true, Bool.false_eq_true, if_false, Bool.true_and, if_true]
    exact hw

theorem eq_given (c : Int) (m : ByteArray) (s d a u t g : Int) (w : Bool) : laws_eqGivenChain.f c m s d a u t g w c m s d a u t g w = some true := by
  unfold laws_eqGivenChain.f laws_eqQueue.f
  cases w <;> simp

theorem FnExactPostChain : laws_FnExactPostChain.Pure := by
  intro m s d a u t g first l hm hs hd ha hu ht hg hf hl
  refine ⟨2000000, ?_⟩
  unfold laws_FnExactPostChain.f
  split
  · rfl
  rw [szBufs l hl.1]
  simp only [Option.bind_some]
  by_cases hz : l.length > 1048576
  · simp [hz]
  rw [if_neg hz, if_neg (by omega)]
  unfold laws_toQueue.f
  simp only [Option.bind_some, toBufs 2000000 l (by omega) (by omega), spec_post 2000000 (by omega), impl_post 2000000 (by omega) _ _ _ _ _ _ _ _ _ hs, eq_given, if_true]
  rw [eqBufs 2000000 _ (by rw [List.length_map]; omega) (by rw [List.length_map]; omega)]
  rfl

end Go.Proofs.Ythcmgjbkmnpibaa.PureFnExactPostChain
namespace Go.Proofs.Ythcmgjbkmnpibaa.Pure
theorem FnExactPostChain : Go.Proofs.Ythcmgjbkmnpibaa.PFnExactPostChain.laws_FnExactPostChain.Pure := Go.Proofs.Ythcmgjbkmnpibaa.PureFnExactPostChain.FnExactPostChain
end Go.Proofs.Ythcmgjbkmnpibaa.Pure
