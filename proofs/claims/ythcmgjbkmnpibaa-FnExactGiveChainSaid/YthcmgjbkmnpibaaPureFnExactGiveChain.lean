/- The plain statement of the law FnExactGiveChain. -/
import Derived.Test.YthcmgjbkmnpibaaStFnExactGiveChain
import Derived.OpenShut
namespace Go.Proofs.Ythcmgjbkmnpibaa.PureFnExactGiveChain
set_option linter.unusedVariables false
set_option linter.unusedSimpArgs false
open Go.RowKit Go.Proofs.Ythcmgjbkmnpibaa.PFnExactGiveChain Go.Proofs.YthcmgjbkmnpibaaW.PrintWords Go.Proofs.YthcmgjbkmnpibaaW.PrintLast Go.Proofs.YthcmgjbkmnpibaaW.PrintMore

/-! ### mem -/
/-- Memory as both want it: whole pages, at least one. -/
def memOk (m : ByteArray) : Bool := decide (256 ≤ (m.size : Int) ∧ (m.size : Int) ≤ 65536 ∧ (m.size : Int) % 256 = 0)
theorem impl_memOk (m : ByteArray) : impl_ymemOk.f m = some (memOk m) := by
  unfold impl_ymemOk.f memOk
  repeat' split
  all_goals (congr 1; rw [Bool.eq_iff_iff]; simp; omega)
theorem spec_memOk (m : ByteArray) : spec_MemFault.f m = some (if memOk m = true then 0 else 1) := by
  unfold spec_MemFault.f memOk
  grind
/-- A place in so many bytes. -/
def inB (n a b : Int) : Bool := decide (0 ≤ a ∧ 0 ≤ b ∧ a ≤ n ∧ b ≤ wrap64 (n - a))
theorem spec_in (m : ByteArray) (a b : Int) : spec_l10In.f m a b = some (inB m.size a b) := by
  unfold spec_l10In.f inB
  repeat' split
  all_goals (congr 1; rw [Bool.eq_iff_iff]; simp; omega)
theorem impl_in (n a b : Int) : impl_yfits.f n a b = some (inB n a b) := by
  unfold impl_yfits.f inB
  repeat' split
  all_goals (congr 1; rw [Bool.eq_iff_iff]; simp; omega)
theorem inB_true {n a b : Int} (h0 : 0 ≤ n) (hn : n ≤ 140737488351232) (h : inB n a b = true) : 0 ≤ a ∧ 0 ≤ b ∧ a + b ≤ n := by
  unfold inB at h
  simp only [decide_eq_true_eq] at h
  obtain ⟨h1, h2, h3, h4⟩ := h
  have e : wrap64 (n - a) = n - a := by unfold wrap64; omega
  rw [e] at h4
  omega

/-! ### yin -/
theorem impl_yin (a b c : Int) : impl_yin.f a b c = some (decide (b ≤ a ∧ a ≤ c)) := by
  unfold impl_yin.f
  split
  all_goals (congr 1; rw [Bool.eq_iff_iff]; simp; try omega)

/-! ### place -/
def placeOk (n a b : Int) : Bool := decide (Int.tmod a 4 = 0) && inB n a b
theorem impl_place (m : ByteArray) (a b : Int) : impl_yplace.f m a b = some (placeOk m.size a b) := by
  unfold impl_yplace.f placeOk
  simp only [impl_in, Option.bind_some]
  split <;> rename_i h <;> simp [h]

/-! ### queue -/
/-- How many a queue may hold. -/
def sizeOk (s : Int) : Bool := s == 1 || s == 2 || s == 4 || s == 8 || s == 16
theorem spec_sizes (k : Nat) (hk : 6 ≤ k) (s : Int) : spec_l01InInts.f k ([1, 2, 4, 8, 16] : List Int) s = some (sizeOk s) := by
  obtain ⟨k, rfl⟩ : ∃ m, k = m + 6 := ⟨k - 6, by omega⟩
  unfold spec_l01InInts.f sizeOk
  simp only [spec_l01InInts.l0, rd, wrap64]
  simp (config := {decide := true})
  grind
theorem impl_sizes (k : Nat) (hk : 6 ≤ k) (s : Int) : slices_Contains_int64.f k ([1, 2, 4, 8, 16] : List Int) s = some (sizeOk s) := by
  obtain ⟨k, rfl⟩ : ∃ m, k = m + 6 := ⟨k - 6, by omega⟩
  unfold slices_Contains_int64.f slices_Index_int64.f sizeOk
  simp only [slices_Index_int64.l0, rd, wrap64]
  simp (config := {decide := true})
  grind
theorem sizeOk_le {s : Int} (h : sizeOk s = true) : 1 ≤ s ∧ s ≤ 16 := by
  unfold sizeOk at h
  simp at h
  omega
/-- What a queue is. -/
def queueOk (m : ByteArray) (s d a u t g : Int) : Bool :=
  memOk m && sizeOk s && placeOk m.size d (wrap64 (16 * s)) && placeOk m.size a (wrap64 (8 + wrap64 (4 * s))) && placeOk m.size u (wrap64 (8 + wrap64 (8 * s))) && decide (0 ≤ t ∧ t ≤ 65535) && decide (0 ≤ g ∧ g ≤ 65535)
theorem spec_queue (k : Nat) (hk : 7 ≤ k) (m : ByteArray) (s d a u t g : Int) : spec_QueueFault.f k m s d a u t g = some (if queueOk m s d a u t g = true then 0 else 1) := by
  obtain ⟨k, rfl⟩ : ∃ m, k = m + 1 := ⟨k - 1, by omega⟩
  unfold spec_QueueFault.f queueOk placeOk
  simp only [spec_memOk, spec_sizes _ (show 6 ≤ k + 1 by omega), spec_QueueFault.j0, spec_in, Option.bind_some]
  grind
theorem impl_queue (k : Nat) (hk : 6 ≤ k) (m : ByteArray) (s d a u t g : Int) : impl_QueueFault.f k m s d a u t g = some (if queueOk m s d a u t g = true then 0 else 1) := by
  unfold impl_QueueFault.f queueOk
  simp only [impl_memOk, impl_sizes _ hk, impl_place, impl_yin, Option.bind_some]
  grind

/-! ### words -/
theorem wrap_id {x : Int} (h0 : -9223372036854775808 ≤ x) (h1 : x ≤ 9223372036854775807) : wrap64 x = x := by unfold wrap64; omega
theorem wraps_i64 (n : Int) (h0 : 0 ≤ n) (h1 : n < 2 ^ 63) : IntKind.i64.wrap n = n := by rw [IntKind.wrap_i64]; omega
theorem or_comm_i64 (x y : Int) : Go.bits .or .i64 x y = Go.bits .or .i64 y x := by
  unfold Go.bits
  simp only [BitVec.or_comm]
theorem or_low (i : Nat) (x y : Int) (hx0 : 0 ≤ x) (hx : x < 2 ^ i) (hy0 : 0 ≤ y) (hy : y % 2 ^ i = 0) (hy1 : y < 2 ^ 63) (hx1 : x < 2 ^ 63) : Go.bits .or .i64 x y = x + y := by
  rw [or_comm_i64, Int.add_comm]
  exact bits_join .i64 63 (by decide) wraps_i64 i y x hy0 hy hy1 hx0 hx hx1
theorem and_mask (i : Nat) (hi : i ≤ 63) (x : Int) (h0 : 0 ≤ x) (h1 : x < 2 ^ 63) : Go.bits .and .i64 x (2 ^ i - 1) = x % 2 ^ i :=
  bits_mask .i64 63 (by decide) wraps_i64 i hi x h0 h1
/-- Four bytes as a number. -/
def word (m : ByteArray) (a : Int) : Int := bt m a + bt m (a + 1) * 256 + bt m (a + 2) * 65536 + bt m (a + 3) * 16777216
theorem word_range (m : ByteArray) (a : Int) : 0 ≤ word m a ∧ word m a < 4294967296 := by
  have h0 := bt_range m a; have h1 := bt_range m (a + 1); have h2 := bt_range m (a + 2); have h3 := bt_range m (a + 3)
  unfold word; omega
theorem spec_word (m : ByteArray) (a : Int) (hm : m.size ≤ 140737488351232) (h0 : 0 ≤ a) (h1 : a + 4 ≤ m.size) : spec_l01Word.f m a = some (word m a) := by
  have b0 := bt_range m a; have b1 := bt_range m (a + 1); have b2 := bt_range m (a + 2); have b3 := bt_range m (a + 3)
  have e1 : wrap64 (a + 1) = a + 1 := wrap_id (by omega) (by omega)
  have e2 : wrap64 (a + 2) = a + 2 := wrap_id (by omega) (by omega)
  have e3 : wrap64 (a + 3) = a + 3 := wrap_id (by omega) (by omega)
  unfold spec_l01Word.f word
  rw [e1, e2, e3, if_pos h0, if_pos (by omega), if_pos (by omega), if_pos (by omega), if_pos (by omega), if_pos (by omega), if_pos (by omega), if_pos (by omega)]
  rw [wrap_id (x := bt m a) (by omega) (by omega), wrap_id (x := bt m (a + 1)) (by omega) (by omega), wrap_id (x := bt m (a + 2)) (by omega) (by omega), wrap_id (x := bt m (a + 3)) (by omega) (by omega)]
  rw [wrap_id (x := bt m (a + 1) * 256) (by omega) (by omega), wrap_id (x := bt m (a + 2) * 65536) (by omega) (by omega), wrap_id (x := bt m (a + 3) * 16777216) (by omega) (by omega)]
  rw [wrap_id (x := bt m a + bt m (a + 1) * 256) (by omega) (by omega), wrap_id (x := bt m a + bt m (a + 1) * 256 + bt m (a + 2) * 65536) (by omega) (by omega), wrap_id (by omega) (by omega)]

/-! ### iword -/
theorem impl_word (m : ByteArray) (a : Int) (hm : m.size ≤ 140737488351232) (h0 : 0 ≤ a) (h1 : a + 4 ≤ m.size) : impl_ywordAt.f m a = some (word m a) := by
  have b0 := bt_range m a; have b1 := bt_range m (a + 1); have b2 := bt_range m (a + 2); have b3 := bt_range m (a + 3)
  have e1 : wrap64 (a + 1) = a + 1 := wrap_id (by omega) (by omega)
  have e2 : wrap64 (a + 2) = a + 2 := wrap_id (by omega) (by omega)
  have e3 : wrap64 (a + 3) = a + 3 := wrap_id (by omega) (by omega)
  unfold impl_ywordAt.f word
  rw [e1, e2, e3, if_pos h0, if_pos (by omega), if_pos (by omega), if_pos (by omega), if_pos (by omega), if_pos (by omega), if_pos (by omega), if_pos (by omega)]
  rw [wrap_id (x := bt m a) (by omega) (by omega), wrap_id (x := bt m (a + 1)) (by omega) (by omega), wrap_id (x := bt m (a + 2)) (by omega) (by omega), wrap_id (x := bt m (a + 3)) (by omega) (by omega)]
  rw [wrap_id (x := bt m (a + 1) * 256) (by omega) (by omega), wrap_id (x := bt m (a + 2) * 65536) (by omega) (by omega), wrap_id (x := bt m (a + 3) * 16777216) (by omega) (by omega)]
  rw [or_low 8 (bt m a) (bt m (a + 1) * 256) (by omega) (by omega) (by omega) (by omega) (by omega) (by omega)]
  rw [or_low 16 (bt m a + bt m (a + 1) * 256) (bt m (a + 2) * 65536) (by omega) (by omega) (by omega) (by omega) (by omega) (by omega)]
  rw [or_low 24 _ (bt m (a + 3) * 16777216) (by omega) (by omega) (by omega) (by omega) (by omega) (by omega)]

/-! ### isword -/
def isWord (n : Int) : Bool := decide (0 ≤ n ∧ n < 4294967296)
theorem spec_isWord (n : Int) : spec_l01IsWord.f n = some (isWord n) := by
  unfold spec_l01IsWord.f isWord
  split
  all_goals (congr 1; rw [Bool.eq_iff_iff]; simp; try omega)
theorem impl_isWord (n : Int) : impl_yisWord.f n = some (isWord n) := by
  unfold impl_yisWord.f isWord
  split
  all_goals (congr 1; rw [Bool.eq_iff_iff]; simp; try omega)

/-! ### put -/
/-- A number's four bytes. -/
def wordBytes (n : Int) : ByteArray := strOfNums [n % 4294967296 % 256, n % 4294967296 / 256 % 256, n % 4294967296 / 65536 % 256, n % 4294967296 / 16777216 % 256]
theorem wordBytes_size (n : Int) : (wordBytes n).size = 4 := rfl
theorem impl_putWord (n : Int) : impl_PutWord.f n = some (wordBytes n) := by
  unfold impl_PutWord.f wordBytes
  have : n % 4294967296 / 16777216 = n % 4294967296 / 16777216 % 256 := by omega
  rw [← this]
theorem tmod_word (n : Int) : (if Int.tmod n 4294967296 < 0 then wrap64 (Int.tmod n 4294967296 + 4294967296) else Int.tmod n 4294967296) = n % 4294967296 := by
  have h := Int.tmod_eq_emod (a := n) (b := 4294967296)
  split
  · rename_i hn
    rw [wrap_id (by have := Int.emod_nonneg n (b := 4294967296) (by decide); split at h <;> omega) (by omega)]
    have := Int.emod_nonneg n (b := 4294967296) (by decide)
    split at h <;> omega
  · rename_i hn
    have := Int.emod_lt_of_pos n (b := 4294967296) (by decide)
    split at h <;> omega
theorem spec_wordOf (n : Int) : spec_Word.f n = some (n % 4294967296) := by
  unfold spec_Word.f spec_l01Mod.f
  rw [if_neg (by decide)]
  have h := tmod_word n
  split <;> rename_i hn
  · rw [if_pos hn] at h; rw [h]; rfl
  · rw [if_neg hn] at h; rw [h]; rfl
theorem spec_putWord (n : Int) : spec_PutWord.f n = some (wordBytes n) := by
  unfold spec_PutWord.f wordBytes
  rw [spec_wordOf]; rfl
/-- A text with others in the place of some of its bytes. -/
def splice (m : ByteArray) (a : Int) (t : ByteArray) : ByteArray := m.extract 0 a.toNat ++ t ++ m.extract (a + t.size).toNat m.size
theorem splice_size (m : ByteArray) (a : Int) (t : ByteArray) (h0 : 0 ≤ a) (h1 : a + t.size ≤ m.size) : (splice m a t).size = m.size := by
  unfold splice
  simp only [ByteArray.size_append, ByteArray.size_extract]
  omega
theorem impl_splice (m : ByteArray) (a : Int) (t : ByteArray) (hm : m.size ≤ 140737488351232) (h0 : 0 ≤ a) (h1 : a + t.size ≤ m.size) : impl_ysplice.f m a t = some (splice m a t) := by
  have e : wrap64 (a + t.size) = a + t.size := wrap_id (by omega) (by omega)
  have s1 : (m.extract 0 a.toNat).size = a.toNat := by rw [ByteArray.size_extract]; omega
  have s2 : (m.extract 0 a.toNat ++ t).size = a.toNat + t.size := by rw [ByteArray.size_append, s1]
  have s3 : (m.extract (a + t.size).toNat m.size).size = m.size - (a + t.size).toNat := by rw [ByteArray.size_extract]; omega
  unfold impl_ysplice.f splice
  rw [e, if_pos h0, if_pos (by omega), if_pos (by omega), if_pos (by omega), if_pos (by omega), if_pos (by rw [s2, s3]; omega)]
/-- A number put into memory. -/
def put (m : ByteArray) (a n : Int) : ByteArray := splice m a (wordBytes n)
theorem put_size (m : ByteArray) (a n : Int) (h0 : 0 ≤ a) (h1 : a + 4 ≤ m.size) : (put m a n).size = m.size := splice_size m a _ h0 (by rw [wordBytes_size]; exact h1)
theorem spec_setWord (m : ByteArray) (a n : Int) (hm : m.size ≤ 65536) (h0 : 0 ≤ a) (h1 : a + 4 ≤ m.size) : spec_SetWord.f m a n = some (put m a n) := by
  unfold spec_SetWord.f spec_GetWord.f
  have e : wrap64 ((m.size : Int) - 4) = m.size - 4 := wrap_id (by omega) (by omega)
  have e4 : wrap64 (a + 4) = a + 4 := wrap_id (by omega) (by omega)
  rw [if_neg (by omega), if_neg (by omega), e, if_neg (by omega), spec_word m a (by omega) h0 h1]
  have s1 : (m.extract 0 a.toNat).size = a.toNat := by rw [ByteArray.size_extract]; omega
  have s2 : (m.extract 0 a.toNat ++ wordBytes n).size = a.toNat + 4 := by rw [ByteArray.size_append, s1, wordBytes_size]
  have s3 : (m.extract (a + 4).toNat m.size).size = m.size - (a + 4).toNat := by rw [ByteArray.size_extract]; omega
  simp only [Option.bind_some, if_true, spec_putWord, e4]
  rw [if_pos h0, if_pos (by omega), if_pos (by rw [s1, wordBytes_size]; omega), if_pos (by omega), if_pos (by omega), if_pos (by rw [s2, s3]; omega)]
  rfl

/-! ### yset -/
/-- Numbers put one behind the other. -/
def puts (m : ByteArray) (a : Int) : List Int → ByteArray
  | [] => m
  | n :: ns => puts (put m a n) (a + 4) ns
theorem puts_size (ns : List Int) : ∀ (m : ByteArray) (a : Int), 0 ≤ a → a + 4 * ns.length ≤ m.size → (puts m a ns).size = m.size := by
  induction ns with
  | nil => intro m a _ _; rfl
  | cons n ns ih =>
    intro m a h0 h1
    simp only [List.length_cons] at h1
    have hp := put_size m a n h0 (by omega)
    rw [puts, ih _ _ (by omega) (by rw [hp]; omega), hp]
theorem impl_yset_loop (ns : List Int) (a : Int) (h0 : 0 ≤ a) (d : Nat) : ∀ (k : Nat) (m : ByteArray) (i : Nat), i + d = ns.length → d < k → m.size ≤ 140737488351232 → a + 4 * ns.length ≤ m.size →
    impl_yset.l0 k m a ns (ns.length : Int) (i : Int) = some (puts m (a + 4 * i) (ns.drop i)) := by
  induction d with
  | zero =>
    intro k m i hi hk hm h1
    obtain ⟨k, rfl⟩ : ∃ q, k = q + 1 := ⟨k - 1, by omega⟩
    have : ns.drop i = [] := List.drop_eq_nil_of_le (by omega)
    rw [this, puts, impl_yset.l0, if_neg (by omega)]
  | succ d ih =>
    intro k m i hi hk hm h1
    obtain ⟨k, rfl⟩ : ∃ q, k = q + 1 := ⟨k - 1, by omega⟩
    have hlt : i < ns.length := by omega
    have hd : ns.drop i = ns[i] :: ns.drop (i + 1) := List.drop_eq_getElem_cons hlt
    have hr : rd ns (i : Int) = ns[i] := by unfold rd; simp [hlt]
    have hp : (put m (a + 4 * (i : Int)) ns[i]).size = m.size := put_size m _ _ (by omega) (by omega)
    have hq := ih k (put m (a + 4 * (i : Int)) ns[i]) (i + 1) (by omega) (by omega) (by omega) (by omega)
    have hs : splice m (a + 4 * (i : Int)) (wordBytes ns[i]) = put m (a + 4 * (i : Int)) ns[i] := by unfold put; rfl
    have hw := impl_splice m (a + 4 * (i : Int)) (wordBytes ns[i]) hm (by omega) (by rw [wordBytes_size]; omega)
    have hc : a + 4 * ((i + 1 : Nat) : Int) = a + 4 * (i : Int) + 4 := by omega
    have c1 : (i : Int) < (ns.length : Int) := by omega
    have c2 : 0 ≤ (i : Int) := by omega
    have ei : wrap64 ((i : Int) + 1) = ((i + 1 : Nat) : Int) := by rw [wrap_id (by omega) (by omega)]; omega
    rw [impl_yset.l0, if_pos c1, if_pos c2, if_pos c1, hr, impl_putWord]
    simp only [Option.bind_some]
    rw [wrap_id (x := 4 * (i : Int)) (by clear ei; omega) (by clear ei; omega), wrap_id (x := a + 4 * (i : Int)) (by clear ei; omega) (by clear ei; omega), hw]
    simp only [Option.bind_some]
    rw [ei, hs, hq, hd, puts, hc]
theorem impl_yset (k : Nat) (m : ByteArray) (a : Int) (ns : List Int) (hk : ns.length < k) (hm : m.size ≤ 140737488351232) (h0 : 0 ≤ a) (h1 : a + 4 * ns.length ≤ m.size) : impl_yset.f k m a ns = some (puts m a ns) := by
  have := impl_yset_loop ns a h0 ns.length k m 0 (by omega) hk hm h1
  unfold impl_yset.f
  rw [show a + 4 * ((0 : Nat) : Int) = a from by omega, List.drop_zero] at this
  exact this

/-! ### ybig -/
theorem impl_big1 (k : Nat) (hk : 2 ≤ k) (m : ByteArray) : impl_ybig.f k ([m] : List ByteArray) = some (decide ((m.size : Int) > 65536)) := by
  obtain ⟨k, rfl⟩ : ∃ q, k = q + 2 := ⟨k - 2, by omega⟩
  unfold impl_ybig.f
  simp only [impl_ybig.l0, rdOf, wrap64]
  by_cases h : (m.size : Int) > 65536 <;> simp (config := {decide := true}) [h]

/-- What giving a chain back answers. -/
def giveRes (m : ByteArray) (s d a u t g head size : Int) : Int × ByteArray × Int × Int × Int × Int × Int × Int × Bool :=
  if (m.size : Int) > 65536 then (2, (⟨#[]⟩ : ByteArray), 0, 0, 0, 0, 0, 0, false)
  else if (queueOk m s d a u t g && decide (0 ≤ head ∧ head < s) && isWord size) = true then
    let m1 := put (put (put m (u + 8 + 8 * Int.tmod g s) head) (u + 8 + 8 * Int.tmod g s + 4) size) (u + 4) (Int.tmod (g + 1) 65536)
    (0, m1, s, d, a, u, t, Int.tmod (g + 1) 65536, decide (word m1 a % 2 = 0))
  else (1, (⟨#[]⟩ : ByteArray), 0, 0, 0, 0, 0, 0, false)

theorem queue_true {m : ByteArray} {s d a u t g : Int} (h : queueOk m s d a u t g = true) :
    256 ≤ m.size ∧ m.size ≤ 65536 ∧ 1 ≤ s ∧ s ≤ 16 ∧ 0 ≤ d ∧ d + 16 * s ≤ m.size ∧ 0 ≤ a ∧ a + (8 + 4 * s) ≤ m.size ∧ 0 ≤ u ∧ u + (8 + 8 * s) ≤ m.size ∧ 0 ≤ t ∧ t ≤ 65535 ∧ 0 ≤ g ∧ g ≤ 65535 := by
  unfold queueOk placeOk memOk at h
  simp only [Bool.and_eq_true, decide_eq_true_eq] at h
  obtain ⟨⟨⟨⟨⟨⟨⟨h1, h2, _⟩, h3⟩, _, h4⟩, _, h5⟩, _, h6⟩, h7⟩, h8⟩ := h
  have hs := sizeOk_le h3
  rw [wrap_id (x := 16 * s) (by omega) (by omega)] at h4
  rw [wrap_id (x := 4 * s) (by omega) (by omega), wrap_id (by omega) (by omega)] at h5
  rw [wrap_id (x := 8 * s) (by omega) (by omega), wrap_id (by omega) (by omega)] at h6
  have a4 := inB_true (by omega) (by omega) h4
  have a5 := inB_true (by omega) (by omega) h5
  have a6 := inB_true (by omega) (by omega) h6
  omega

theorem tmod_lt {g s : Int} (hg : 0 ≤ g) (hs : 1 ≤ s) : 0 ≤ Int.tmod g s ∧ Int.tmod g s < s := by
  have h1 := Int.tmod_eq_emod_of_nonneg (b := s) hg
  rw [h1]
  exact ⟨Int.emod_nonneg _ (by omega), Int.emod_lt_of_pos _ (by omega)⟩

theorem and1 (x : Int) (h0 : 0 ≤ x) (h1 : x < 4294967296) : Go.bits .and .i64 x 1 = x % 2 := and_mask 1 (by decide) x h0 (by omega)

theorem spec_give (k : Nat) (hk : 8 ≤ k) (m : ByteArray) (s d a u t g head size : Int) : spec_GiveChain.f k m s d a u t g head size = some (giveRes m s d a u t g head size) := by
  obtain ⟨k, rfl⟩ : ∃ q, k = q + 1 := ⟨k - 1, by omega⟩
  unfold spec_GiveChain.f giveRes
  rw [spec_queue _ (by omega), spec_isWord]
  by_cases hm : (m.size : Int) > 65536
  · rw [if_pos hm, if_pos hm]
  rw [if_neg hm, if_neg hm]
  simp only [Option.bind_some]
  cases hq : queueOk m s d a u t g
  · simp [spec_GiveChain.j0]
  obtain ⟨h1, h2, h3, h4, h5, h6, h7, h8, h9, h10, h11, h12, h13, h14⟩ := queue_true hq
  simp only [if_true, Bool.true_and]
  by_cases c1 : head < 0
  · rw [if_pos c1, spec_GiveChain.j0]; simp; omega
  rw [if_neg c1]
  by_cases c2 : head ≥ s
  · rw [if_pos c2, spec_GiveChain.j0]; simp; omega
  rw [if_neg c2, spec_GiveChain.j0]
  cases hw : isWord size
  · simp
  obtain ⟨t1, t2⟩ := tmod_lt h13 h3
  obtain ⟨t3, t4⟩ := tmod_lt (g := g + 1) (s := 65536) (by omega) (by omega)
  generalize hx : Int.tmod g s = x at *
  have p1 := put_size m (u + 8 + 8 * x) head (by omega) (by omega)
  have p2 := put_size (put m (u + 8 + 8 * x) head) (u + 8 + 8 * x + 4) size (by omega) (by omega)
  have q1 := spec_setWord m (u + 8 + 8 * x) head (by omega) (by omega) (by omega)
  have q2 := spec_setWord (put m (u + 8 + 8 * x) head) (u + 8 + 8 * x + 4) size (by omega) (by omega) (by omega)
  have q3 := spec_setWord (put (put m (u + 8 + 8 * x) head) (u + 8 + 8 * x + 4) size) (u + 4) (Int.tmod (g + 1) 65536) (by omega) (by omega) (by omega)
  have p3 := put_size (put (put m (u + 8 + 8 * x) head) (u + 8 + 8 * x + 4) size) (u + 4) (Int.tmod (g + 1) 65536) (by omega) (by omega)
  have q4 := spec_word (put (put (put m (u + 8 + 8 * x) head) (u + 8 + 8 * x + 4) size) (u + 4) (Int.tmod (g + 1) 65536)) a (by omega) (by omega) (by omega)
  have w := word_range (put (put (put m (u + 8 + 8 * x) head) (u + 8 + 8 * x + 4) size) (u + 4) (Int.tmod (g + 1) 65536)) a
  have e0 : ¬ s = 0 := by omega
  have e1 : wrap64 (u + 8) = u + 8 := wrap_id (by omega) (by omega)
  have e2 : wrap64 (8 * x) = 8 * x := wrap_id (by clear e1; omega) (by clear e1; omega)
  have e3 : wrap64 (u + 8 + 8 * x) = u + 8 + 8 * x := wrap_id (by clear e1 e2; omega) (by clear e1 e2; omega)
  have e4 : wrap64 (u + 8 + 8 * x + 4) = u + 8 + 8 * x + 4 := wrap_id (by clear e1 e2 e3; omega) (by clear e1 e2 e3; omega)
  have e5 : wrap64 (u + 4) = u + 4 := wrap_id (by clear e1 e2 e3 e4; omega) (by clear e1 e2 e3 e4; omega)
  have e6 : wrap64 (g + 1) = g + 1 := wrap_id (by clear e1 e2 e3 e4 e5; omega) (by clear e1 e2 e3 e4 e5; omega)
  rw [Bool.not_true, if_neg (by decide), if_neg e0, e1, e2, e3, q1]
  simp only [Option.bind_some, e4, q2, e5, e6, q3, q4]
  rw [if_pos (by clear e1 e2 e3 e4 e5 e6; simp; omega)]
  generalize hm1 : put (put (put m (u + 8 + 8 * x) head) (u + 8 + 8 * x + 4) size) (u + 4) (Int.tmod (g + 1) 65536) = m1 at *
  have hb : (Int.tmod (word m1 a) 2 == 0) = decide (word m1 a % 2 = 0) := by
    rw [Int.tmod_eq_emod_of_nonneg w.1, Bool.eq_iff_iff]
    simp
  rw [hb]

theorem impl_give (k : Nat) (hk : 8 ≤ k) (m : ByteArray) (s d a u t g head size : Int) (hs : (Lit.int .i64 s).wf = true) : impl_GiveChain.f k m s d a u t g head size = some (giveRes m s d a u t g head size) := by
  unfold impl_GiveChain.f impl_ymemQueue.f giveRes
  rw [impl_big1 _ (by omega), impl_queue _ (by omega), impl_yin, impl_isWord]
  simp only [Option.bind_some]
  by_cases hm : (m.size : Int) > 65536
  · simp [hm]
  simp only [hm, decide_false, Bool.false_eq_true, if_false]
  cases hq : queueOk m s d a u t g
  · simp
  obtain ⟨h1, h2, h3, h4, h5, h6, h7, h8, h9, h10, h11, h12, h13, h14⟩ := queue_true hq
  simp only [if_true, Bool.true_and, Option.bind_some]
  rw [wrap_id (x := s - 1) (by omega) (by omega)]
  by_cases c1 : 0 ≤ head ∧ head < s
  · have c1' : 0 ≤ head ∧ head ≤ s - 1 := by omega
    simp only [c1, c1', and_self, decide_true, if_true, Bool.true_and]
    cases hw : isWord size
    · simp
    simp only [if_true]
    obtain ⟨t1, t2⟩ := tmod_lt h13 h3
    obtain ⟨t3, t4⟩ := tmod_lt (g := g + 1) (s := 65536) (by omega) (by omega)
    unfold impl_ygiveChain.f
    generalize hx : Int.tmod g s = x at *
    have p1 := put_size m (u + 8 + 8 * x) head (by omega) (by omega)
    have p2 := put_size (put m (u + 8 + 8 * x) head) (u + 8 + 8 * x + 4) size (by omega) (by omega)
    have q1 := impl_yset k m (u + 8 + 8 * x) [head, size] (by simp; omega) (by omega) (by omega) (by simp; omega)
    have q3 := impl_yset k (put (put m (u + 8 + 8 * x) head) (u + 8 + 8 * x + 4) size) (u + 4) [Int.tmod (g + 1) 65536] (by simp; omega) (by omega) (by omega) (by simp; omega)
    have p3 := put_size (put (put m (u + 8 + 8 * x) head) (u + 8 + 8 * x + 4) size) (u + 4) (Int.tmod (g + 1) 65536) (by omega) (by omega)
    have q4 := impl_word (put (put (put m (u + 8 + 8 * x) head) (u + 8 + 8 * x + 4) size) (u + 4) (Int.tmod (g + 1) 65536)) a (by omega) (by omega) (by omega)
    have w := word_range (put (put (put m (u + 8 + 8 * x) head) (u + 8 + 8 * x + 4) size) (u + 4) (Int.tmod (g + 1) 65536)) a
    simp only [puts] at q1 q3
    have e0 : ¬ s = 0 := by omega
    have e1 : wrap64 (u + 8) = u + 8 := wrap_id (by omega) (by omega)
    have e2 : wrap64 (8 * x) = 8 * x := wrap_id (by clear e1; omega) (by clear e1; omega)
    have e3 : wrap64 (u + 8 + 8 * x) = u + 8 + 8 * x := wrap_id (by clear e1 e2; omega) (by clear e1 e2; omega)
    have e5 : wrap64 (u + 4) = u + 4 := wrap_id (by clear e1 e2 e3; omega) (by clear e1 e2 e3; omega)
    have e6 : wrap64 (g + 1) = g + 1 := wrap_id (by clear e1 e2 e3 e5; omega) (by clear e1 e2 e3 e5; omega)
    rw [if_neg e0, e1, e2, e3, q1]
    simp only [Option.bind_some, e5, e6, q3, q4]
    generalize hm1 : put (put (put m (u + 8 + 8 * x) head) (u + 8 + 8 * x + 4) size) (u + 4) (Int.tmod (g + 1) 65536) = m1 at *
    have hb : (Go.bits .and .i64 (word m1 a) 1 == 0) = decide (word m1 a % 2 = 0) := by
      rw [and1 _ w.1 w.2, Bool.eq_iff_iff]
      simp
    rw [hb]
  · have c1' : ¬ (0 ≤ head ∧ head ≤ s - 1) := by omega
    simp [c1, c1']

theorem eq_given (c : Int) (m : ByteArray) (s d a u t g : Int) (w : Bool) : laws_eqGivenChain.f c m s d a u t g w c m s d a u t g w = some true := by
  unfold laws_eqGivenChain.f laws_eqQueue.f
  cases w <;> simp

theorem FnExactGiveChain : laws_FnExactGiveChain.Pure := by
  intro m s d a u t g head size hm hs hd ha hu ht hg hh hz
  refine ⟨8, ?_⟩
  unfold laws_FnExactGiveChain.f laws_toQueue.f
  simp only [spec_give 8 (by omega), impl_give 8 (by omega) _ _ _ _ _ _ _ _ _ hs, Option.bind_some, eq_given, if_true, ite_self]

end Go.Proofs.Ythcmgjbkmnpibaa.PureFnExactGiveChain
namespace Go.Proofs.Ythcmgjbkmnpibaa.Pure
theorem FnExactGiveChain : Go.Proofs.Ythcmgjbkmnpibaa.PFnExactGiveChain.laws_FnExactGiveChain.Pure := Go.Proofs.Ythcmgjbkmnpibaa.PureFnExactGiveChain.FnExactGiveChain
end Go.Proofs.Ythcmgjbkmnpibaa.Pure
