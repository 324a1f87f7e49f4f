/- impl.HelloText by a walk: what it returns, for every string of at most 100 bytes; the tables of Go's library stand. -/
import Derived.Test.YtbhbcpglepgbbaaDoorShelf
import Derived.Shelf.Strings.BuilderK
import Derived.WalkKit
import Derived.BigCall
namespace Go.Proofs
open Go.RowKit Go.Shelf
set_option linter.unusedVariables false

def Tryd.helloOf (l : List UInt8) : List UInt8 := l.flatMap fun c => [97, 100, 100, 105, 32, 114, 49, 44, 32, 114, 48, 44, 32] ++ (Lib.itoa (c.toNat : Int) ++ [10, 111, 117, 116, 32, 114, 49, 44, 32, 49, 10])
theorem Tryd.isBuilder_below {T e : TypeId} {B b : Nat} {bs : List Value} {w w' : World} (h : Lib.IsBuilderF T e B b bs w) (hb : Below w.heap.size w w') : Lib.IsBuilderF T e B b bs w' := by
  have go : ∀ p, Lib.BuilderAtF T e B b p bs w → Lib.BuilderAtF T e B b p bs w' := fun p h => by
    have hlt := h.lt
    obtain ⟨hB, v, hv, hown, hne⟩ := h
    refine ⟨hB, v, (hb.block b hlt).trans hv, ⟨hown.1, ?_⟩, hne⟩
    rcases hown.2 with h | ⟨g, cap, cur, fz, e1, e2, e3, r⟩
    · exact .inl h
    · exact .inr ⟨g, cap, cur, fz, e1, e2, (hb.block g (Array.getElem?_eq_some_iff.1 e3).1).trans e3, r⟩
  exact h.elim (fun h => .inl (go _ h)) fun h => .inr (go _ h)
theorem Tryd.below_grown (w : World) (k : Nat) (os : Array Obj) : Below w.heap.size w (Go.Sort.grow (w.drewN k) os) :=
  ⟨rfl, rfl, rfl, by show w.heap.size ≤ (w.heap ++ os).size; simp, fun b hb => by show (w.heap ++ os)[b]? = _; rw [Array.getElem?_append_left hb]⟩
theorem Tryd.tab_below {w w' : World} (h : Lib.TabIs Tryd.prog w "internal/strconv.uint64pow10" .u64 Lib.pow10Tab) (hb : Below w.heap.size w w') : Lib.TabIs Tryd.prog w' "internal/strconv.uint64pow10" .u64 Lib.pow10Tab := by
  unfold Lib.TabIs World.var? at *
  rw [show Program.globalNamed Tryd.prog "internal/strconv.uint64pow10" = some 1 by kernel_rfl] at *
  simp only [Option.bind_some] at *
  split at h
  · rename_i cs t e he
    rw [hb.block 1 (Array.getElem?_eq_some_iff.1 he).1, he]
    exact h
  · cases h
/-- a number as a text -/
theorem Tryd.decimal_any (n : Int) (h0 : -9223372036854775808 ≤ n) (h1 : n ≤ 9223372036854775807) (w : World) (ht : Lib.TabIs Tryd.prog w "internal/strconv.uint64pow10" .u64 Lib.pow10Tab) :
    Calls Tryd.prog 20 #[.int .i64 n] w fun e w' => e = .returned (.string ⟨(Lib.itoa n).toArray⟩) ∧ Below w.heap.size w w' := by
  go_enter Tryd.func20, Tryd.ntmps20
  go_wp2_with (go_at_call 34; refine (Tryd.strconv_FormatInt_10 n h0 h1 w ht).mono ?_; rintro e w' ⟨rfl, k, os, rfl⟩)
  go_ret
  exact ⟨rfl, Tryd.below_grown _ _ _⟩
/-- three texts put together -/
theorem Tryd.join3 (bk : Nat) (x y z : ByteArray) (w : World) (hbk : bk < w.heap.size) (h0 : w.cell? ⟨bk, 0, none⟩ = some (.string x)) (h1 : w.cell? ⟨bk, 1, none⟩ = some (.string y)) (h2 : w.cell? ⟨bk, 2, none⟩ = some (.string z))
    (hs : x.size + (y.size + z.size) ≤ 1000000) :
    Calls Tryd.prog 19 #[.slice (some ⟨bk, 0, none⟩) 3 3] w fun e w' => e = .returned (.string ⟨(x.data.toList ++ (y.data.toList ++ z.data.toList)).toArray⟩) ∧ Below w.heap.size w w' := by
  have hj : Lib.join ([x, y, z].map (·.data.toList)) ByteArray.empty.data.toList = x.data.toList ++ (y.data.toList ++ z.data.toList) := by
    show Lib.join [x.data.toList, y.data.toList, z.data.toList] [] = _
    rw [Lib.join_cons]
    show _ ++ ([] ++ y.data.toList ++ ([] ++ z.data.toList ++ [])) = _
    rw [List.nil_append, List.nil_append, List.append_nil]
  have hl : (Lib.join ([x, y, z].map (·.data.toList)) ByteArray.empty.data.toList).length ≤ 140737488355328 := by
    rw [hj]
    simp only [List.length_append, Array.length_toList]
    have e : ∀ b : ByteArray, b.data.size = b.size := fun _ => rfl
    rw [e, e, e]
    omega
  have c := Tryd.strings_Join bk 0 3 [x, y, z] ByteArray.empty w (fun j v hv => by
    match j with
    | 0 => simp at hv; subst hv; exact h0
    | 1 => simp at hv; subst hv; exact h1
    | 2 => simp at hv; subst hv; exact h2
    | j + 3 => simp at hv) hbk (by simp) (by simp) hl
  rw [hj] at c
  clear hj hl h0 h1 h2
  have c' : Calls Tryd.prog 33 #[.slice (some ⟨bk, 0, none⟩) 3 3, .string { data := #[] }] w fun e w' => e = .returned (.string ⟨(x.data.toList ++ (y.data.toList ++ z.data.toList)).toArray⟩) ∧ Below w.heap.size w w' := c
  clear c
  go_enter Tryd.func19, Tryd.ntmps19
  go_wp2_with (go_at_call 33; refine c'.mono ?_; rintro e w' ⟨rfl, hb⟩)
  go_ret
  exact ⟨rfl, hb⟩
theorem Tryd.write_any (B b : Nat) (bs : List Value) (s : ByteArray) (w : World) (h : Lib.IsBuilderF 39 5 B b bs w) (hlen : bs.length + s.size ≤ 140737488355328) (hBw : B ≤ w.heap.size) :
    Calls Tryd.prog 18 #[.pointer (some ⟨b, 0, none⟩), .string s] w fun e w' => e = .returned (.tuple #[.int .i64 s.size, .nilIface]) ∧ (Lib.BuilderAtF 39 5 B b (.pointer (some ⟨b, 0, none⟩)) (bs ++ Lib.strCells s) w' ∧ Below B w w' ∧ Lib.OthersKept 5 (some b) w w') :=
  Any.Builder_WriteString_k { Tryd.lays156 with } Tryd.Builder_Extra_156 B b bs s w h hlen hBw
theorem Tryd.cells3 (x y z : Value) (w : World) (t : TypeId) : (w.alloc (.cells #[x, y, z] t)).cell? ⟨w.heap.size, 0, none⟩ = some x ∧ (w.alloc (.cells #[x, y, z] t)).cell? ⟨w.heap.size, 1, none⟩ = some y ∧ (w.alloc (.cells #[x, y, z] t)).cell? ⟨w.heap.size, 2, none⟩ = some z := by
  have h : (w.alloc (.cells #[x, y, z] t)).heap[w.heap.size]? = some (.cells #[x, y, z] t) := by
    show (w.heap.push _)[w.heap.size]? = _
    exact Array.getElem?_push_size
  unfold World.cell?
  simp only [h]
  exact ⟨rfl, rfl, rfl⟩
theorem Tryd.itoa_byte (c : UInt8) : (Lib.itoa (c.toNat : Int)).length ≤ 3 := by
  have key : ∀ d : Fin 256, (Lib.decDigits d.val).length ≤ 3 := by
    intro d
    rw [Lib.decDigits]
    split
    · simp
    · rw [Lib.decDigits]
      split
      · simp
      · rw [Lib.decDigits]
        rw [dif_pos (by have := d.isLt; omega)]
        simp
  unfold Lib.itoa
  rw [if_neg (by omega), Int.toNat_natCast]
  exact key ⟨c.toNat, c.toNat_lt⟩
set_option maxHeartbeats 4000000 in
set_option maxRecDepth 1000000 in
theorem Tryd.hello_walk (s : ByteArray) (w : World) (hs : s.size ≤ 100) (ht : Lib.TabIs Tryd.prog w "internal/strconv.uint64pow10" .u64 Lib.pow10Tab) :
    Calls Tryd.prog 8 #[.string s] w fun e w' => e = .returned (.string ⟨(Tryd.helloOf s.data.toList ++ [104, 97, 108, 116, 10]).toArray⟩) ∧ Below w.heap.size w w' := by
  have hns : ¬ (100 : Int) < (s.size : Int) := by omega
  go_enter Tryd.func8, Tryd.ntmps8
  go_wp2
  go_loopw [10] (fun i wr => ∃ (k : Nat), k ≤ s.size ∧ i = .int .i64 k ∧ Lib.IsBuilderF 39 5 w.heap.size w.heap.size (Lib.byteCells (Tryd.helloOf (s.data.toList.take k))) wr ∧ Below w.heap.size w wr) (fun i wr => s.size - (intOf i).toNat)
  case atStart =>
    refine ⟨0, Nat.zero_le _, rfl, Lib.IsBuilderF.of (Lib.fresh_isBuilder 39 5 w), (Below.refl _ w).alloc (Nat.le_refl _) _⟩
  case round =>
    obtain ⟨k, hk, rfl, hI, hbw⟩ := hrel
    have hz : w.heap.size < wr.heap.size := by
      rcases hI with h | h
      · exact h.lt
      · exact h.lt
    have htr := Tryd.tab_below ht hbw
    have hlen : ∀ k, (Tryd.helloOf (s.data.toList.take k)).length ≤ 40 * k := fun k => by
      have key : ∀ l : List UInt8, (Tryd.helloOf l).length ≤ 40 * l.length := fun l => by
        induction l with
        | nil => simp [Tryd.helloOf]
        | cons c l ih =>
          have e : Tryd.helloOf (c :: l) = ([97, 100, 100, 105, 32, 114, 49, 44, 32, 114, 48, 44, 32] ++ (Lib.itoa (c.toNat : Int) ++ [10, 111, 117, 116, 32, 114, 49, 44, 32, 49, 10])) ++ Tryd.helloOf l := rfl
          have := Tryd.itoa_byte c
          rw [e, List.length_append, List.length_append, List.length_append]
          simp only [List.length_cons, List.length_nil]
          omega
      refine Nat.le_trans (key _) ?_
      rw [List.length_take]
      omega
    by_cases hp : k < s.size
    · have hc0 : (0 : Int) ≤ (k : Int) := by omega
      have hc1 : (k : Int) < (s.size : Int) := by omega
      generalize hcd : s[k]'hp = cd
      have hw : wrap64 (cd.toNat : Int) = (cd.toNat : Int) := by have := cd.toNat_lt; unfold wrap64; omega
      have hdec := Tryd.decimal_any (cd.toNat : Int) (by have := cd.toNat_lt; clear hw; omega) (by have := cd.toNat_lt; clear hw; omega) wr htr
      go_wp2_with (go_at_call 20; refine hdec.mono ?_; rintro e W1 ⟨rfl, b1⟩)
      clear hdec hw
      have hit := Tryd.itoa_byte cd
      generalize hil : Lib.itoa (cd.toNat : Int) = il at hit ⊢
      have hj := Tryd.join3 W1.heap.size ⟨#[97, 100, 100, 105, 32, 114, 49, 44, 32, 114, 48, 44, 32]⟩ ⟨il.toArray⟩ ⟨#[10, 111, 117, 116, 32, 114, 49, 44, 32, 49, 10]⟩
        (W1.alloc (.cells #[.string ⟨#[97, 100, 100, 105, 32, 114, 49, 44, 32, 114, 48, 44, 32]⟩, .string ⟨il.toArray⟩, .string ⟨#[10, 111, 117, 116, 32, 114, 49, 44, 32, 49, 10]⟩] 9))
        (by simp) (Tryd.cells3 _ _ _ _ _).1 (Tryd.cells3 _ _ _ _ _).2.1 (Tryd.cells3 _ _ _ _ _).2.2 (by
          have e0 : (⟨#[97, 100, 100, 105, 32, 114, 49, 44, 32, 114, 48, 44, 32]⟩ : ByteArray).size = 13 := rfl
          have e1 : (⟨#[10, 111, 117, 116, 32, 114, 49, 44, 32, 49, 10]⟩ : ByteArray).size = 11 := rfl
          have e2 : (⟨il.toArray⟩ : ByteArray).size = il.length := by simp [ByteArray.size]
          omega)
      have hout : ([97, 100, 100, 105, 32, 114, 49, 44, 32, 114, 48, 44, 32] ++ (il ++ [10, 111, 117, 116, 32, 114, 49, 44, 32, 49, 10]) : List UInt8).length ≤ 40 := by
        simp only [List.length_append, List.length_cons, List.length_nil]; omega
      have hnext : Tryd.helloOf (s.data.toList.take (k + 1)) = Tryd.helloOf (s.data.toList.take k) ++ ([97, 100, 100, 105, 32, 114, 49, 44, 32, 114, 48, 44, 32] ++ (il ++ [10, 111, 117, 116, 32, 114, 49, 44, 32, 49, 10])) := by
        have hg : s.data.toList[k]? = some cd := by
          rw [Array.getElem?_toList, ← hcd]
          exact Array.getElem?_eq_getElem hp
        rw [List.take_add_one, hg, ← hil]
        simp [Tryd.helloOf]
      generalize hol : ([97, 100, 100, 105, 32, 114, 49, 44, 32, 114, 48, 44, 32] ++ (il ++ [10, 111, 117, 116, 32, 114, 49, 44, 32, 49, 10]) : List UInt8) = ol at hj hout hnext
      have hbA : Below wr.heap.size wr (W1.alloc (.cells #[.string ⟨#[97, 100, 100, 105, 32, 114, 49, 44, 32, 114, 48, 44, 32]⟩, .string ⟨il.toArray⟩, .string ⟨#[10, 111, 117, 116, 32, 114, 49, 44, 32, 49, 10]⟩] 9)) := b1.alloc b1.size _
      have hz1 := b1.size
      go_wp2_with (go_at_call 19; refine hj.mono ?_; rintro e W2 ⟨rfl, b2⟩)
      have hbB : Below wr.heap.size wr W2 := hbA.trans (b2.mono hbA.size)
      have hI2 := Tryd.isBuilder_below hI hbB
      have hz2 := hbB.size
      have hl0 := hlen k
      have hk100 : 40 * k ≤ 4000 := by omega
      have hwr := Tryd.write_any w.heap.size w.heap.size _ ⟨ol.toArray⟩ W2 hI2 (by
        have e2 : (⟨ol.toArray⟩ : ByteArray).size = ol.length := by simp [ByteArray.size]
        rw [Lib.byteCells_length]; omega) (by omega)
      go_wp2_with (go_at_call 18; refine hwr.mono ?_; rintro e W3 ⟨rfl, h3, b3, _⟩)
      go_wp2
      go_roundw
      case rel =>
        refine ⟨k + 1, by omega, by go_num, ?_, (hbw.trans (hbB.mono (by omega))).trans b3⟩
        rw [hnext, Lib.byteCells_append]
        exact .inr h3
      case measure => simp [intOf]; omega
    · have hc1 : ¬ (k : Int) < (s.size : Int) := by omega
      obtain rfl : k = s.size := by omega
      have hall : s.data.toList.take s.size = s.data.toList := List.take_of_length_le (Nat.le_of_eq (by rw [Array.length_toList]; rfl))
      have hb := hlen s.size
      rw [hall] at hI hb
      have hb5 : (Tryd.helloOf s.data.toList).length + 5 ≤ 9223372036854775807 := by omega
      clear hb hlen
      have HI := Lib.hid hI
      clear hall hI hk
      go_wp2_with (go_at_call 21; refine (Tryd.Builder_String_any_k w.heap.size w.heap.size _ _ HI.out (by omega)).mono ?_; rintro e W1 ⟨rfl, _, b1, _⟩)
      go_wp2
      go_ret
      refine ⟨?_, hbw.trans b1⟩
      congr 2
theorem Tryd.hello_long (s : ByteArray) (w : World) (hs : ¬ s.size ≤ 100) : Calls Tryd.prog 8 #[.string s] w fun e w' => e = .returned (.string ⟨#[]⟩) ∧ w' = w := by
  have h : (100 : Int) < (s.size : Int) := by omega
  go_enter Tryd.func8, Tryd.ntmps8
  go_wp2
  go_ret
  exact ⟨rfl, rfl⟩
end Go.Proofs
