-- Printed for this claim by this session's own program.
import Derived.Test.YthcmgjbkmnpibaaPFnExactPostChainx0
import Derived.Test.YthcmgjbkmnpibaaPFnExactPostChainx4
import Derived.Test.YthcmgjbkmnpibaaPFnExactPostChainx5
namespace Go.Proofs.Ythcmgjbkmnpibaa.PFnExactPostChain
open Go.RowKit Go.Proofs.YthcmgjbkmnpibaaW.PrintWords Go.Proofs.YthcmgjbkmnpibaaW.PrintLast Go.Proofs.YthcmgjbkmnpibaaW.PrintMore
attribute [local go_sem] max2_int min2_int max_two min_two max_three min_three max_four min_four   -- for this text's walks alone
set_option linter.unusedVariables false
set_option linter.unusedSimpArgs false

/-! ### impl_PostChain: function 32 -/
mutual
def impl_PostChain.j0 : Nat → ByteArray → Int → List (S75) → Bool → Int → Int → Int → Int → Int → Int → Option (Int × ByteArray × Int × Int × Int × Int × Int × Int × Bool)
  | 0, _, _, _, _, _, _, _, _, _, _ => none
  | k + 1, x0, x2, x3, x22, x181000, x181001, x181002, x181003, x181004, x181005 => if x22 = true then (some (2, (⟨#[]⟩ : ByteArray), 0, 0, 0, 0, 0, 0, false)) else ((impl_QueueFault.f k x0 x181000 x181001 x181002 x181003 x181004 x181005).bind fun t186 => (if t186 = 0 then ((impl_yin.f x2 0 (wrap64 (x181000 - 1))).bind fun t187 => (if t187 = true then (if (x3.length : Int) < 1 then (impl_PostChain.j1 k x0 x2 x3 true x181000 x181001 x181002 x181003 x181004 x181005) else (if (x3.length : Int) > x181000 then (impl_PostChain.j1 k x0 x2 x3 true x181000 x181001 x181002 x181003 x181004 x181005) else ((slices_ContainsFunc_Buf_at_impl_PostChain_c1.f k x3).bind fun t188 => (impl_PostChain.j1 k x0 x2 x3 t188 x181000 x181001 x181002 x181003 x181004 x181005)))) else (impl_PostChain.j1 k x0 x2 x3 true x181000 x181001 x181002 x181003 x181004 x181005))) else (impl_PostChain.j1 k x0 x2 x3 true x181000 x181001 x181002 x181003 x181004 x181005)))
def impl_PostChain.j1 : Nat → ByteArray → Int → List (S75) → Bool → Int → Int → Int → Int → Int → Int → Option (Int × ByteArray × Int × Int × Int × Int × Int × Int × Bool)
  | 0, _, _, _, _, _, _, _, _, _, _ => none
  | k + 1, x0, x2, x3, x51, x181000, x181001, x181002, x181003, x181004, x181005 => if x51 = true then (some (1, (⟨#[]⟩ : ByteArray), 0, 0, 0, 0, 0, 0, false)) else (impl_PostChain.l0 k x0 x2 x3 x3 (x3.length : Int) 0 x181000 x181001 x181002 x181003 x181004 x181005)
def impl_PostChain.l0 : Nat → ByteArray → Int → List (S75) → List (S75) → Int → Int → Int → Int → Int → Int → Int → Int → Option (Int × ByteArray × Int × Int × Int × Int × Int × Int × Bool)
  | 0, _, _, _, _, _, _, _, _, _, _, _, _ => none
  | k + 1, x0, x2, x3, x53, x54, x55, x181000, x181001, x181002, x181003, x181004, x181005 => if x55 < x54 then (if 0 ≤ x55 then (if x55 < (x53.length : Int) then (if x181000 = 0 then (none) else (if (rd_T75 x53 x55).f2 = true then (if x55 < (wrap64 ((x3.length : Int) - 1)) then ((impl_yset.f k x0 (wrap64 (x181001 + (wrap64 (16 * (Int.tmod (wrap64 (x2 + x55)) x181000))))) (([(rd_T75 x53 x55).f0, (rd_T75 x53 x55).f1, Go.bits .or .i64 (Go.bits .or .i64 0 2) 1, Int.tmod (wrap64 ((Int.tmod (wrap64 (x2 + x55)) x181000) + 1)) x181000] : List Int))).bind fun t203 => (impl_PostChain.l0 k t203 x2 x3 x53 x54 (wrap64 (x55 + 1)) x181000 x181001 x181002 x181003 x181004 x181005)) else ((impl_yset.f k x0 (wrap64 (x181001 + (wrap64 (16 * (Int.tmod (wrap64 (x2 + x55)) x181000))))) (([(rd_T75 x53 x55).f0, (rd_T75 x53 x55).f1, Go.bits .or .i64 0 2, 0] : List Int))).bind fun t207 => (impl_PostChain.l0 k t207 x2 x3 x53 x54 (wrap64 (x55 + 1)) x181000 x181001 x181002 x181003 x181004 x181005))) else (if x55 < (wrap64 ((x3.length : Int) - 1)) then ((impl_yset.f k x0 (wrap64 (x181001 + (wrap64 (16 * (Int.tmod (wrap64 (x2 + x55)) x181000))))) (([(rd_T75 x53 x55).f0, (rd_T75 x53 x55).f1, Go.bits .or .i64 0 1, Int.tmod (wrap64 ((Int.tmod (wrap64 (x2 + x55)) x181000) + 1)) x181000] : List Int))).bind fun t211 => (impl_PostChain.l0 k t211 x2 x3 x53 x54 (wrap64 (x55 + 1)) x181000 x181001 x181002 x181003 x181004 x181005)) else ((impl_yset.f k x0 (wrap64 (x181001 + (wrap64 (16 * (Int.tmod (wrap64 (x2 + x55)) x181000))))) (([(rd_T75 x53 x55).f0, (rd_T75 x53 x55).f1, 0, 0] : List Int))).bind fun t215 => (impl_PostChain.l0 k t215 x2 x3 x53 x54 (wrap64 (x55 + 1)) x181000 x181001 x181002 x181003 x181004 x181005))))) else (none)) else (none)) else ((impl_ywordAt.f x0 (wrap64 (x181002 + 4))).bind fun t189 => (if x181000 = 0 then (none) else ((impl_yset.f k x0 (wrap64 ((wrap64 (x181002 + 8)) + (wrap64 (4 * (Int.tmod (Int.tmod t189 65536) x181000))))) (([x2] : List Int))).bind fun t193 => ((impl_yset.f k t193 (wrap64 (x181002 + 4)) (([Int.tmod (wrap64 ((Int.tmod t189 65536) + 1)) 65536] : List Int))).bind fun t197 => (some (0, t197, x181000, x181001, x181002, x181003, x181004, x181005, false))))))
end
def impl_PostChain.f (k : Nat) (a0 : ByteArray) (a1_0 : Int) (a1_1 : Int) (a1_2 : Int) (a1_3 : Int) (a1_4 : Int) (a1_5 : Int) (a2 : Int) (l3 : List (S75)) : Option (Int × ByteArray × Int × Int × Int × Int × Int × Int × Bool) := (impl_ybig.f k (([a0] : List ByteArray))).bind fun t185 => (if t185 = true then (impl_PostChain.j0 k a0 a2 l3 true a1_0 a1_1 a1_2 a1_3 a1_4 a1_5) else (impl_PostChain.j0 k a0 a2 l3 (decide ((l3.length : Int) > 1000)) a1_0 a1_1 a1_2 a1_3 a1_4 a1_5))
theorem impl_PostChain.mono_l : ∀ k, (∀ y0 y1 y2 y3 y4 y5 y6 y7 y8 y9, LeO (impl_PostChain.j0 k y0 y1 y2 y3 y4 y5 y6 y7 y8 y9) (impl_PostChain.j0 (k + 1) y0 y1 y2 y3 y4 y5 y6 y7 y8 y9)) ∧ (∀ y0 y1 y2 y3 y4 y5 y6 y7 y8 y9, LeO (impl_PostChain.j1 k y0 y1 y2 y3 y4 y5 y6 y7 y8 y9) (impl_PostChain.j1 (k + 1) y0 y1 y2 y3 y4 y5 y6 y7 y8 y9)) ∧ (∀ y0 y1 y2 y3 y4 y5 y6 y7 y8 y9 y10 y11, LeO (impl_PostChain.l0 k y0 y1 y2 y3 y4 y5 y6 y7 y8 y9 y10 y11) (impl_PostChain.l0 (k + 1) y0 y1 y2 y3 y4 y5 y6 y7 y8 y9 y10 y11))
  | 0 => ⟨fun _ _ _ _ _ _ _ _ _ _ r h => by simp [impl_PostChain.j0] at h, fun _ _ _ _ _ _ _ _ _ _ r h => by simp [impl_PostChain.j1] at h, fun _ _ _ _ _ _ _ _ _ _ _ _ r h => by simp [impl_PostChain.l0] at h⟩
  | k + 1 => by
    obtain ⟨ih0, ih1, ih2⟩ := impl_PostChain.mono_l k
    refine ⟨?_, ?_, ?_⟩
    · intro y0 y1 y2 y3 y4 y5 y6 y7 y8 y9
      unfold impl_PostChain.j0
      repeat' first
      | (with_reducible exact ih0 _ _ _ _ _ _ _ _ _ _)
      | (with_reducible exact ih1 _ _ _ _ _ _ _ _ _ _)
      | (with_reducible exact ih2 _ _ _ _ _ _ _ _ _ _ _ _)
      | (with_reducible exact impl_QueueFault.mono _ _ _ _ _ _ _ _)
      | (with_reducible exact impl_ybig.mono _ _)
      | (with_reducible exact impl_yset.mono _ _ _ _)
      | (with_reducible exact slices_ContainsFunc_Buf_at_impl_PostChain_c1.mono _ _)
      | (with_reducible exact LeO.refl _)
      | (with_reducible exact LeO.none _)
      | (with_reducible refine LeO.ite ?_ ?_)
      | (with_reducible refine LeO.bind ?_ (fun _ => ?_))
      | exact ih0 _ _ _ _ _ _ _ _ _ _
      | exact ih1 _ _ _ _ _ _ _ _ _ _
      | exact ih2 _ _ _ _ _ _ _ _ _ _ _ _
      | exact impl_QueueFault.mono _ _ _ _ _ _ _ _
      | exact impl_ybig.mono _ _
      | exact impl_yset.mono _ _ _ _
      | exact slices_ContainsFunc_Buf_at_impl_PostChain_c1.mono _ _
      | exact LeO.none _
      | refine LeO.ite ?_ ?_
      | refine LeO.bind ?_ (fun _ => ?_)
    · intro y0 y1 y2 y3 y4 y5 y6 y7 y8 y9
      unfold impl_PostChain.j1
      repeat' first
      | (with_reducible exact ih0 _ _ _ _ _ _ _ _ _ _)
      | (with_reducible exact ih1 _ _ _ _ _ _ _ _ _ _)
      | (with_reducible exact ih2 _ _ _ _ _ _ _ _ _ _ _ _)
      | (with_reducible exact impl_QueueFault.mono _ _ _ _ _ _ _ _)
      | (with_reducible exact impl_ybig.mono _ _)
      | (with_reducible exact impl_yset.mono _ _ _ _)
      | (with_reducible exact slices_ContainsFunc_Buf_at_impl_PostChain_c1.mono _ _)
      | (with_reducible exact LeO.refl _)
      | (with_reducible exact LeO.none _)
      | (with_reducible refine LeO.ite ?_ ?_)
      | (with_reducible refine LeO.bind ?_ (fun _ => ?_))
      | exact ih0 _ _ _ _ _ _ _ _ _ _
      | exact ih1 _ _ _ _ _ _ _ _ _ _
      | exact ih2 _ _ _ _ _ _ _ _ _ _ _ _
      | exact impl_QueueFault.mono _ _ _ _ _ _ _ _
      | exact impl_ybig.mono _ _
      | exact impl_yset.mono _ _ _ _
      | exact slices_ContainsFunc_Buf_at_impl_PostChain_c1.mono _ _
      | exact LeO.none _
      | refine LeO.ite ?_ ?_
      | refine LeO.bind ?_ (fun _ => ?_)
    · intro y0 y1 y2 y3 y4 y5 y6 y7 y8 y9 y10 y11
      unfold impl_PostChain.l0
      repeat' first
      | (with_reducible exact ih0 _ _ _ _ _ _ _ _ _ _)
      | (with_reducible exact ih1 _ _ _ _ _ _ _ _ _ _)
      | (with_reducible exact ih2 _ _ _ _ _ _ _ _ _ _ _ _)
      | (with_reducible exact impl_QueueFault.mono _ _ _ _ _ _ _ _)
      | (with_reducible exact impl_ybig.mono _ _)
      | (with_reducible exact impl_yset.mono _ _ _ _)
      | (with_reducible exact slices_ContainsFunc_Buf_at_impl_PostChain_c1.mono _ _)
      | (with_reducible exact LeO.refl _)
      | (with_reducible exact LeO.none _)
      | (with_reducible refine LeO.ite ?_ ?_)
      | (with_reducible refine LeO.bind ?_ (fun _ => ?_))
      | exact ih0 _ _ _ _ _ _ _ _ _ _
      | exact ih1 _ _ _ _ _ _ _ _ _ _
      | exact ih2 _ _ _ _ _ _ _ _ _ _ _ _
      | exact impl_QueueFault.mono _ _ _ _ _ _ _ _
      | exact impl_ybig.mono _ _
      | exact impl_yset.mono _ _ _ _
      | exact slices_ContainsFunc_Buf_at_impl_PostChain_c1.mono _ _
      | exact LeO.none _
      | refine LeO.ite ?_ ?_
      | refine LeO.bind ?_ (fun _ => ?_)
theorem impl_PostChain.mono : ∀ a0 a1 a2 a3 a4 a5 a6 a7 a8 k, LeO (impl_PostChain.f k a0 a1 a2 a3 a4 a5 a6 a7 a8) (impl_PostChain.f (k + 1) a0 a1 a2 a3 a4 a5 a6 a7 a8) := by
  intro a0 a1 a2 a3 a4 a5 a6 a7 a8 k
  obtain ⟨ih0, ih1, ih2⟩ := impl_PostChain.mono_l k
  unfold impl_PostChain.f
  repeat' first
      | (with_reducible exact ih0 _ _ _ _ _ _ _ _ _ _)
      | (with_reducible exact ih1 _ _ _ _ _ _ _ _ _ _)
      | (with_reducible exact ih2 _ _ _ _ _ _ _ _ _ _ _ _)
      | (with_reducible exact impl_QueueFault.mono _ _ _ _ _ _ _ _)
      | (with_reducible exact impl_ybig.mono _ _)
      | (with_reducible exact impl_yset.mono _ _ _ _)
      | (with_reducible exact slices_ContainsFunc_Buf_at_impl_PostChain_c1.mono _ _)
      | (with_reducible exact LeO.refl _)
      | (with_reducible exact LeO.none _)
      | (with_reducible refine LeO.ite ?_ ?_)
      | (with_reducible refine LeO.bind ?_ (fun _ => ?_))
      | exact ih0 _ _ _ _ _ _ _ _ _ _
      | exact ih1 _ _ _ _ _ _ _ _ _ _
      | exact ih2 _ _ _ _ _ _ _ _ _ _ _ _
      | exact impl_QueueFault.mono _ _ _ _ _ _ _ _
      | exact impl_ybig.mono _ _
      | exact impl_yset.mono _ _ _ _
      | exact slices_ContainsFunc_Buf_at_impl_PostChain_c1.mono _ _
      | exact LeO.none _
      | refine LeO.ite ?_ ?_
      | refine LeO.bind ?_ (fun _ => ?_)
def impl_PostChain.T18 : Bool × List (List Nat × List Nat) := (true, [([], []), ([], []), ([1], [1]), ([2], [2]), ([], []), ([], []), ([5], [5]), ([4, 6], [4, 6]), ([7], [7]), ([3, 8], [3, 8]), ([], []), ([10], [10]), ([0, 9, 11], [0, 9, 11]), ([12, 12, 0, 1, 2, 3, 4, 5, 6, 7, 8, 9, 10, 11, 12], [0, 12])])
def impl_PostChain.B18 : List Nat := [0, 0, 2, 6, 0, 0, 32, 112, 240, 510, 0, 1024, 4095, 8191]
theorem impl_PostChain.tab18 : rtab .any (opsOf Try.f32 18) = impl_PostChain.T18 := by kernel_rfl
theorem impl_PostChain.bits18 : waitsOk impl_PostChain.T18.2 impl_PostChain.B18 = true := by kernel_rfl
set_option maxHeartbeats 8000000 in
set_option maxRecDepth 100000 in
theorem impl_PostChain.calls (k : Nat) (a0 : ByteArray) (a1_0 : Int) (a1_1 : Int) (a1_2 : Int) (a1_3 : Int) (a1_4 : Int) (a1_5 : Int) (a2 : Int) (A3 : Option Addr) (c3 : Nat) (l3 : List (S75)) (r1 : Int) (r2 : ByteArray) (r3 : Int) (r4 : Int) (r5 : Int) (r6 : Int) (r7 : Int) (r8 : Int) (r9 : Bool) (w : World) (hr3 : Kd.C k75 w A3 l3.length l3) (hc3 : l3.length ≤ c3) (h : impl_PostChain.f k a0 a1_0 a1_1 a1_2 a1_3 a1_4 a1_5 a2 l3 = some (r1, r2, r3, r4, r5, r6, r7, r8, r9)) :
    Calls Try.prog 32 #[.string a0, .agg #[.int .i64 a1_0, .int .i64 a1_1, .int .i64 a1_2, .int .i64 a1_3, .int .i64 a1_4, .int .i64 a1_5], .int .i64 a2, .slice A3 l3.length c3] w fun e w' => e = .returned (.agg #[.int .i64 r1, .string r2, .int .i64 r3, .int .i64 r4, .int .i64 r5, .int .i64 r6, .int .i64 r7, .int .i64 r8, .bool r9]) ∧ Below w.heap.size w w' := by
  have hu31 := Try.underlying31
  have hu40 := Try.underlying40
  have hu75 := Try.underlying75
  have HR3 := Aside0.mk hr3
  have HC3 := Aside0.mk hc3
  clear hr3 hc3
  have HB := Aside0.mk (Below.refl w.heap.size w)
  have H : ((impl_ybig.f k (([a0] : List ByteArray))).bind fun t185 => (if t185 = true then (impl_PostChain.j0 k a0 a2 l3 true a1_0 a1_1 a1_2 a1_3 a1_4 a1_5) else (impl_PostChain.j0 k a0 a2 l3 (decide ((l3.length : Int) > 1000)) a1_0 a1_1 a1_2 a1_3 a1_4 a1_5))) = some (r1, r2, r3, r4, r5, r6, r7, r8, r9) := h
  clear h
  have HC5 := Aside0.mk H
  clear H
  go_enter Try.func32, Try.ntmps32
  go_upto_region 1 with (first | ((with_reducible refine gate_dst (N := 5) rfl ?_); (try (refine gate_guard (by rfl) ?_; dsimp only)); refine box_event ?hg (N := 5) ?hd (cs := #[.int .i64 a1_0, .int .i64 a1_1, .int .i64 a1_2, .int .i64 a1_3, .int .i64 a1_4, .int .i64 a1_5]) (t := 31) ?hr ?_; (case hd => rfl); (case hg => rfl); (case hr => first | (go_simp; done) | (go_simp; rfl)); intro gb180 hg w6 hbox hb; have n0_ := Aside0.mk (below_step (by repeat (first | (with_reducible first | exact HB.out | apply below_alloc | apply pw_below_drewN | apply below_drew1) | exact HB.out)) hb); have n1_ := Aside0.mk (hbox); have n2_ := Aside0.mk ((by rw [hg]; exact (below_size (by repeat (first | (with_reducible first | exact HB.out | apply below_alloc | apply pw_below_drewN | apply below_drew1) | exact HB.out))) : w.heap.size ≤ gb180)); have n3_ := Aside0.mk ((by rw [hg]; exact (below_size (by repeat (first | (with_reducible first | exact HB.out | apply below_alloc | apply pw_below_drewN | apply below_drew1) | exact HB.out))) : w.heap.size ≤ gb180)); clear HB; have HB := n0_; have BK180 := n1_; have GW180 := n2_; have GE180 := n3_; clear n0_ n1_ n2_ n3_; clear hb hbox hg) | ((with_reducible refine gate_dst (N := 8) rfl ?_); (try (refine gate_guard (by rfl) ?_; dsimp only)); refine box_event ?hg (N := 8) ?hd (cs := #[.int .i64 0, .string (⟨#[]⟩ : ByteArray), .int .i64 0, .int .i64 0, .int .i64 0, .int .i64 0, .int .i64 0, .int .i64 0, .bool false]) (t := 40) ?hr ?_; (case hd => rfl); (case hg => rfl); (case hr => first | (go_simp; done) | (go_simp; rfl)); intro gb181 hg w7 hbox hb; have n0_ := Aside0.mk (blk_below (g := gb180) (o := .cells #[.int .i64 a1_0, .int .i64 a1_1, .int .i64 a1_2, .int .i64 a1_3, .int .i64 a1_4, .int .i64 a1_5] 31 (0, 0)) (by (with_reducible repeat (first | refine blk_drewN ?_ _ | refine blk_drew ?_ | refine blk_alloc ?_ _)); exact BK180.out) hb); have n1_ := Aside0.mk (below_step (by repeat (first | (with_reducible first | exact HB.out | apply below_alloc | apply pw_below_drewN | apply below_drew1 | refine below_set ?_ GE180.out) | exact HB.out)) hb); have n2_ := Aside0.mk (hbox); have n3_ := Aside0.mk ((by rw [hg]; exact (below_size (by repeat (first | (with_reducible first | exact HB.out | apply below_alloc | apply pw_below_drewN | apply below_drew1 | refine below_set ?_ GE180.out) | exact HB.out))) : w.heap.size ≤ gb181)); have n4_ := Aside0.mk ((by rw [hg]; exact (below_size (by repeat (first | (with_reducible first | exact HB.out | apply below_alloc | apply pw_below_drewN | apply below_drew1 | refine below_set ?_ GE180.out) | exact HB.out))) : w.heap.size ≤ gb181)); have n5_ := Aside0.mk ((by rw [hg]; exact Nat.ne_of_lt (blk_lt (g := gb180) (o := .cells #[.int .i64 a1_0, .int .i64 a1_1, .int .i64 a1_2, .int .i64 a1_3, .int .i64 a1_4, .int .i64 a1_5] 31 (0, 0)) (by (with_reducible repeat (first | refine blk_drewN ?_ _ | refine blk_drew ?_ | refine blk_alloc ?_ _)); exact BK180.out)) : gb180 ≠ gb181)); have n6_ := Aside0.mk ((by rw [hg]; exact Nat.ne_of_gt (blk_lt (g := gb180) (o := .cells #[.int .i64 a1_0, .int .i64 a1_1, .int .i64 a1_2, .int .i64 a1_3, .int .i64 a1_4, .int .i64 a1_5] 31 (0, 0)) (by (with_reducible repeat (first | refine blk_drewN ?_ _ | refine blk_drew ?_ | refine blk_alloc ?_ _)); exact BK180.out)) : gb181 ≠ gb180)); clear BK180; clear HB; have BK180 := n0_; have HB := n1_; have BK181 := n2_; have GW181 := n3_; have GE181 := n4_; have NB180_181 := n5_; have NB181_180 := n6_; clear n0_ n1_ n2_ n3_ n4_ n5_ n6_; clear hb hbox hg))
  (try simp only [Act.put, List.setIfInBounds_toArray, List.set_cons_zero, List.set_cons_succ])
  go_cut [22] (fun v22 wc => ∃ (kq : Nat) (x22_4 : Bool), v22 = .bool x22_4 ∧ Aside0 (impl_PostChain.j0 kq a0 a2 l3 x22_4 a1_0 a1_1 a1_2 a1_3 a1_4 a1_5 = some (r1, r2, r3, r4, r5, r6, r7, r8, r9)) ∧ Aside0 (kq ≤ k) ∧ Aside0 (wc.heap[gb180]? = some (.cells #[.int .i64 a1_0, .int .i64 a1_1, .int .i64 a1_2, .int .i64 a1_3, .int .i64 a1_4, .int .i64 a1_5] 31 (0, 0))) ∧ Aside0 (wc.heap[gb181]? = some (.cells #[.int .i64 0, .string (⟨#[]⟩ : ByteArray), .int .i64 0, .int .i64 0, .int .i64 0, .int .i64 0, .int .i64 0, .int .i64 0, .bool false] 40 (0, 0))) ∧ Aside0 (Below w.heap.size w wc))
  case first =>
    have H := HC5.out
    clear HC5
    obtain ⟨y182, hy182⟩ : ∃ y_ : List ByteArray, y_ = (([a0] : List ByteArray)) := ⟨_, rfl⟩
    replace H : ((impl_ybig.f k y182).bind fun t185 => (if t185 = true then (impl_PostChain.j0 k a0 a2 l3 true a1_0 a1_1 a1_2 a1_3 a1_4 a1_5) else (impl_PostChain.j0 k a0 a2 l3 (decide ((l3.length : Int) > 1000)) a1_0 a1_1 a1_2 a1_3 a1_4 a1_5))) = some (r1, r2, r3, r4, r5, r6, r7, r8, r9) := by first | (rw [hy182]; with_reducible exact H) | (have H2_ := (Option.bind_some _ _).symm.trans H; rw [hy182]; with_reducible exact H2_) | (have H2_ := (Option.bind_some _ _).symm.trans H; with_reducible exact H2_) | with_reducible exact H | (rw [hy182]; exact H) | exact H
    have Ny182 := Aside0.mk hy182
    clear hy182
    replace H := Option.bind_eq_some_iff.mp H
    obtain ⟨t185, A80, H⟩ := H
    replace H : (if t185 = true then (impl_PostChain.j0 k a0 a2 l3 true a1_0 a1_1 a1_2 a1_3 a1_4 a1_5) else (impl_PostChain.j0 k a0 a2 l3 (decide ((l3.length : Int) > 1000)) a1_0 a1_1 a1_2 a1_3 a1_4 a1_5)) = some (r1, r2, r3, r4, r5, r6, r7, r8, r9) := H
    have A8 := Aside0.mk A80
    clear A80
    by_cases c9 : t185 = true
    · subst c9
      have H1 : (impl_PostChain.j0 k a0 a2 l3 true a1_0 a1_1 a1_2 a1_3 a1_4 a1_5) = some (r1, r2, r3, r4, r5, r6, r7, r8, r9) := by rw [if_pos rfl] at H; exact H
      clear H
      have H := H1
      clear H1
      have H' := Aside0.mk H
      clear H
      go_wp2_with (first | ((with_reducible refine gate_dst (N := 16) rfl ?_); (try (refine gate_guard (by rfl) ?_; dsimp only)); refine Kd.R_lit Kd.string _ 9 ?hg (N := 16) ?hd (xs := ([a0] : List ByteArray)) (inner := [.string a0]) (ok := fun _ => True) (okp := fun _ => True) ?hr ?hp (fun _ hk => hk) trivial (Below.refl _ _) (Nat.le_refl _) (by simp) ?_; (case hd => rfl); (case hg => rfl); (case hr => first | (go_simp; done) | (go_simp; rfl)); (case hp => exact (Reps.one (show Kd.M Kd.string _ _ _ a0 [.string a0] from rfl) (Reps.none _ _))); intro v183 w10 ho11 hb hg_ hnew_; clear hg_ hnew_; (first | rw [← Ny182.out] at ho11 | (simp only [Int.reduceToNat] at ho11; rw [← Ny182.out] at ho11)); have n0_ := Aside0.mk (Kd.R_lower ho11 (below_size (by repeat (first | (with_reducible first | exact HB.out | apply below_alloc | apply pw_below_drewN | apply below_drew1 | refine below_set ?_ GE180.out | refine below_set ?_ GE181.out) | exact HB.out)))); have n1_ := Aside0.mk (blk_below (g := gb180) (o := .cells #[.int .i64 a1_0, .int .i64 a1_1, .int .i64 a1_2, .int .i64 a1_3, .int .i64 a1_4, .int .i64 a1_5] 31 (0, 0)) (by (with_reducible repeat (first | refine blk_drewN ?_ _ | refine blk_drew ?_ | refine blk_alloc ?_ _)); exact BK180.out) hb); have n2_ := Aside0.mk (blk_below (g := gb181) (o := .cells #[.int .i64 0, .string (⟨#[]⟩ : ByteArray), .int .i64 0, .int .i64 0, .int .i64 0, .int .i64 0, .int .i64 0, .int .i64 0, .bool false] 40 (0, 0)) (by (with_reducible repeat (first | refine blk_drewN ?_ _ | refine blk_drew ?_ | refine blk_alloc ?_ _)); exact BK181.out) hb); have n3_ := Aside0.mk (below_step (by repeat (first | (with_reducible first | exact HB.out | apply below_alloc | apply pw_below_drewN | apply below_drew1 | refine below_set ?_ GE180.out | refine below_set ?_ GE181.out) | exact HB.out)) hb); clear BK180; clear BK181; clear HB; have HO184 := n0_; have BK180 := n1_; have BK181 := n2_; have HB := n3_; clear n0_ n1_ n2_ n3_; clear hb ho11; obtain ⟨Ao12, co12, eo12⟩ := Kd.R_slice HO184.out; subst eo12) | ((with_reducible refine gate_callee (f := 70) rfl ?_); refine goesL_ (some 17) rfl rfl Try.func70 (by kernel_rfl) rfl #[.slice Ao12 y182.length co12] rfl (by (try simp only [List.map_toArray, List.map_cons, List.map_nil]); first | done | rfl | (simp only [List.length_drop, List.length_take]; rfl)) ?_; (with_reducible refine (impl_ybig.calls k _ _ y182 true _ ?side1 ?side2 A8.out).mono ?_); (case side1 => repeat (first | exact (Kd.R_reads' HO184.out).2.2 | (with_reducible refine Kd.C_alloc ?_ _) | (with_reducible refine Kd.C_drewN ?_ _) | (with_reducible refine Kd.C_drew ?_))); (case side2 => exact (Kd.R_reads' HO184.out).2.1); rintro e w' ⟨rfl, ⟨nd, rfl⟩⟩; refine ⟨_, rfl, ?_⟩))
      go_meet
      case rel => exact ⟨_, (true), (by first | rfl | (simp; done) | (simp [*]; done)), H', ⟨by first | omega | exact Nat.le_refl _⟩, ⟨by (with_reducible repeat (first | refine blk_drewN ?_ _ | refine blk_drew ?_ | refine blk_alloc ?_ _)); exact BK180.out⟩, ⟨by (with_reducible repeat (first | refine blk_drewN ?_ _ | refine blk_drew ?_ | refine blk_alloc ?_ _)); exact BK181.out⟩, ⟨by repeat (first | (with_reducible first | exact HB.out | apply below_alloc | apply pw_below_drewN | apply below_drew1 | refine below_set ?_ GE180.out | refine below_set ?_ GE181.out) | exact HB.out)⟩⟩
    · replace c9 := Bool.eq_false_iff.mpr c9
      subst c9
      have H1 : (impl_PostChain.j0 k a0 a2 l3 (decide ((l3.length : Int) > 1000)) a1_0 a1_1 a1_2 a1_3 a1_4 a1_5) = some (r1, r2, r3, r4, r5, r6, r7, r8, r9) := by rw [if_neg (show ¬ (false = true) by decide)] at H; exact H
      clear H
      have H := H1
      clear H1
      have H' := Aside0.mk H
      clear H
      go_wp2_with (first | ((with_reducible refine gate_dst (N := 16) rfl ?_); (try (refine gate_guard (by rfl) ?_; dsimp only)); refine Kd.R_lit Kd.string _ 9 ?hg (N := 16) ?hd (xs := ([a0] : List ByteArray)) (inner := [.string a0]) (ok := fun _ => True) (okp := fun _ => True) ?hr ?hp (fun _ hk => hk) trivial (Below.refl _ _) (Nat.le_refl _) (by simp) ?_; (case hd => rfl); (case hg => rfl); (case hr => first | (go_simp; done) | (go_simp; rfl)); (case hp => exact (Reps.one (show Kd.M Kd.string _ _ _ a0 [.string a0] from rfl) (Reps.none _ _))); intro v183 w13 ho14 hb hg_ hnew_; clear hg_ hnew_; (first | rw [← Ny182.out] at ho14 | (simp only [Int.reduceToNat] at ho14; rw [← Ny182.out] at ho14)); have n0_ := Aside0.mk (Kd.R_lower ho14 (below_size (by repeat (first | (with_reducible first | exact HB.out | apply below_alloc | apply pw_below_drewN | apply below_drew1 | refine below_set ?_ GE180.out | refine below_set ?_ GE181.out) | exact HB.out)))); have n1_ := Aside0.mk (blk_below (g := gb180) (o := .cells #[.int .i64 a1_0, .int .i64 a1_1, .int .i64 a1_2, .int .i64 a1_3, .int .i64 a1_4, .int .i64 a1_5] 31 (0, 0)) (by (with_reducible repeat (first | refine blk_drewN ?_ _ | refine blk_drew ?_ | refine blk_alloc ?_ _)); exact BK180.out) hb); have n2_ := Aside0.mk (blk_below (g := gb181) (o := .cells #[.int .i64 0, .string (⟨#[]⟩ : ByteArray), .int .i64 0, .int .i64 0, .int .i64 0, .int .i64 0, .int .i64 0, .int .i64 0, .bool false] 40 (0, 0)) (by (with_reducible repeat (first | refine blk_drewN ?_ _ | refine blk_drew ?_ | refine blk_alloc ?_ _)); exact BK181.out) hb); have n3_ := Aside0.mk (below_step (by repeat (first | (with_reducible first | exact HB.out | apply below_alloc | apply pw_below_drewN | apply below_drew1 | refine below_set ?_ GE180.out | refine below_set ?_ GE181.out) | exact HB.out)) hb); clear BK180; clear BK181; clear HB; have HO184 := n0_; have BK180 := n1_; have BK181 := n2_; have HB := n3_; clear n0_ n1_ n2_ n3_; clear hb ho14; obtain ⟨Ao15, co15, eo15⟩ := Kd.R_slice HO184.out; subst eo15) | ((with_reducible refine gate_callee (f := 70) rfl ?_); refine goesL_ (some 17) rfl rfl Try.func70 (by kernel_rfl) rfl #[.slice Ao15 y182.length co15] rfl (by (try simp only [List.map_toArray, List.map_cons, List.map_nil]); first | done | rfl | (simp only [List.length_drop, List.length_take]; rfl)) ?_; (with_reducible refine (impl_ybig.calls k _ _ y182 false _ ?side1 ?side2 A8.out).mono ?_); (case side1 => repeat (first | exact (Kd.R_reads' HO184.out).2.2 | (with_reducible refine Kd.C_alloc ?_ _) | (with_reducible refine Kd.C_drewN ?_ _) | (with_reducible refine Kd.C_drew ?_))); (case side2 => exact (Kd.R_reads' HO184.out).2.1); rintro e w' ⟨rfl, ⟨nd, rfl⟩⟩; refine ⟨_, rfl, ?_⟩))
      go_meet
      case rel => exact ⟨_, (decide ((l3.length : Int) > 1000)), (by first | rfl | (simp; done) | (simp [*]; done)), H', ⟨by first | omega | exact Nat.le_refl _⟩, ⟨by (with_reducible repeat (first | refine blk_drewN ?_ _ | refine blk_drew ?_ | refine blk_alloc ?_ _)); exact BK180.out⟩, ⟨by (with_reducible repeat (first | refine blk_drewN ?_ _ | refine blk_drew ?_ | refine blk_alloc ?_ _)); exact BK181.out⟩, ⟨by repeat (first | (with_reducible first | exact HB.out | apply below_alloc | apply pw_below_drewN | apply below_drew1 | refine below_set ?_ GE180.out | refine below_set ?_ GE181.out) | exact HB.out)⟩⟩
  case rest =>
    clear HC5
    try clear p2
    try clear c3
    try clear c7
    try clear c9
    obtain ⟨kq, x22_4, rfl, HA, HJ4, BK180, BK181, HB⟩ := hcut
    cases kq with
    | zero => exact absurd HA.out (by simp [impl_PostChain.j0])
    | succ kj4 =>
      have H := HA.out
      clear HA
      simp only [impl_PostChain.j0] at H
      by_cases c16 : x22_4 = true
      · subst c16
        have H1 : (some (2, (⟨#[]⟩ : ByteArray), 0, 0, 0, 0, 0, 0, false)) = some (r1, r2, r3, r4, r5, r6, r7, r8, r9) := by rw [if_pos rfl] at H; exact H
        clear H
        have H := H1
        clear H1
        simp only [Option.some.injEq, Prod.mk.injEq] at H
        obtain ⟨rfl, rfl, rfl, rfl, rfl, rfl, rfl, rfl, rfl⟩ := H
        have hnb17 := NB181_180.out
        have hnc17 := NB180_181.out
        have hcz18_0 : wc.cell? ⟨gb181, 0, none⟩ = some (.int .i64 0) := (blk_cell BK181.out 0).trans rfl
        have hcz18_1 : wc.cell? ⟨gb181, 1, none⟩ = some (.string (⟨#[]⟩ : ByteArray)) := (blk_cell BK181.out 1).trans rfl
        have hcz18_2 : wc.cell? ⟨gb181, 2, none⟩ = some (.int .i64 0) := (blk_cell BK181.out 2).trans rfl
        have hcz18_3 : wc.cell? ⟨gb181, 3, none⟩ = some (.int .i64 0) := (blk_cell BK181.out 3).trans rfl
        have hcz18_4 : wc.cell? ⟨gb181, 4, none⟩ = some (.int .i64 0) := (blk_cell BK181.out 4).trans rfl
        have hcz18_5 : wc.cell? ⟨gb181, 5, none⟩ = some (.int .i64 0) := (blk_cell BK181.out 5).trans rfl
        have hcz18_6 : wc.cell? ⟨gb181, 6, none⟩ = some (.int .i64 0) := (blk_cell BK181.out 6).trans rfl
        have hcz18_7 : wc.cell? ⟨gb181, 7, none⟩ = some (.int .i64 0) := (blk_cell BK181.out 7).trans rfl
        have hcz18_8 : wc.cell? ⟨gb181, 8, none⟩ = some (.bool false) := (blk_cell BK181.out 8).trans rfl
        have hfz18_0 := blk_frozen BK181.out 0
        have hfz18_1 := blk_frozen BK181.out 1
        have hfz18_2 := blk_frozen BK181.out 2
        have hfz18_3 := blk_frozen BK181.out 3
        have hfz18_4 := blk_frozen BK181.out 4
        have hfz18_5 := blk_frozen BK181.out 5
        have hfz18_6 := blk_frozen BK181.out 6
        have hfz18_7 := blk_frozen BK181.out 7
        have hfz18_8 := blk_frozen BK181.out 8
        go_wp2
        refine bodyPost_ret (results_cell_row rfl _ _ gb181 40 #[.int .i64 2, .string (⟨#[]⟩ : ByteArray), .int .i64 0, .int .i64 0, .int .i64 0, .int .i64 0, .int .i64 0, .int .i64 0, .bool false] (0, 0) _ rfl (by (with_reducible repeat (first | refine blk_drewN ?_ _ | refine blk_drew ?_ | refine blk_alloc ?_ _)); refine blk_put (cs := #[.int .i64 2, .string (⟨#[]⟩ : ByteArray), .int .i64 0, .int .i64 0, .int .i64 0, .int .i64 0, .int .i64 0, .int .i64 0, .bool false]) ?_ 8 _ rfl; (with_reducible repeat (first | refine blk_drewN ?_ _ | refine blk_drew ?_ | refine blk_alloc ?_ _)); refine blk_put (cs := #[.int .i64 2, .string (⟨#[]⟩ : ByteArray), .int .i64 0, .int .i64 0, .int .i64 0, .int .i64 0, .int .i64 0, .int .i64 0, .bool false]) ?_ 7 _ rfl; (with_reducible repeat (first | refine blk_drewN ?_ _ | refine blk_drew ?_ | refine blk_alloc ?_ _)); refine blk_put (cs := #[.int .i64 2, .string (⟨#[]⟩ : ByteArray), .int .i64 0, .int .i64 0, .int .i64 0, .int .i64 0, .int .i64 0, .int .i64 0, .bool false]) ?_ 6 _ rfl; (with_reducible repeat (first | refine blk_drewN ?_ _ | refine blk_drew ?_ | refine blk_alloc ?_ _)); refine blk_put (cs := #[.int .i64 2, .string (⟨#[]⟩ : ByteArray), .int .i64 0, .int .i64 0, .int .i64 0, .int .i64 0, .int .i64 0, .int .i64 0, .bool false]) ?_ 5 _ rfl; (with_reducible repeat (first | refine blk_drewN ?_ _ | refine blk_drew ?_ | refine blk_alloc ?_ _)); refine blk_put (cs := #[.int .i64 2, .string (⟨#[]⟩ : ByteArray), .int .i64 0, .int .i64 0, .int .i64 0, .int .i64 0, .int .i64 0, .int .i64 0, .bool false]) ?_ 4 _ rfl; (with_reducible repeat (first | refine blk_drewN ?_ _ | refine blk_drew ?_ | refine blk_alloc ?_ _)); refine blk_put (cs := #[.int .i64 2, .string (⟨#[]⟩ : ByteArray), .int .i64 0, .int .i64 0, .int .i64 0, .int .i64 0, .int .i64 0, .int .i64 0, .bool false]) ?_ 3 _ rfl; (with_reducible repeat (first | refine blk_drewN ?_ _ | refine blk_drew ?_ | refine blk_alloc ?_ _)); refine blk_put (cs := #[.int .i64 2, .string (⟨#[]⟩ : ByteArray), .int .i64 0, .int .i64 0, .int .i64 0, .int .i64 0, .int .i64 0, .int .i64 0, .bool false]) ?_ 2 _ rfl; (with_reducible repeat (first | refine blk_drewN ?_ _ | refine blk_drew ?_ | refine blk_alloc ?_ _)); refine blk_put (cs := #[.int .i64 2, .string (⟨#[]⟩ : ByteArray), .int .i64 0, .int .i64 0, .int .i64 0, .int .i64 0, .int .i64 0, .int .i64 0, .bool false]) ?_ 1 _ rfl; (with_reducible repeat (first | refine blk_drewN ?_ _ | refine blk_drew ?_ | refine blk_alloc ?_ _)); refine blk_put (cs := #[.int .i64 0, .string (⟨#[]⟩ : ByteArray), .int .i64 0, .int .i64 0, .int .i64 0, .int .i64 0, .int .i64 0, .int .i64 0, .bool false]) ?_ 0 _ rfl; (with_reducible repeat (first | refine blk_drewN ?_ _ | refine blk_drew ?_ | refine blk_alloc ?_ _)); exact BK181.out) Try.underlying40 rfl (by kernel_rfl)) rfl ?_
        exact ⟨by first | rfl | (simp [errW_none, errW_some] <;> rfl) | (simp [*, errW_none, errW_some] <;> rfl), by repeat (first | (with_reducible first | exact HB.out | apply below_alloc | apply pw_below_drewN | apply below_drew1 | refine below_set ?_ GE180.out | refine below_set ?_ GE181.out) | exact HB.out)⟩
      · replace c16 := Bool.eq_false_iff.mpr c16
        subst c16
        have H1 : ((impl_QueueFault.f kj4 a0 a1_0 a1_1 a1_2 a1_3 a1_4 a1_5).bind fun t186 => (if t186 = 0 then ((impl_yin.f a2 0 (wrap64 (a1_0 - 1))).bind fun t187 => (if t187 = true then (if (l3.length : Int) < 1 then (impl_PostChain.j1 kj4 a0 a2 l3 true a1_0 a1_1 a1_2 a1_3 a1_4 a1_5) else (if (l3.length : Int) > a1_0 then (impl_PostChain.j1 kj4 a0 a2 l3 true a1_0 a1_1 a1_2 a1_3 a1_4 a1_5) else ((slices_ContainsFunc_Buf_at_impl_PostChain_c1.f kj4 l3).bind fun t188 => (impl_PostChain.j1 kj4 a0 a2 l3 t188 a1_0 a1_1 a1_2 a1_3 a1_4 a1_5)))) else (impl_PostChain.j1 kj4 a0 a2 l3 true a1_0 a1_1 a1_2 a1_3 a1_4 a1_5))) else (impl_PostChain.j1 kj4 a0 a2 l3 true a1_0 a1_1 a1_2 a1_3 a1_4 a1_5))) = some (r1, r2, r3, r4, r5, r6, r7, r8, r9) := by rw [if_neg (show ¬ (false = true) by decide)] at H; exact H
        clear H
        have H := H1
        clear H1
        have HC19 := Aside0.mk H
        clear H
        go_upto_region 3 with (fail)
        go_cut [51] (fun v51 wc => ∃ (kq : Nat) (x51_18 : Bool), v51 = .bool x51_18 ∧ Aside0 (impl_PostChain.j1 kq a0 a2 l3 x51_18 a1_0 a1_1 a1_2 a1_3 a1_4 a1_5 = some (r1, r2, r3, r4, r5, r6, r7, r8, r9)) ∧ Aside0 (kq ≤ kj4) ∧ Aside0 (wc.heap[gb180]? = some (.cells #[.int .i64 a1_0, .int .i64 a1_1, .int .i64 a1_2, .int .i64 a1_3, .int .i64 a1_4, .int .i64 a1_5] 31 (0, 0))) ∧ Aside0 (wc.heap[gb181]? = some (.cells #[.int .i64 0, .string (⟨#[]⟩ : ByteArray), .int .i64 0, .int .i64 0, .int .i64 0, .int .i64 0, .int .i64 0, .int .i64 0, .bool false] 40 (0, 0))) ∧ Aside0 (Below w.heap.size w wc))
        case first =>
          have H := HC19.out
          clear HC19
          replace H := Option.bind_eq_some_iff.mp H
          obtain ⟨t186, A200, H⟩ := H
          replace H : (if t186 = 0 then ((impl_yin.f a2 0 (wrap64 (a1_0 - 1))).bind fun t187 => (if t187 = true then (if (l3.length : Int) < 1 then (impl_PostChain.j1 kj4 a0 a2 l3 true a1_0 a1_1 a1_2 a1_3 a1_4 a1_5) else (if (l3.length : Int) > a1_0 then (impl_PostChain.j1 kj4 a0 a2 l3 true a1_0 a1_1 a1_2 a1_3 a1_4 a1_5) else ((slices_ContainsFunc_Buf_at_impl_PostChain_c1.f kj4 l3).bind fun t188 => (impl_PostChain.j1 kj4 a0 a2 l3 t188 a1_0 a1_1 a1_2 a1_3 a1_4 a1_5)))) else (impl_PostChain.j1 kj4 a0 a2 l3 true a1_0 a1_1 a1_2 a1_3 a1_4 a1_5))) else (impl_PostChain.j1 kj4 a0 a2 l3 true a1_0 a1_1 a1_2 a1_3 a1_4 a1_5)) = some (r1, r2, r3, r4, r5, r6, r7, r8, r9) := H
          have A20 := Aside0.mk A200
          clear A200
          by_cases c21 : t186 = 0
          · rw [if_pos c21] at H
            have c21b0 : (t186 == 0) = true := beq_iff_eq.mpr c21
            have c21b1 : (t186 != 0) = false := bne_eq_false_iff_eq.mpr c21
            clear c21
            (first | rw [c21b0] | (simp only [i64_w, i32_w]; rw [c21b0]) | skip)
            replace H := Option.bind_eq_some_iff.mp H
            obtain ⟨t187, A220, H⟩ := H
            replace H : (if t187 = true then (if (l3.length : Int) < 1 then (impl_PostChain.j1 kj4 a0 a2 l3 true a1_0 a1_1 a1_2 a1_3 a1_4 a1_5) else (if (l3.length : Int) > a1_0 then (impl_PostChain.j1 kj4 a0 a2 l3 true a1_0 a1_1 a1_2 a1_3 a1_4 a1_5) else ((slices_ContainsFunc_Buf_at_impl_PostChain_c1.f kj4 l3).bind fun t188 => (impl_PostChain.j1 kj4 a0 a2 l3 t188 a1_0 a1_1 a1_2 a1_3 a1_4 a1_5)))) else (impl_PostChain.j1 kj4 a0 a2 l3 true a1_0 a1_1 a1_2 a1_3 a1_4 a1_5)) = some (r1, r2, r3, r4, r5, r6, r7, r8, r9) := H
            have A22 := Aside0.mk A220
            clear A220
            by_cases c23 : t187 = true
            · subst c23
              have H1 : (if (l3.length : Int) < 1 then (impl_PostChain.j1 kj4 a0 a2 l3 true a1_0 a1_1 a1_2 a1_3 a1_4 a1_5) else (if (l3.length : Int) > a1_0 then (impl_PostChain.j1 kj4 a0 a2 l3 true a1_0 a1_1 a1_2 a1_3 a1_4 a1_5) else ((slices_ContainsFunc_Buf_at_impl_PostChain_c1.f kj4 l3).bind fun t188 => (impl_PostChain.j1 kj4 a0 a2 l3 t188 a1_0 a1_1 a1_2 a1_3 a1_4 a1_5)))) = some (r1, r2, r3, r4, r5, r6, r7, r8, r9) := by rw [if_pos rfl] at H; exact H
              clear H
              have H := H1
              clear H1
              by_cases c24 : (l3.length : Int) < 1
              · rw [if_pos c24] at H
                have c24b0 : decide ((l3.length : Int) < 1) = true := decide_eq_true c24
                have c24b1 : decide (l3.length < 1) = true := decide_eq_true (by omega)
                clear c24
                have H' := Aside0.mk H
                clear H
                have hnb25 := NB180_181.out
                have hnc25 := NB181_180.out
                have hcz26_0 : wc.cell? ⟨gb180, 0, none⟩ = some (.int .i64 a1_0) := (blk_cell BK180.out 0).trans rfl
                have hcz26_1 : wc.cell? ⟨gb180, 1, none⟩ = some (.int .i64 a1_1) := (blk_cell BK180.out 1).trans rfl
                have hcz26_2 : wc.cell? ⟨gb180, 2, none⟩ = some (.int .i64 a1_2) := (blk_cell BK180.out 2).trans rfl
                have hcz26_3 : wc.cell? ⟨gb180, 3, none⟩ = some (.int .i64 a1_3) := (blk_cell BK180.out 3).trans rfl
                have hcz26_4 : wc.cell? ⟨gb180, 4, none⟩ = some (.int .i64 a1_4) := (blk_cell BK180.out 4).trans rfl
                have hcz26_5 : wc.cell? ⟨gb180, 5, none⟩ = some (.int .i64 a1_5) := (blk_cell BK180.out 5).trans rfl
                have hfz26_0 := blk_frozen BK180.out 0
                have hfz26_1 := blk_frozen BK180.out 1
                have hfz26_2 := blk_frozen BK180.out 2
                have hfz26_3 := blk_frozen BK180.out 3
                have hfz26_4 := blk_frozen BK180.out 4
                have hfz26_5 := blk_frozen BK180.out 5
                go_wp2_with (first | ((with_reducible refine gate_callee (f := 17) rfl ?_); refine goesL_ (some 26) rfl rfl Try.func17 (by kernel_rfl) rfl #[.string a0, .agg #[.int .i64 a1_0, .int .i64 a1_1, .int .i64 a1_2, .int .i64 a1_3, .int .i64 a1_4, .int .i64 a1_5]] rfl (by (try simp only [List.map_toArray, List.map_cons, List.map_nil]); first | done | rfl | (simp only [List.length_drop, List.length_take]; rfl)) ?_; (with_reducible refine (impl_QueueFault.calls kj4 a0 a1_0 a1_1 a1_2 a1_3 a1_4 a1_5 t186 _ A20.out).mono ?_); rintro e w27 ⟨rfl, hb⟩; refine ⟨_, rfl, ?_⟩; have n0_ := Aside0.mk (blk_below (g := gb180) (o := .cells #[.int .i64 a1_0, .int .i64 a1_1, .int .i64 a1_2, .int .i64 a1_3, .int .i64 a1_4, .int .i64 a1_5] 31 (0, 0)) (by (with_reducible repeat (first | refine blk_drewN ?_ _ | refine blk_drew ?_ | refine blk_alloc ?_ _)); exact BK180.out) hb); have n1_ := Aside0.mk (blk_below (g := gb181) (o := .cells #[.int .i64 0, .string (⟨#[]⟩ : ByteArray), .int .i64 0, .int .i64 0, .int .i64 0, .int .i64 0, .int .i64 0, .int .i64 0, .bool false] 40 (0, 0)) (by (with_reducible repeat (first | refine blk_drewN ?_ _ | refine blk_drew ?_ | refine blk_alloc ?_ _)); exact BK181.out) hb); have n2_ := Aside0.mk (below_step (by repeat (first | (with_reducible first | exact HB.out | apply below_alloc | apply pw_below_drewN | apply below_drew1 | refine below_set ?_ GE180.out | refine below_set ?_ GE181.out) | exact HB.out)) hb); clear BK180; clear BK181; clear HB; have BK180 := n0_; have BK181 := n1_; have HB := n2_; clear n0_ n1_ n2_; (try clear hb); (try clear hb2); (try clear hk); (try clear hi); have hcz28_0 : w27.cell? ⟨gb180, 0, none⟩ = some (.int .i64 a1_0) := (blk_cell BK180.out 0).trans rfl; have hcz28_1 : w27.cell? ⟨gb180, 1, none⟩ = some (.int .i64 a1_1) := (blk_cell BK180.out 1).trans rfl; have hcz28_2 : w27.cell? ⟨gb180, 2, none⟩ = some (.int .i64 a1_2) := (blk_cell BK180.out 2).trans rfl; have hcz28_3 : w27.cell? ⟨gb180, 3, none⟩ = some (.int .i64 a1_3) := (blk_cell BK180.out 3).trans rfl; have hcz28_4 : w27.cell? ⟨gb180, 4, none⟩ = some (.int .i64 a1_4) := (blk_cell BK180.out 4).trans rfl; have hcz28_5 : w27.cell? ⟨gb180, 5, none⟩ = some (.int .i64 a1_5) := (blk_cell BK180.out 5).trans rfl; have hfz28_0 := blk_frozen BK180.out 0; have hfz28_1 := blk_frozen BK180.out 1; have hfz28_2 := blk_frozen BK180.out 2; have hfz28_3 := blk_frozen BK180.out 3; have hfz28_4 := blk_frozen BK180.out 4; have hfz28_5 := blk_frozen BK180.out 5) | (go_at_call 50; (with_reducible refine (impl_yin.calls a2 0 (wrap64 (a1_0 - 1)) true _ A22.out).mono ?_); rintro e w' ⟨rfl, ⟨nd, rfl⟩⟩))
                go_meet
                case rel => exact ⟨_, (true), (by first | rfl | (simp; done) | (simp [*]; done)), H', ⟨by have := HJ4.out; first | omega | exact Nat.le_refl _⟩, ⟨by (with_reducible repeat (first | refine blk_drewN ?_ _ | refine blk_drew ?_ | refine blk_alloc ?_ _)); exact BK180.out⟩, ⟨by (with_reducible repeat (first | refine blk_drewN ?_ _ | refine blk_drew ?_ | refine blk_alloc ?_ _)); exact BK181.out⟩, ⟨by repeat (first | (with_reducible first | exact HB.out | apply below_alloc | apply pw_below_drewN | apply below_drew1 | refine below_set ?_ GE180.out | refine below_set ?_ GE181.out) | exact HB.out)⟩⟩
              · rw [if_neg c24] at H
                have c24b0 : decide ((l3.length : Int) < 1) = false := decide_eq_false c24
                have c24b1 : decide (l3.length < 1) = false := decide_eq_false (by omega)
                clear c24
                by_cases c29 : (l3.length : Int) > a1_0
                · rw [if_pos c29] at H
                  have c29b0 : decide (a1_0 < (l3.length : Int)) = true := decide_eq_true c29
                  clear c29
                  have H' := Aside0.mk H
                  clear H
                  have hnb30 := NB180_181.out
                  have hnc30 := NB181_180.out
                  have hcz31_0 : wc.cell? ⟨gb180, 0, none⟩ = some (.int .i64 a1_0) := (blk_cell BK180.out 0).trans rfl
                  have hcz31_1 : wc.cell? ⟨gb180, 1, none⟩ = some (.int .i64 a1_1) := (blk_cell BK180.out 1).trans rfl
                  have hcz31_2 : wc.cell? ⟨gb180, 2, none⟩ = some (.int .i64 a1_2) := (blk_cell BK180.out 2).trans rfl
                  have hcz31_3 : wc.cell? ⟨gb180, 3, none⟩ = some (.int .i64 a1_3) := (blk_cell BK180.out 3).trans rfl
                  have hcz31_4 : wc.cell? ⟨gb180, 4, none⟩ = some (.int .i64 a1_4) := (blk_cell BK180.out 4).trans rfl
                  have hcz31_5 : wc.cell? ⟨gb180, 5, none⟩ = some (.int .i64 a1_5) := (blk_cell BK180.out 5).trans rfl
                  have hfz31_0 := blk_frozen BK180.out 0
                  have hfz31_1 := blk_frozen BK180.out 1
                  have hfz31_2 := blk_frozen BK180.out 2
                  have hfz31_3 := blk_frozen BK180.out 3
                  have hfz31_4 := blk_frozen BK180.out 4
                  have hfz31_5 := blk_frozen BK180.out 5
                  go_wp2_with (first | ((with_reducible refine gate_callee (f := 17) rfl ?_); refine goesL_ (some 26) rfl rfl Try.func17 (by kernel_rfl) rfl #[.string a0, .agg #[.int .i64 a1_0, .int .i64 a1_1, .int .i64 a1_2, .int .i64 a1_3, .int .i64 a1_4, .int .i64 a1_5]] rfl (by (try simp only [List.map_toArray, List.map_cons, List.map_nil]); first | done | rfl | (simp only [List.length_drop, List.length_take]; rfl)) ?_; (with_reducible refine (impl_QueueFault.calls kj4 a0 a1_0 a1_1 a1_2 a1_3 a1_4 a1_5 t186 _ A20.out).mono ?_); rintro e w32 ⟨rfl, hb⟩; refine ⟨_, rfl, ?_⟩; have n0_ := Aside0.mk (blk_below (g := gb180) (o := .cells #[.int .i64 a1_0, .int .i64 a1_1, .int .i64 a1_2, .int .i64 a1_3, .int .i64 a1_4, .int .i64 a1_5] 31 (0, 0)) (by (with_reducible repeat (first | refine blk_drewN ?_ _ | refine blk_drew ?_ | refine blk_alloc ?_ _)); exact BK180.out) hb); have n1_ := Aside0.mk (blk_below (g := gb181) (o := .cells #[.int .i64 0, .string (⟨#[]⟩ : ByteArray), .int .i64 0, .int .i64 0, .int .i64 0, .int .i64 0, .int .i64 0, .int .i64 0, .bool false] 40 (0, 0)) (by (with_reducible repeat (first | refine blk_drewN ?_ _ | refine blk_drew ?_ | refine blk_alloc ?_ _)); exact BK181.out) hb); have n2_ := Aside0.mk (below_step (by repeat (first | (with_reducible first | exact HB.out | apply below_alloc | apply pw_below_drewN | apply below_drew1 | refine below_set ?_ GE180.out | refine below_set ?_ GE181.out) | exact HB.out)) hb); clear BK180; clear BK181; clear HB; have BK180 := n0_; have BK181 := n1_; have HB := n2_; clear n0_ n1_ n2_; (try clear hb); (try clear hb2); (try clear hk); (try clear hi); have hcz33_0 : w32.cell? ⟨gb180, 0, none⟩ = some (.int .i64 a1_0) := (blk_cell BK180.out 0).trans rfl; have hcz33_1 : w32.cell? ⟨gb180, 1, none⟩ = some (.int .i64 a1_1) := (blk_cell BK180.out 1).trans rfl; have hcz33_2 : w32.cell? ⟨gb180, 2, none⟩ = some (.int .i64 a1_2) := (blk_cell BK180.out 2).trans rfl; have hcz33_3 : w32.cell? ⟨gb180, 3, none⟩ = some (.int .i64 a1_3) := (blk_cell BK180.out 3).trans rfl; have hcz33_4 : w32.cell? ⟨gb180, 4, none⟩ = some (.int .i64 a1_4) := (blk_cell BK180.out 4).trans rfl; have hcz33_5 : w32.cell? ⟨gb180, 5, none⟩ = some (.int .i64 a1_5) := (blk_cell BK180.out 5).trans rfl; have hfz33_0 := blk_frozen BK180.out 0; have hfz33_1 := blk_frozen BK180.out 1; have hfz33_2 := blk_frozen BK180.out 2; have hfz33_3 := blk_frozen BK180.out 3; have hfz33_4 := blk_frozen BK180.out 4; have hfz33_5 := blk_frozen BK180.out 5) | (go_at_call 50; (with_reducible refine (impl_yin.calls a2 0 (wrap64 (a1_0 - 1)) true _ A22.out).mono ?_); rintro e w' ⟨rfl, ⟨nd, rfl⟩⟩))
                  go_meet
                  case rel => exact ⟨_, (true), (by first | rfl | (simp; done) | (simp [*]; done)), H', ⟨by have := HJ4.out; first | omega | exact Nat.le_refl _⟩, ⟨by (with_reducible repeat (first | refine blk_drewN ?_ _ | refine blk_drew ?_ | refine blk_alloc ?_ _)); exact BK180.out⟩, ⟨by (with_reducible repeat (first | refine blk_drewN ?_ _ | refine blk_drew ?_ | refine blk_alloc ?_ _)); exact BK181.out⟩, ⟨by repeat (first | (with_reducible first | exact HB.out | apply below_alloc | apply pw_below_drewN | apply below_drew1 | refine below_set ?_ GE180.out | refine below_set ?_ GE181.out) | exact HB.out)⟩⟩
                · rw [if_neg c29] at H
                  have c29b0 : decide (a1_0 < (l3.length : Int)) = false := decide_eq_false c29
                  clear c29
                  replace H := Option.bind_eq_some_iff.mp H
                  obtain ⟨t188, A340, H⟩ := H
                  replace H : (impl_PostChain.j1 kj4 a0 a2 l3 t188 a1_0 a1_1 a1_2 a1_3 a1_4 a1_5) = some (r1, r2, r3, r4, r5, r6, r7, r8, r9) := H
                  have A34 := Aside0.mk A340
                  clear A340
                  have H' := Aside0.mk H
                  clear H
                  have hnb35 := NB180_181.out
                  have hnc35 := NB181_180.out
                  have hcz36_0 : wc.cell? ⟨gb180, 0, none⟩ = some (.int .i64 a1_0) := (blk_cell BK180.out 0).trans rfl
                  have hcz36_1 : wc.cell? ⟨gb180, 1, none⟩ = some (.int .i64 a1_1) := (blk_cell BK180.out 1).trans rfl
                  have hcz36_2 : wc.cell? ⟨gb180, 2, none⟩ = some (.int .i64 a1_2) := (blk_cell BK180.out 2).trans rfl
                  have hcz36_3 : wc.cell? ⟨gb180, 3, none⟩ = some (.int .i64 a1_3) := (blk_cell BK180.out 3).trans rfl
                  have hcz36_4 : wc.cell? ⟨gb180, 4, none⟩ = some (.int .i64 a1_4) := (blk_cell BK180.out 4).trans rfl
                  have hcz36_5 : wc.cell? ⟨gb180, 5, none⟩ = some (.int .i64 a1_5) := (blk_cell BK180.out 5).trans rfl
                  have hfz36_0 := blk_frozen BK180.out 0
                  have hfz36_1 := blk_frozen BK180.out 1
                  have hfz36_2 := blk_frozen BK180.out 2
                  have hfz36_3 := blk_frozen BK180.out 3
                  have hfz36_4 := blk_frozen BK180.out 4
                  have hfz36_5 := blk_frozen BK180.out 5
                  go_wp2_with (first | ((with_reducible refine gate_callee (f := 17) rfl ?_); refine goesL_ (some 26) rfl rfl Try.func17 (by kernel_rfl) rfl #[.string a0, .agg #[.int .i64 a1_0, .int .i64 a1_1, .int .i64 a1_2, .int .i64 a1_3, .int .i64 a1_4, .int .i64 a1_5]] rfl (by (try simp only [List.map_toArray, List.map_cons, List.map_nil]); first | done | rfl | (simp only [List.length_drop, List.length_take]; rfl)) ?_; (with_reducible refine (impl_QueueFault.calls kj4 a0 a1_0 a1_1 a1_2 a1_3 a1_4 a1_5 t186 _ A20.out).mono ?_); rintro e w37 ⟨rfl, hb⟩; refine ⟨_, rfl, ?_⟩; have n0_ := Aside0.mk (blk_below (g := gb180) (o := .cells #[.int .i64 a1_0, .int .i64 a1_1, .int .i64 a1_2, .int .i64 a1_3, .int .i64 a1_4, .int .i64 a1_5] 31 (0, 0)) (by (with_reducible repeat (first | refine blk_drewN ?_ _ | refine blk_drew ?_ | refine blk_alloc ?_ _)); exact BK180.out) hb); have n1_ := Aside0.mk (blk_below (g := gb181) (o := .cells #[.int .i64 0, .string (⟨#[]⟩ : ByteArray), .int .i64 0, .int .i64 0, .int .i64 0, .int .i64 0, .int .i64 0, .int .i64 0, .bool false] 40 (0, 0)) (by (with_reducible repeat (first | refine blk_drewN ?_ _ | refine blk_drew ?_ | refine blk_alloc ?_ _)); exact BK181.out) hb); have n2_ := Aside0.mk (below_step (by repeat (first | (with_reducible first | exact HB.out | apply below_alloc | apply pw_below_drewN | apply below_drew1 | refine below_set ?_ GE180.out | refine below_set ?_ GE181.out) | exact HB.out)) hb); clear BK180; clear BK181; clear HB; have BK180 := n0_; have BK181 := n1_; have HB := n2_; clear n0_ n1_ n2_; (try clear hb); (try clear hb2); (try clear hk); (try clear hi); have hcz38_0 : w37.cell? ⟨gb180, 0, none⟩ = some (.int .i64 a1_0) := (blk_cell BK180.out 0).trans rfl; have hcz38_1 : w37.cell? ⟨gb180, 1, none⟩ = some (.int .i64 a1_1) := (blk_cell BK180.out 1).trans rfl; have hcz38_2 : w37.cell? ⟨gb180, 2, none⟩ = some (.int .i64 a1_2) := (blk_cell BK180.out 2).trans rfl; have hcz38_3 : w37.cell? ⟨gb180, 3, none⟩ = some (.int .i64 a1_3) := (blk_cell BK180.out 3).trans rfl; have hcz38_4 : w37.cell? ⟨gb180, 4, none⟩ = some (.int .i64 a1_4) := (blk_cell BK180.out 4).trans rfl; have hcz38_5 : w37.cell? ⟨gb180, 5, none⟩ = some (.int .i64 a1_5) := (blk_cell BK180.out 5).trans rfl; have hfz38_0 := blk_frozen BK180.out 0; have hfz38_1 := blk_frozen BK180.out 1; have hfz38_2 := blk_frozen BK180.out 2; have hfz38_3 := blk_frozen BK180.out 3; have hfz38_4 := blk_frozen BK180.out 4; have hfz38_5 := blk_frozen BK180.out 5) | (go_at_call 50; (with_reducible refine (impl_yin.calls a2 0 (wrap64 (a1_0 - 1)) true _ A22.out).mono ?_); rintro e w' ⟨rfl, ⟨nd, rfl⟩⟩) | (go_at_call 71; (with_reducible refine (slices_ContainsFunc_Buf_at_impl_PostChain_c1.calls kj4 _ _ l3  t188 _ ?side1 ?side2 A34.out).mono ?_); (case side1 => repeat (first | exact (Kd.C_below HR3.out (by repeat (first | (with_reducible first | exact HB.out | apply below_alloc | apply pw_below_drewN | apply below_drew1 | refine below_set ?_ GE180.out | refine below_set ?_ GE181.out) | exact HB.out))) | (with_reducible refine Kd.C_alloc ?_ _) | (with_reducible refine Kd.C_drewN ?_ _) | (with_reducible refine Kd.C_drew ?_))); (case side2 => exact HC3.out); rintro e w39 ⟨rfl, hb⟩; have n0_ := Aside0.mk (blk_below (g := gb180) (o := .cells #[.int .i64 a1_0, .int .i64 a1_1, .int .i64 a1_2, .int .i64 a1_3, .int .i64 a1_4, .int .i64 a1_5] 31 (0, 0)) (by (with_reducible repeat (first | refine blk_drewN ?_ _ | refine blk_drew ?_ | refine blk_alloc ?_ _)); exact BK180.out) hb); have n1_ := Aside0.mk (blk_below (g := gb181) (o := .cells #[.int .i64 0, .string (⟨#[]⟩ : ByteArray), .int .i64 0, .int .i64 0, .int .i64 0, .int .i64 0, .int .i64 0, .int .i64 0, .bool false] 40 (0, 0)) (by (with_reducible repeat (first | refine blk_drewN ?_ _ | refine blk_drew ?_ | refine blk_alloc ?_ _)); exact BK181.out) hb); have n2_ := Aside0.mk (below_step (by repeat (first | (with_reducible first | exact HB.out | apply below_alloc | apply pw_below_drewN | apply below_drew1 | refine below_set ?_ GE180.out | refine below_set ?_ GE181.out) | exact HB.out)) hb); clear BK180; clear BK181; clear HB; have BK180 := n0_; have BK181 := n1_; have HB := n2_; clear n0_ n1_ n2_; (try clear hb); (try clear hb2); (try clear hk); (try clear hi)))
                  go_meet
                  case rel => exact ⟨_, (t188), (by first | rfl | (simp; done) | (simp [*]; done)), H', ⟨by have := HJ4.out; first | omega | exact Nat.le_refl _⟩, ⟨by (with_reducible repeat (first | refine blk_drewN ?_ _ | refine blk_drew ?_ | refine blk_alloc ?_ _)); exact BK180.out⟩, ⟨by (with_reducible repeat (first | refine blk_drewN ?_ _ | refine blk_drew ?_ | refine blk_alloc ?_ _)); exact BK181.out⟩, ⟨by repeat (first | (with_reducible first | exact HB.out | apply below_alloc | apply pw_below_drewN | apply below_drew1 | refine below_set ?_ GE180.out | refine below_set ?_ GE181.out) | exact HB.out)⟩⟩
            · replace c23 := Bool.eq_false_iff.mpr c23
              subst c23
              have H1 : (impl_PostChain.j1 kj4 a0 a2 l3 true a1_0 a1_1 a1_2 a1_3 a1_4 a1_5) = some (r1, r2, r3, r4, r5, r6, r7, r8, r9) := by rw [if_neg (show ¬ (false = true) by decide)] at H; exact H
              clear H
              have H := H1
              clear H1
              have H' := Aside0.mk H
              clear H
              have hnb40 := NB180_181.out
              have hnc40 := NB181_180.out
              have hcz41_0 : wc.cell? ⟨gb180, 0, none⟩ = some (.int .i64 a1_0) := (blk_cell BK180.out 0).trans rfl
              have hcz41_1 : wc.cell? ⟨gb180, 1, none⟩ = some (.int .i64 a1_1) := (blk_cell BK180.out 1).trans rfl
              have hcz41_2 : wc.cell? ⟨gb180, 2, none⟩ = some (.int .i64 a1_2) := (blk_cell BK180.out 2).trans rfl
              have hcz41_3 : wc.cell? ⟨gb180, 3, none⟩ = some (.int .i64 a1_3) := (blk_cell BK180.out 3).trans rfl
              have hcz41_4 : wc.cell? ⟨gb180, 4, none⟩ = some (.int .i64 a1_4) := (blk_cell BK180.out 4).trans rfl
              have hcz41_5 : wc.cell? ⟨gb180, 5, none⟩ = some (.int .i64 a1_5) := (blk_cell BK180.out 5).trans rfl
              have hfz41_0 := blk_frozen BK180.out 0
              have hfz41_1 := blk_frozen BK180.out 1
              have hfz41_2 := blk_frozen BK180.out 2
              have hfz41_3 := blk_frozen BK180.out 3
              have hfz41_4 := blk_frozen BK180.out 4
              have hfz41_5 := blk_frozen BK180.out 5
              go_wp2_with (first | ((with_reducible refine gate_callee (f := 17) rfl ?_); refine goesL_ (some 26) rfl rfl Try.func17 (by kernel_rfl) rfl #[.string a0, .agg #[.int .i64 a1_0, .int .i64 a1_1, .int .i64 a1_2, .int .i64 a1_3, .int .i64 a1_4, .int .i64 a1_5]] rfl (by (try simp only [List.map_toArray, List.map_cons, List.map_nil]); first | done | rfl | (simp only [List.length_drop, List.length_take]; rfl)) ?_; (with_reducible refine (impl_QueueFault.calls kj4 a0 a1_0 a1_1 a1_2 a1_3 a1_4 a1_5 t186 _ A20.out).mono ?_); rintro e w42 ⟨rfl, hb⟩; refine ⟨_, rfl, ?_⟩; have n0_ := Aside0.mk (blk_below (g := gb180) (o := .cells #[.int .i64 a1_0, .int .i64 a1_1, .int .i64 a1_2, .int .i64 a1_3, .int .i64 a1_4, .int .i64 a1_5] 31 (0, 0)) (by (with_reducible repeat (first | refine blk_drewN ?_ _ | refine blk_drew ?_ | refine blk_alloc ?_ _)); exact BK180.out) hb); have n1_ := Aside0.mk (blk_below (g := gb181) (o := .cells #[.int .i64 0, .string (⟨#[]⟩ : ByteArray), .int .i64 0, .int .i64 0, .int .i64 0, .int .i64 0, .int .i64 0, .int .i64 0, .bool false] 40 (0, 0)) (by (with_reducible repeat (first | refine blk_drewN ?_ _ | refine blk_drew ?_ | refine blk_alloc ?_ _)); exact BK181.out) hb); have n2_ := Aside0.mk (below_step (by repeat (first | (with_reducible first | exact HB.out | apply below_alloc | apply pw_below_drewN | apply below_drew1 | refine below_set ?_ GE180.out | refine below_set ?_ GE181.out) | exact HB.out)) hb); clear BK180; clear BK181; clear HB; have BK180 := n0_; have BK181 := n1_; have HB := n2_; clear n0_ n1_ n2_; (try clear hb); (try clear hb2); (try clear hk); (try clear hi); have hcz43_0 : w42.cell? ⟨gb180, 0, none⟩ = some (.int .i64 a1_0) := (blk_cell BK180.out 0).trans rfl; have hcz43_1 : w42.cell? ⟨gb180, 1, none⟩ = some (.int .i64 a1_1) := (blk_cell BK180.out 1).trans rfl; have hcz43_2 : w42.cell? ⟨gb180, 2, none⟩ = some (.int .i64 a1_2) := (blk_cell BK180.out 2).trans rfl; have hcz43_3 : w42.cell? ⟨gb180, 3, none⟩ = some (.int .i64 a1_3) := (blk_cell BK180.out 3).trans rfl; have hcz43_4 : w42.cell? ⟨gb180, 4, none⟩ = some (.int .i64 a1_4) := (blk_cell BK180.out 4).trans rfl; have hcz43_5 : w42.cell? ⟨gb180, 5, none⟩ = some (.int .i64 a1_5) := (blk_cell BK180.out 5).trans rfl; have hfz43_0 := blk_frozen BK180.out 0; have hfz43_1 := blk_frozen BK180.out 1; have hfz43_2 := blk_frozen BK180.out 2; have hfz43_3 := blk_frozen BK180.out 3; have hfz43_4 := blk_frozen BK180.out 4; have hfz43_5 := blk_frozen BK180.out 5) | (go_at_call 50; (with_reducible refine (impl_yin.calls a2 0 (wrap64 (a1_0 - 1)) false _ A22.out).mono ?_); rintro e w' ⟨rfl, ⟨nd, rfl⟩⟩))
              go_meet
              case rel => exact ⟨_, (true), (by first | rfl | (simp; done) | (simp [*]; done)), H', ⟨by have := HJ4.out; first | omega | exact Nat.le_refl _⟩, ⟨by (with_reducible repeat (first | refine blk_drewN ?_ _ | refine blk_drew ?_ | refine blk_alloc ?_ _)); exact BK180.out⟩, ⟨by (with_reducible repeat (first | refine blk_drewN ?_ _ | refine blk_drew ?_ | refine blk_alloc ?_ _)); exact BK181.out⟩, ⟨by repeat (first | (with_reducible first | exact HB.out | apply below_alloc | apply pw_below_drewN | apply below_drew1 | refine below_set ?_ GE180.out | refine below_set ?_ GE181.out) | exact HB.out)⟩⟩
          · rw [if_neg c21] at H
            have c21b0 : (t186 == 0) = false := beq_eq_false_iff_ne.mpr c21
            have c21b1 : (t186 != 0) = true := bne_iff_ne.mpr c21
            (first | rw [c21b0] | (simp only [i64_w, i32_w]; rw [c21b0]) | skip)
            have H' := Aside0.mk H
            clear H
            have hnb44 := NB180_181.out
            have hnc44 := NB181_180.out
            have hcz45_0 : wc.cell? ⟨gb180, 0, none⟩ = some (.int .i64 a1_0) := (blk_cell BK180.out 0).trans rfl
            have hcz45_1 : wc.cell? ⟨gb180, 1, none⟩ = some (.int .i64 a1_1) := (blk_cell BK180.out 1).trans rfl
            have hcz45_2 : wc.cell? ⟨gb180, 2, none⟩ = some (.int .i64 a1_2) := (blk_cell BK180.out 2).trans rfl
            have hcz45_3 : wc.cell? ⟨gb180, 3, none⟩ = some (.int .i64 a1_3) := (blk_cell BK180.out 3).trans rfl
            have hcz45_4 : wc.cell? ⟨gb180, 4, none⟩ = some (.int .i64 a1_4) := (blk_cell BK180.out 4).trans rfl
            have hcz45_5 : wc.cell? ⟨gb180, 5, none⟩ = some (.int .i64 a1_5) := (blk_cell BK180.out 5).trans rfl
            have hfz45_0 := blk_frozen BK180.out 0
            have hfz45_1 := blk_frozen BK180.out 1
            have hfz45_2 := blk_frozen BK180.out 2
            have hfz45_3 := blk_frozen BK180.out 3
            have hfz45_4 := blk_frozen BK180.out 4
            have hfz45_5 := blk_frozen BK180.out 5
            go_wp2_with (first | ((with_reducible refine gate_callee (f := 17) rfl ?_); refine goesL_ (some 26) rfl rfl Try.func17 (by kernel_rfl) rfl #[.string a0, .agg #[.int .i64 a1_0, .int .i64 a1_1, .int .i64 a1_2, .int .i64 a1_3, .int .i64 a1_4, .int .i64 a1_5]] rfl (by (try simp only [List.map_toArray, List.map_cons, List.map_nil]); first | done | rfl | (simp only [List.length_drop, List.length_take]; rfl)) ?_; (with_reducible refine (impl_QueueFault.calls kj4 a0 a1_0 a1_1 a1_2 a1_3 a1_4 a1_5 t186 _ A20.out).mono ?_); rintro e w46 ⟨rfl, hb⟩; refine ⟨_, rfl, ?_⟩; have n0_ := Aside0.mk (blk_below (g := gb180) (o := .cells #[.int .i64 a1_0, .int .i64 a1_1, .int .i64 a1_2, .int .i64 a1_3, .int .i64 a1_4, .int .i64 a1_5] 31 (0, 0)) (by (with_reducible repeat (first | refine blk_drewN ?_ _ | refine blk_drew ?_ | refine blk_alloc ?_ _)); exact BK180.out) hb); have n1_ := Aside0.mk (blk_below (g := gb181) (o := .cells #[.int .i64 0, .string (⟨#[]⟩ : ByteArray), .int .i64 0, .int .i64 0, .int .i64 0, .int .i64 0, .int .i64 0, .int .i64 0, .bool false] 40 (0, 0)) (by (with_reducible repeat (first | refine blk_drewN ?_ _ | refine blk_drew ?_ | refine blk_alloc ?_ _)); exact BK181.out) hb); have n2_ := Aside0.mk (below_step (by repeat (first | (with_reducible first | exact HB.out | apply below_alloc | apply pw_below_drewN | apply below_drew1 | refine below_set ?_ GE180.out | refine below_set ?_ GE181.out) | exact HB.out)) hb); clear BK180; clear BK181; clear HB; have BK180 := n0_; have BK181 := n1_; have HB := n2_; clear n0_ n1_ n2_; (try clear hb); (try clear hb2); (try clear hk); (try clear hi)))
            go_meet
            case rel => exact ⟨_, (true), (by first | rfl | (simp; done) | (simp [*]; done)), H', ⟨by have := HJ4.out; first | omega | exact Nat.le_refl _⟩, ⟨by (with_reducible repeat (first | refine blk_drewN ?_ _ | refine blk_drew ?_ | refine blk_alloc ?_ _)); exact BK180.out⟩, ⟨by (with_reducible repeat (first | refine blk_drewN ?_ _ | refine blk_drew ?_ | refine blk_alloc ?_ _)); exact BK181.out⟩, ⟨by repeat (first | (with_reducible first | exact HB.out | apply below_alloc | apply pw_below_drewN | apply below_drew1 | refine below_set ?_ GE180.out | refine below_set ?_ GE181.out) | exact HB.out)⟩⟩
        case rest =>
          clear HC19
          try clear c1
          try clear c2
          try clear p2
          try clear c3
          try clear c4
          try clear p6
          try clear c7
          try clear c9
          try clear c16
          try clear c17
          try clear c21
          try clear c21b0
          try clear c21b1
          try clear c23
          try clear c24
          try clear c24b0
          try clear c24b1
          try clear c25
          try clear c29
          try clear c29b0
          try clear c30
          try clear c32
          try clear c35
          try clear c40
          try clear c44
          try clear hcz18_0
          try clear hcz18_1
          try clear hcz18_2
          try clear hcz18_3
          try clear hcz18_4
          try clear hcz18_5
          try clear hcz18_6
          try clear hcz18_7
          try clear hcz18_8
          try clear hcz26_0
          try clear hcz26_1
          try clear hcz26_2
          try clear hcz26_3
          try clear hcz26_4
          try clear hcz26_5
          try clear hcz28_0
          try clear hcz28_1
          try clear hcz28_2
          try clear hcz28_3
          try clear hcz28_4
          try clear hcz28_5
          try clear hcz31_0
          try clear hcz31_1
          try clear hcz31_2
          try clear hcz31_3
          try clear hcz31_4
          try clear hcz31_5
          try clear hcz33_0
          try clear hcz33_1
          try clear hcz33_2
          try clear hcz33_3
          try clear hcz33_4
          try clear hcz33_5
          try clear hcz36_0
          try clear hcz36_1
          try clear hcz36_2
          try clear hcz36_3
          try clear hcz36_4
          try clear hcz36_5
          try clear hcz38_0
          try clear hcz38_1
          try clear hcz38_2
          try clear hcz38_3
          try clear hcz38_4
          try clear hcz38_5
          try clear hcz41_0
          try clear hcz41_1
          try clear hcz41_2
          try clear hcz41_3
          try clear hcz41_4
          try clear hcz41_5
          try clear hcz43_0
          try clear hcz43_1
          try clear hcz43_2
          try clear hcz43_3
          try clear hcz43_4
          try clear hcz43_5
          try clear hcz45_0
          try clear hcz45_1
          try clear hcz45_2
          try clear hcz45_3
          try clear hcz45_4
          try clear hcz45_5
          try clear hfz18_0
          try clear hfz18_1
          try clear hfz18_2
          try clear hfz18_3
          try clear hfz18_4
          try clear hfz18_5
          try clear hfz18_6
          try clear hfz18_7
          try clear hfz18_8
          try clear hfz26_0
          try clear hfz26_1
          try clear hfz26_2
          try clear hfz26_3
          try clear hfz26_4
          try clear hfz26_5
          try clear hfz28_0
          try clear hfz28_1
          try clear hfz28_2
          try clear hfz28_3
          try clear hfz28_4
          try clear hfz28_5
          try clear hfz31_0
          try clear hfz31_1
          try clear hfz31_2
          try clear hfz31_3
          try clear hfz31_4
          try clear hfz31_5
          try clear hfz33_0
          try clear hfz33_1
          try clear hfz33_2
          try clear hfz33_3
          try clear hfz33_4
          try clear hfz33_5
          try clear hfz36_0
          try clear hfz36_1
          try clear hfz36_2
          try clear hfz36_3
          try clear hfz36_4
          try clear hfz36_5
          try clear hfz38_0
          try clear hfz38_1
          try clear hfz38_2
          try clear hfz38_3
          try clear hfz38_4
          try clear hfz38_5
          try clear hfz41_0
          try clear hfz41_1
          try clear hfz41_2
          try clear hfz41_3
          try clear hfz41_4
          try clear hfz41_5
          try clear hfz43_0
          try clear hfz43_1
          try clear hfz43_2
          try clear hfz43_3
          try clear hfz43_4
          try clear hfz43_5
          try clear hfz45_0
          try clear hfz45_1
          try clear hfz45_2
          try clear hfz45_3
          try clear hfz45_4
          try clear hfz45_5
          try clear p2
          obtain ⟨kq, x51_18, rfl, HA, HJ18, BK180, BK181, HB⟩ := hcut
          cases kq with
          | zero => exact absurd HA.out (by simp [impl_PostChain.j1])
          | succ kj18 =>
            have H := HA.out
            clear HA
            simp only [impl_PostChain.j1] at H
            by_cases c47 : x51_18 = true
            · subst c47
              have H1 : (some (1, (⟨#[]⟩ : ByteArray), 0, 0, 0, 0, 0, 0, false)) = some (r1, r2, r3, r4, r5, r6, r7, r8, r9) := by rw [if_pos rfl] at H; exact H
              clear H
              have H := H1
              clear H1
              simp only [Option.some.injEq, Prod.mk.injEq] at H
              obtain ⟨rfl, rfl, rfl, rfl, rfl, rfl, rfl, rfl, rfl⟩ := H
              have hnb48 := NB181_180.out
              have hnc48 := NB180_181.out
              have hcz49_0 : wc.cell? ⟨gb181, 0, none⟩ = some (.int .i64 0) := (blk_cell BK181.out 0).trans rfl
              have hcz49_1 : wc.cell? ⟨gb181, 1, none⟩ = some (.string (⟨#[]⟩ : ByteArray)) := (blk_cell BK181.out 1).trans rfl
              have hcz49_2 : wc.cell? ⟨gb181, 2, none⟩ = some (.int .i64 0) := (blk_cell BK181.out 2).trans rfl
              have hcz49_3 : wc.cell? ⟨gb181, 3, none⟩ = some (.int .i64 0) := (blk_cell BK181.out 3).trans rfl
              have hcz49_4 : wc.cell? ⟨gb181, 4, none⟩ = some (.int .i64 0) := (blk_cell BK181.out 4).trans rfl
              have hcz49_5 : wc.cell? ⟨gb181, 5, none⟩ = some (.int .i64 0) := (blk_cell BK181.out 5).trans rfl
              have hcz49_6 : wc.cell? ⟨gb181, 6, none⟩ = some (.int .i64 0) := (blk_cell BK181.out 6).trans rfl
              have hcz49_7 : wc.cell? ⟨gb181, 7, none⟩ = some (.int .i64 0) := (blk_cell BK181.out 7).trans rfl
              have hcz49_8 : wc.cell? ⟨gb181, 8, none⟩ = some (.bool false) := (blk_cell BK181.out 8).trans rfl
              have hfz49_0 := blk_frozen BK181.out 0
              have hfz49_1 := blk_frozen BK181.out 1
              have hfz49_2 := blk_frozen BK181.out 2
              have hfz49_3 := blk_frozen BK181.out 3
              have hfz49_4 := blk_frozen BK181.out 4
              have hfz49_5 := blk_frozen BK181.out 5
              have hfz49_6 := blk_frozen BK181.out 6
              have hfz49_7 := blk_frozen BK181.out 7
              have hfz49_8 := blk_frozen BK181.out 8
              go_wp2
              refine bodyPost_ret (results_cell_row rfl _ _ gb181 40 #[.int .i64 1, .string (⟨#[]⟩ : ByteArray), .int .i64 0, .int .i64 0, .int .i64 0, .int .i64 0, .int .i64 0, .int .i64 0, .bool false] (0, 0) _ rfl (by (with_reducible repeat (first | refine blk_drewN ?_ _ | refine blk_drew ?_ | refine blk_alloc ?_ _)); refine blk_put (cs := #[.int .i64 1, .string (⟨#[]⟩ : ByteArray), .int .i64 0, .int .i64 0, .int .i64 0, .int .i64 0, .int .i64 0, .int .i64 0, .bool false]) ?_ 8 _ rfl; (with_reducible repeat (first | refine blk_drewN ?_ _ | refine blk_drew ?_ | refine blk_alloc ?_ _)); refine blk_put (cs := #[.int .i64 1, .string (⟨#[]⟩ : ByteArray), .int .i64 0, .int .i64 0, .int .i64 0, .int .i64 0, .int .i64 0, .int .i64 0, .bool false]) ?_ 7 _ rfl; (with_reducible repeat (first | refine blk_drewN ?_ _ | refine blk_drew ?_ | refine blk_alloc ?_ _)); refine blk_put (cs := #[.int .i64 1, .string (⟨#[]⟩ : ByteArray), .int .i64 0, .int .i64 0, .int .i64 0, .int .i64 0, .int .i64 0, .int .i64 0, .bool false]) ?_ 6 _ rfl; (with_reducible repeat (first | refine blk_drewN ?_ _ | refine blk_drew ?_ | refine blk_alloc ?_ _)); refine blk_put (cs := #[.int .i64 1, .string (⟨#[]⟩ : ByteArray), .int .i64 0, .int .i64 0, .int .i64 0, .int .i64 0, .int .i64 0, .int .i64 0, .bool false]) ?_ 5 _ rfl; (with_reducible repeat (first | refine blk_drewN ?_ _ | refine blk_drew ?_ | refine blk_alloc ?_ _)); refine blk_put (cs := #[.int .i64 1, .string (⟨#[]⟩ : ByteArray), .int .i64 0, .int .i64 0, .int .i64 0, .int .i64 0, .int .i64 0, .int .i64 0, .bool false]) ?_ 4 _ rfl; (with_reducible repeat (first | refine blk_drewN ?_ _ | refine blk_drew ?_ | refine blk_alloc ?_ _)); refine blk_put (cs := #[.int .i64 1, .string (⟨#[]⟩ : ByteArray), .int .i64 0, .int .i64 0, .int .i64 0, .int .i64 0, .int .i64 0, .int .i64 0, .bool false]) ?_ 3 _ rfl; (with_reducible repeat (first | refine blk_drewN ?_ _ | refine blk_drew ?_ | refine blk_alloc ?_ _)); refine blk_put (cs := #[.int .i64 1, .string (⟨#[]⟩ : ByteArray), .int .i64 0, .int .i64 0, .int .i64 0, .int .i64 0, .int .i64 0, .int .i64 0, .bool false]) ?_ 2 _ rfl; (with_reducible repeat (first | refine blk_drewN ?_ _ | refine blk_drew ?_ | refine blk_alloc ?_ _)); refine blk_put (cs := #[.int .i64 1, .string (⟨#[]⟩ : ByteArray), .int .i64 0, .int .i64 0, .int .i64 0, .int .i64 0, .int .i64 0, .int .i64 0, .bool false]) ?_ 1 _ rfl; (with_reducible repeat (first | refine blk_drewN ?_ _ | refine blk_drew ?_ | refine blk_alloc ?_ _)); refine blk_put (cs := #[.int .i64 0, .string (⟨#[]⟩ : ByteArray), .int .i64 0, .int .i64 0, .int .i64 0, .int .i64 0, .int .i64 0, .int .i64 0, .bool false]) ?_ 0 _ rfl; (with_reducible repeat (first | refine blk_drewN ?_ _ | refine blk_drew ?_ | refine blk_alloc ?_ _)); exact BK181.out) Try.underlying40 rfl (by kernel_rfl)) rfl ?_
              exact ⟨by first | rfl | (simp [errW_none, errW_some] <;> rfl) | (simp [*, errW_none, errW_some] <;> rfl), by repeat (first | (with_reducible first | exact HB.out | apply below_alloc | apply pw_below_drewN | apply below_drew1 | refine below_set ?_ GE180.out | refine below_set ?_ GE181.out) | exact HB.out)⟩
            · replace c47 := Bool.eq_false_iff.mpr c47
              subst c47
              have H1 : (impl_PostChain.l0 kj18 a0 a2 l3 l3 (l3.length : Int) 0 a1_0 a1_1 a1_2 a1_3 a1_4 a1_5) = some (r1, r2, r3, r4, r5, r6, r7, r8, r9) := by rw [if_neg (show ¬ (false = true) by decide)] at H; exact H
              clear H
              have H := H1
              clear H1
              have H' := Aside0.mk H
              clear H
              go_wp2
              go_loopg [0, 55] kj18 (fun kq v0 v55 w' => ∃ (x0_3 : ByteArray) (x55_3 : Int), v0 = .string x0_3 ∧ v55 = .int .i64 x55_3 ∧ Aside0 (impl_PostChain.l0 kq x0_3 a2 l3 l3 (l3.length : Int) x55_3 a1_0 a1_1 a1_2 a1_3 a1_4 a1_5 = some (r1, r2, r3, r4, r5, r6, r7, r8, r9)) ∧ Aside0 (kq ≤ kj18) ∧ Aside0 (w'.heap[gb180]? = some (.cells #[.int .i64 a1_0, .int .i64 a1_1, .int .i64 a1_2, .int .i64 a1_3, .int .i64 a1_4, .int .i64 a1_5] 31 (0, 0))) ∧ Aside0 (w'.heap[gb181]? = some (.cells #[.int .i64 0, .string (⟨#[]⟩ : ByteArray), .int .i64 0, .int .i64 0, .int .i64 0, .int .i64 0, .int .i64 0, .int .i64 0, .bool false] 40 (0, 0))) ∧ Aside0 (Below w.heap.size w w'))
              case atStart => exact ⟨(a0), (0), (by first | rfl | (simp; done) | (simp [*]; done)), (by first | rfl | (simp; done) | (simp [*]; done)), H', ⟨Nat.le_refl _⟩, ⟨by (with_reducible repeat (first | refine blk_drewN ?_ _ | refine blk_drew ?_ | refine blk_alloc ?_ _)); exact BK180.out⟩, ⟨by (with_reducible repeat (first | refine blk_drewN ?_ _ | refine blk_drew ?_ | refine blk_alloc ?_ _)); exact BK181.out⟩, ⟨by repeat (first | (with_reducible first | exact HB.out | apply below_alloc | apply pw_below_drewN | apply below_drew1 | refine below_set ?_ GE180.out | refine below_set ?_ GE181.out) | exact HB.out)⟩⟩
              case round =>
                clear H'
                try clear c1
                try clear c2
                try clear p2
                try clear c3
                try clear c4
                try clear p6
                try clear c7
                try clear c9
                try clear c16
                try clear c17
                try clear c21
                try clear c21b0
                try clear c21b1
                try clear c23
                try clear c24
                try clear c24b0
                try clear c24b1
                try clear c25
                try clear c29
                try clear c29b0
                try clear c30
                try clear c32
                try clear c35
                try clear c40
                try clear c44
                try clear c47
                try clear c48
                try clear hcz18_0
                try clear hcz18_1
                try clear hcz18_2
                try clear hcz18_3
                try clear hcz18_4
                try clear hcz18_5
                try clear hcz18_6
                try clear hcz18_7
                try clear hcz18_8
                try clear hcz26_0
                try clear hcz26_1
                try clear hcz26_2
                try clear hcz26_3
                try clear hcz26_4
                try clear hcz26_5
                try clear hcz28_0
                try clear hcz28_1
                try clear hcz28_2
                try clear hcz28_3
                try clear hcz28_4
                try clear hcz28_5
                try clear hcz31_0
                try clear hcz31_1
                try clear hcz31_2
                try clear hcz31_3
                try clear hcz31_4
                try clear hcz31_5
                try clear hcz33_0
                try clear hcz33_1
                try clear hcz33_2
                try clear hcz33_3
                try clear hcz33_4
                try clear hcz33_5
                try clear hcz36_0
                try clear hcz36_1
                try clear hcz36_2
                try clear hcz36_3
                try clear hcz36_4
                try clear hcz36_5
                try clear hcz38_0
                try clear hcz38_1
                try clear hcz38_2
                try clear hcz38_3
                try clear hcz38_4
                try clear hcz38_5
                try clear hcz41_0
                try clear hcz41_1
                try clear hcz41_2
                try clear hcz41_3
                try clear hcz41_4
                try clear hcz41_5
                try clear hcz43_0
                try clear hcz43_1
                try clear hcz43_2
                try clear hcz43_3
                try clear hcz43_4
                try clear hcz43_5
                try clear hcz45_0
                try clear hcz45_1
                try clear hcz45_2
                try clear hcz45_3
                try clear hcz45_4
                try clear hcz45_5
                try clear hcz49_0
                try clear hcz49_1
                try clear hcz49_2
                try clear hcz49_3
                try clear hcz49_4
                try clear hcz49_5
                try clear hcz49_6
                try clear hcz49_7
                try clear hcz49_8
                try clear hfz18_0
                try clear hfz18_1
                try clear hfz18_2
                try clear hfz18_3
                try clear hfz18_4
                try clear hfz18_5
                try clear hfz18_6
                try clear hfz18_7
                try clear hfz18_8
                try clear hfz26_0
                try clear hfz26_1
                try clear hfz26_2
                try clear hfz26_3
                try clear hfz26_4
                try clear hfz26_5
                try clear hfz28_0
                try clear hfz28_1
                try clear hfz28_2
                try clear hfz28_3
                try clear hfz28_4
                try clear hfz28_5
                try clear hfz31_0
                try clear hfz31_1
                try clear hfz31_2
                try clear hfz31_3
                try clear hfz31_4
                try clear hfz31_5
                try clear hfz33_0
                try clear hfz33_1
                try clear hfz33_2
                try clear hfz33_3
                try clear hfz33_4
                try clear hfz33_5
                try clear hfz36_0
                try clear hfz36_1
                try clear hfz36_2
                try clear hfz36_3
                try clear hfz36_4
                try clear hfz36_5
                try clear hfz38_0
                try clear hfz38_1
                try clear hfz38_2
                try clear hfz38_3
                try clear hfz38_4
                try clear hfz38_5
                try clear hfz41_0
                try clear hfz41_1
                try clear hfz41_2
                try clear hfz41_3
                try clear hfz41_4
                try clear hfz41_5
                try clear hfz43_0
                try clear hfz43_1
                try clear hfz43_2
                try clear hfz43_3
                try clear hfz43_4
                try clear hfz43_5
                try clear hfz45_0
                try clear hfz45_1
                try clear hfz45_2
                try clear hfz45_3
                try clear hfz45_4
                try clear hfz45_5
                try clear hfz49_0
                try clear hfz49_1
                try clear hfz49_2
                try clear hfz49_3
                try clear hfz49_4
                try clear hfz49_5
                try clear hfz49_6
                try clear hfz49_7
                try clear hfz49_8
                try clear p2
                try clear p6
                obtain ⟨x0_3, x55_3, rfl, rfl, HA, HK3, BK180, BK181, HB⟩ := hrel
                cases gk with
                | zero => exact absurd HA.out (by simp [impl_PostChain.l0])
                | succ k3 =>
                  have H := HA.out
                  clear HA
                  simp only [impl_PostChain.l0] at H
                  by_cases c50 : x55_3 < (l3.length : Int)
                  · rw [if_pos c50] at H
                    have c50b0 : decide (x55_3 < (l3.length : Int)) = true := decide_eq_true c50
                    clear c50
                    by_cases c51 : 0 ≤ x55_3
                    · rw [if_pos c51] at H
                      have c51b0 : decide (0 ≤ x55_3) = true := decide_eq_true c51
                      clear c51
                      by_cases c52 : x55_3 < (l3.length : Int)
                      · rw [if_pos c52] at H
                        have c52b0 : decide (x55_3 < (l3.length : Int)) = true := decide_eq_true c52
                        clear c52
                        by_cases c53 : a1_0 = 0
                        · rw [if_pos c53] at H
                          exact absurd H (by simp)
                        · rw [if_neg c53] at H
                          have c53b0 : (a1_0 == 0) = false := beq_eq_false_iff_ne.mpr c53
                          have c53b1 : (a1_0 != 0) = true := bne_iff_ne.mpr c53
                          obtain ⟨bq54, hbq54⟩ : ∃ b_ : Bool, b_ = ((rd_T75 l3 x55_3).f2) := ⟨_, rfl⟩
                          replace H : (if bq54 = true then (if x55_3 < (wrap64 ((l3.length : Int) - 1)) then ((impl_yset.f k3 x0_3 (wrap64 (a1_1 + (wrap64 (16 * (Int.tmod (wrap64 (a2 + x55_3)) a1_0))))) (([(rd_T75 l3 x55_3).f0, (rd_T75 l3 x55_3).f1, Go.bits .or .i64 (Go.bits .or .i64 0 2) 1, Int.tmod (wrap64 ((Int.tmod (wrap64 (a2 + x55_3)) a1_0) + 1)) a1_0] : List Int))).bind fun t203 => (impl_PostChain.l0 k3 t203 a2 l3 l3 (l3.length : Int) (wrap64 (x55_3 + 1)) a1_0 a1_1 a1_2 a1_3 a1_4 a1_5)) else ((impl_yset.f k3 x0_3 (wrap64 (a1_1 + (wrap64 (16 * (Int.tmod (wrap64 (a2 + x55_3)) a1_0))))) (([(rd_T75 l3 x55_3).f0, (rd_T75 l3 x55_3).f1, Go.bits .or .i64 0 2, 0] : List Int))).bind fun t207 => (impl_PostChain.l0 k3 t207 a2 l3 l3 (l3.length : Int) (wrap64 (x55_3 + 1)) a1_0 a1_1 a1_2 a1_3 a1_4 a1_5))) else (if x55_3 < (wrap64 ((l3.length : Int) - 1)) then ((impl_yset.f k3 x0_3 (wrap64 (a1_1 + (wrap64 (16 * (Int.tmod (wrap64 (a2 + x55_3)) a1_0))))) (([(rd_T75 l3 x55_3).f0, (rd_T75 l3 x55_3).f1, Go.bits .or .i64 0 1, Int.tmod (wrap64 ((Int.tmod (wrap64 (a2 + x55_3)) a1_0) + 1)) a1_0] : List Int))).bind fun t211 => (impl_PostChain.l0 k3 t211 a2 l3 l3 (l3.length : Int) (wrap64 (x55_3 + 1)) a1_0 a1_1 a1_2 a1_3 a1_4 a1_5)) else ((impl_yset.f k3 x0_3 (wrap64 (a1_1 + (wrap64 (16 * (Int.tmod (wrap64 (a2 + x55_3)) a1_0))))) (([(rd_T75 l3 x55_3).f0, (rd_T75 l3 x55_3).f1, 0, 0] : List Int))).bind fun t215 => (impl_PostChain.l0 k3 t215 a2 l3 l3 (l3.length : Int) (wrap64 (x55_3 + 1)) a1_0 a1_1 a1_2 a1_3 a1_4 a1_5)))) = some (r1, r2, r3, r4, r5, r6, r7, r8, r9) := by rw [← hbq54] at H; exact H
                          have Nbq54 := Aside0.mk hbq54
                          clear hbq54
                          by_cases c55 : bq54 = true
                          · subst c55
                            have H1 : (if x55_3 < (wrap64 ((l3.length : Int) - 1)) then ((impl_yset.f k3 x0_3 (wrap64 (a1_1 + (wrap64 (16 * (Int.tmod (wrap64 (a2 + x55_3)) a1_0))))) (([(rd_T75 l3 x55_3).f0, (rd_T75 l3 x55_3).f1, Go.bits .or .i64 (Go.bits .or .i64 0 2) 1, Int.tmod (wrap64 ((Int.tmod (wrap64 (a2 + x55_3)) a1_0) + 1)) a1_0] : List Int))).bind fun t203 => (impl_PostChain.l0 k3 t203 a2 l3 l3 (l3.length : Int) (wrap64 (x55_3 + 1)) a1_0 a1_1 a1_2 a1_3 a1_4 a1_5)) else ((impl_yset.f k3 x0_3 (wrap64 (a1_1 + (wrap64 (16 * (Int.tmod (wrap64 (a2 + x55_3)) a1_0))))) (([(rd_T75 l3 x55_3).f0, (rd_T75 l3 x55_3).f1, Go.bits .or .i64 0 2, 0] : List Int))).bind fun t207 => (impl_PostChain.l0 k3 t207 a2 l3 l3 (l3.length : Int) (wrap64 (x55_3 + 1)) a1_0 a1_1 a1_2 a1_3 a1_4 a1_5))) = some (r1, r2, r3, r4, r5, r6, r7, r8, r9) := by rw [if_pos rfl] at H; exact H
                            clear H
                            have H := H1
                            clear H1
                            by_cases c56 : x55_3 < (wrap64 ((l3.length : Int) - 1))
                            · rw [if_pos c56] at H
                              have c56b0 : decide (x55_3 < (wrap64 ((l3.length : Int) - 1))) = true := decide_eq_true c56
                              clear c56
                              obtain ⟨y200, hy200⟩ : ∃ y_ : List Int, y_ = (([(rd_T75 l3 x55_3).f0, (rd_T75 l3 x55_3).f1, Go.bits .or .i64 (Go.bits .or .i64 0 2) 1, Int.tmod (wrap64 ((Int.tmod (wrap64 (a2 + x55_3)) a1_0) + 1)) a1_0] : List Int)) := ⟨_, rfl⟩
                              replace H : ((impl_yset.f k3 x0_3 (wrap64 (a1_1 + (wrap64 (16 * (Int.tmod (wrap64 (a2 + x55_3)) a1_0))))) y200).bind fun t203 => (impl_PostChain.l0 k3 t203 a2 l3 l3 (l3.length : Int) (wrap64 (x55_3 + 1)) a1_0 a1_1 a1_2 a1_3 a1_4 a1_5)) = some (r1, r2, r3, r4, r5, r6, r7, r8, r9) := by first | (rw [hy200]; with_reducible exact H) | (have H2_ := (Option.bind_some _ _).symm.trans H; rw [hy200]; with_reducible exact H2_) | (have H2_ := (Option.bind_some _ _).symm.trans H; with_reducible exact H2_) | with_reducible exact H | (rw [hy200]; exact H) | exact H
                              have Ny200 := Aside0.mk hy200
                              clear hy200
                              replace H := Option.bind_eq_some_iff.mp H
                              obtain ⟨t203, A570, H⟩ := H
                              replace H : (impl_PostChain.l0 k3 t203 a2 l3 l3 (l3.length : Int) (wrap64 (x55_3 + 1)) a1_0 a1_1 a1_2 a1_3 a1_4 a1_5) = some (r1, r2, r3, r4, r5, r6, r7, r8, r9) := H
                              have A57 := Aside0.mk A570
                              clear A570
                              have H' := Aside0.mk H
                              clear H
                              have p198 : 0 ≤ (x55_3 : Int) := of_decide_eq_true (by first | (with_reducible assumption) | assumption)
                              have q198 : x55_3 < (l3.length : Int) := of_decide_eq_true (by first | (with_reducible assumption) | assumption)
                              obtain ⟨ad198, e198, hx198_0, hx198_1, hx198_2⟩ := at_T75 HR3.out x55_3 p198 q198
                              (try rw [← Nbq54.out] at hx198_2)
                              cases e198
                              replace hx198_0 := (HB.out.cell (World.block_lt_of_cell? w _ hx198_0)).trans hx198_0
                              replace hx198_1 := (HB.out.cell (World.block_lt_of_cell? w _ hx198_1)).trans hx198_1
                              replace hx198_2 := (HB.out.cell (World.block_lt_of_cell? w _ hx198_2)).trans hx198_2
                              replace p198 := eq_true p198
                              replace q198 := eq_true q198
                              go_wp2_with (first | ((with_reducible refine gate_dst (N := 10) rfl ?_); (try (refine gate_guard (by rfl) ?_; dsimp only)); refine box_event ?hg (N := 10) ?hd (cs := #[.int .i64 0, .int .i64 0, .bool false]) (t := 75) ?hr ?_; (case hd => rfl); (case hg => rfl); (case hr => first | (go_simp; done) | (go_simp; rfl)); intro gb199 hg w58 hbox hb; have n0_ := Aside0.mk (blk_below (g := gb180) (o := .cells #[.int .i64 a1_0, .int .i64 a1_1, .int .i64 a1_2, .int .i64 a1_3, .int .i64 a1_4, .int .i64 a1_5] 31 (0, 0)) (by (with_reducible repeat (first | refine blk_drewN ?_ _ | refine blk_drew ?_ | refine blk_alloc ?_ _)); exact BK180.out) hb); have n1_ := Aside0.mk (blk_below (g := gb181) (o := .cells #[.int .i64 0, .string (⟨#[]⟩ : ByteArray), .int .i64 0, .int .i64 0, .int .i64 0, .int .i64 0, .int .i64 0, .int .i64 0, .bool false] 40 (0, 0)) (by (with_reducible repeat (first | refine blk_drewN ?_ _ | refine blk_drew ?_ | refine blk_alloc ?_ _)); exact BK181.out) hb); have n2_ := Aside0.mk (below_step (by repeat (first | (with_reducible first | exact HB.out | apply below_alloc | apply pw_below_drewN | apply below_drew1 | refine below_set ?_ GE180.out | refine below_set ?_ GE181.out) | exact HB.out)) hb); have n3_ := Aside0.mk (hbox); have n4_ := Aside0.mk ((by rw [hg]; exact (below_size (by repeat (first | (with_reducible first | exact HB.out | apply below_alloc | apply pw_below_drewN | apply below_drew1 | refine below_set ?_ GE180.out | refine below_set ?_ GE181.out) | exact HB.out))) : w.heap.size ≤ gb199)); have n5_ := Aside0.mk ((by rw [hg]; exact (below_size (by repeat (first | (with_reducible first | exact HB.out | apply below_alloc | apply pw_below_drewN | apply below_drew1 | refine below_set ?_ GE180.out | refine below_set ?_ GE181.out) | exact HB.out))) : w.heap.size ≤ gb199)); have n6_ := Aside0.mk ((by rw [hg]; exact Nat.ne_of_lt (blk_lt (g := gb180) (o := .cells #[.int .i64 a1_0, .int .i64 a1_1, .int .i64 a1_2, .int .i64 a1_3, .int .i64 a1_4, .int .i64 a1_5] 31 (0, 0)) (by (with_reducible repeat (first | refine blk_drewN ?_ _ | refine blk_drew ?_ | refine blk_alloc ?_ _)); exact BK180.out)) : gb180 ≠ gb199)); have n7_ := Aside0.mk ((by rw [hg]; exact Nat.ne_of_gt (blk_lt (g := gb180) (o := .cells #[.int .i64 a1_0, .int .i64 a1_1, .int .i64 a1_2, .int .i64 a1_3, .int .i64 a1_4, .int .i64 a1_5] 31 (0, 0)) (by (with_reducible repeat (first | refine blk_drewN ?_ _ | refine blk_drew ?_ | refine blk_alloc ?_ _)); exact BK180.out)) : gb199 ≠ gb180)); have n8_ := Aside0.mk ((by rw [hg]; exact Nat.ne_of_lt (blk_lt (g := gb181) (o := .cells #[.int .i64 0, .string (⟨#[]⟩ : ByteArray), .int .i64 0, .int .i64 0, .int .i64 0, .int .i64 0, .int .i64 0, .int .i64 0, .bool false] 40 (0, 0)) (by (with_reducible repeat (first | refine blk_drewN ?_ _ | refine blk_drew ?_ | refine blk_alloc ?_ _)); exact BK181.out)) : gb181 ≠ gb199)); have n9_ := Aside0.mk ((by rw [hg]; exact Nat.ne_of_gt (blk_lt (g := gb181) (o := .cells #[.int .i64 0, .string (⟨#[]⟩ : ByteArray), .int .i64 0, .int .i64 0, .int .i64 0, .int .i64 0, .int .i64 0, .int .i64 0, .bool false] 40 (0, 0)) (by (with_reducible repeat (first | refine blk_drewN ?_ _ | refine blk_drew ?_ | refine blk_alloc ?_ _)); exact BK181.out)) : gb199 ≠ gb181)); clear BK180; clear BK181; clear HB; have BK180 := n0_; have BK181 := n1_; have HB := n2_; have BK199 := n3_; have GW199 := n4_; have GE199 := n5_; have NB180_199 := n6_; have NB199_180 := n7_; have NB181_199 := n8_; have NB199_181 := n9_; clear n0_ n1_ n2_ n3_ n4_ n5_ n6_ n7_ n8_ n9_; clear hb hbox hg; have hnb59 := NB199_180.out; have hnc59 := NB180_199.out; have hnb60 := NB199_181.out; have hnc60 := NB181_199.out; have hcz61_0 : w58.cell? ⟨gb199, 0, none⟩ = some (.int .i64 0) := (blk_cell BK199.out 0).trans rfl; have hcz61_1 : w58.cell? ⟨gb199, 1, none⟩ = some (.int .i64 0) := (blk_cell BK199.out 1).trans rfl; have hcz61_2 : w58.cell? ⟨gb199, 2, none⟩ = some (.bool false) := (blk_cell BK199.out 2).trans rfl; have hfz61_0 := blk_frozen BK199.out 0; have hfz61_1 := blk_frozen BK199.out 1; have hfz61_2 := blk_frozen BK199.out 2; have hnb62 := NB180_181.out; have hnc62 := NB181_180.out; have hcz63_0 : w58.cell? ⟨gb180, 0, none⟩ = some (.int .i64 a1_0) := (blk_cell BK180.out 0).trans rfl; have hcz63_1 : w58.cell? ⟨gb180, 1, none⟩ = some (.int .i64 a1_1) := (blk_cell BK180.out 1).trans rfl; have hcz63_2 : w58.cell? ⟨gb180, 2, none⟩ = some (.int .i64 a1_2) := (blk_cell BK180.out 2).trans rfl; have hcz63_3 : w58.cell? ⟨gb180, 3, none⟩ = some (.int .i64 a1_3) := (blk_cell BK180.out 3).trans rfl; have hcz63_4 : w58.cell? ⟨gb180, 4, none⟩ = some (.int .i64 a1_4) := (blk_cell BK180.out 4).trans rfl; have hcz63_5 : w58.cell? ⟨gb180, 5, none⟩ = some (.int .i64 a1_5) := (blk_cell BK180.out 5).trans rfl; have hfz63_0 := blk_frozen BK180.out 0; have hfz63_1 := blk_frozen BK180.out 1; have hfz63_2 := blk_frozen BK180.out 2; have hfz63_3 := blk_frozen BK180.out 3; have hfz63_4 := blk_frozen BK180.out 4; have hfz63_5 := blk_frozen BK180.out 5) | ((with_reducible refine gate_dst (N := 94) rfl ?_); (try (refine gate_guard (by rfl) ?_; dsimp only)); refine Kd.R_lit (Kd.int .i64) _ 2 ?hg (N := 94) ?hd (xs := ([(rd_T75 l3 x55_3).f0, (rd_T75 l3 x55_3).f1, Go.bits .or .i64 (Go.bits .or .i64 0 2) 1, Int.tmod (wrap64 ((Int.tmod (wrap64 (a2 + x55_3)) a1_0) + 1)) a1_0] : List Int)) (inner := [.int .i64 ((rd_T75 l3 x55_3).f0), .int .i64 ((rd_T75 l3 x55_3).f1), .int .i64 (Go.bits .or .i64 (Go.bits .or .i64 0 2) 1), .int .i64 (Int.tmod (wrap64 ((Int.tmod (wrap64 (a2 + x55_3)) a1_0) + 1)) a1_0)]) (ok := fun _ => True) (okp := fun _ => True) ?hr ?hp (fun _ hk => hk) trivial (Below.refl _ _) (Nat.le_refl _) (by simp) ?_; (case hd => rfl); (case hg => rfl); (case hr => first | (go_simp; done) | (go_simp; rfl)); (case hp => exact (Reps.one (show Kd.M (Kd.int .i64) _ _ _ ((rd_T75 l3 x55_3).f0) [.int .i64 ((rd_T75 l3 x55_3).f0)] from rfl) (Reps.one (show Kd.M (Kd.int .i64) _ _ _ ((rd_T75 l3 x55_3).f1) [.int .i64 ((rd_T75 l3 x55_3).f1)] from rfl) (Reps.one (show Kd.M (Kd.int .i64) _ _ _ (Go.bits .or .i64 (Go.bits .or .i64 0 2) 1) [.int .i64 (Go.bits .or .i64 (Go.bits .or .i64 0 2) 1)] from rfl) (Reps.one (show Kd.M (Kd.int .i64) _ _ _ (Int.tmod (wrap64 ((Int.tmod (wrap64 (a2 + x55_3)) a1_0) + 1)) a1_0) [.int .i64 (Int.tmod (wrap64 ((Int.tmod (wrap64 (a2 + x55_3)) a1_0) + 1)) a1_0)] from rfl) (Reps.none _ _)))))); intro v201 w64 ho65 hb hg_ hnew_; clear hg_ hnew_; (first | rw [← Ny200.out] at ho65 | (simp only [Int.reduceToNat] at ho65; rw [← Ny200.out] at ho65)); have n0_ := Aside0.mk (Kd.R_lower ho65 (below_size (by repeat (first | (with_reducible first | exact HB.out | apply below_alloc | apply pw_below_drewN | apply below_drew1 | refine below_set ?_ GE180.out | refine below_set ?_ GE181.out | refine below_set ?_ GE199.out) | exact HB.out)))); have n1_ := Aside0.mk (blk_below (g := gb180) (o := .cells #[.int .i64 a1_0, .int .i64 a1_1, .int .i64 a1_2, .int .i64 a1_3, .int .i64 a1_4, .int .i64 a1_5] 31 (0, 0)) (by (with_reducible repeat (first | refine blk_drewN ?_ _ | refine blk_drew ?_ | refine blk_alloc ?_ _)); refine blk_far ?_ NB180_199.out _; (with_reducible repeat (first | refine blk_drewN ?_ _ | refine blk_drew ?_ | refine blk_alloc ?_ _)); refine blk_far ?_ NB180_199.out _; (with_reducible repeat (first | refine blk_drewN ?_ _ | refine blk_drew ?_ | refine blk_alloc ?_ _)); refine blk_far ?_ NB180_199.out _; (with_reducible repeat (first | refine blk_drewN ?_ _ | refine blk_drew ?_ | refine blk_alloc ?_ _)); exact BK180.out) hb); have n2_ := Aside0.mk (blk_below (g := gb181) (o := .cells #[.int .i64 0, .string (⟨#[]⟩ : ByteArray), .int .i64 0, .int .i64 0, .int .i64 0, .int .i64 0, .int .i64 0, .int .i64 0, .bool false] 40 (0, 0)) (by (with_reducible repeat (first | refine blk_drewN ?_ _ | refine blk_drew ?_ | refine blk_alloc ?_ _)); refine blk_far ?_ NB181_199.out _; (with_reducible repeat (first | refine blk_drewN ?_ _ | refine blk_drew ?_ | refine blk_alloc ?_ _)); refine blk_far ?_ NB181_199.out _; (with_reducible repeat (first | refine blk_drewN ?_ _ | refine blk_drew ?_ | refine blk_alloc ?_ _)); refine blk_far ?_ NB181_199.out _; (with_reducible repeat (first | refine blk_drewN ?_ _ | refine blk_drew ?_ | refine blk_alloc ?_ _)); exact BK181.out) hb); have n3_ := Aside0.mk (blk_below (g := gb199) (o := .cells #[.int .i64 ((rd_T75 l3 x55_3).f0), .int .i64 ((rd_T75 l3 x55_3).f1), .bool true] 75 (0, 0)) (by (with_reducible repeat (first | refine blk_drewN ?_ _ | refine blk_drew ?_ | refine blk_alloc ?_ _)); refine blk_put (cs := #[.int .i64 ((rd_T75 l3 x55_3).f0), .int .i64 ((rd_T75 l3 x55_3).f1), .bool false]) ?_ 2 _ rfl; (with_reducible repeat (first | refine blk_drewN ?_ _ | refine blk_drew ?_ | refine blk_alloc ?_ _)); refine blk_put (cs := #[.int .i64 ((rd_T75 l3 x55_3).f0), .int .i64 0, .bool false]) ?_ 1 _ rfl; (with_reducible repeat (first | refine blk_drewN ?_ _ | refine blk_drew ?_ | refine blk_alloc ?_ _)); refine blk_put (cs := #[.int .i64 0, .int .i64 0, .bool false]) ?_ 0 _ rfl; (with_reducible repeat (first | refine blk_drewN ?_ _ | refine blk_drew ?_ | refine blk_alloc ?_ _)); exact BK199.out) hb); have n4_ := Aside0.mk (below_step (by repeat (first | (with_reducible first | exact HB.out | apply below_alloc | apply pw_below_drewN | apply below_drew1 | refine below_set ?_ GE180.out | refine below_set ?_ GE181.out | refine below_set ?_ GE199.out) | exact HB.out)) hb); clear BK180; clear BK181; clear BK199; clear HB; have HO202 := n0_; have BK180 := n1_; have BK181 := n2_; have BK199 := n3_; have HB := n4_; clear n0_ n1_ n2_ n3_ n4_; clear hb ho65; obtain ⟨Ao66, co66, eo66⟩ := Kd.R_slice HO202.out; subst eo66) | ((with_reducible refine gate_callee (f := 73) rfl ?_); refine goesL_ (some 95) rfl rfl Try.func73 (by kernel_rfl) rfl #[.string x0_3, .int .i64 (wrap64 (a1_1 + (wrap64 (16 * (Int.tmod (wrap64 (a2 + x55_3)) a1_0))))), .slice Ao66 y200.length co66] rfl (by (try simp only [List.map_toArray, List.map_cons, List.map_nil]); first | done | rfl | (simp only [List.length_drop, List.length_take]; rfl)) ?_; (with_reducible refine (impl_yset.calls k3 x0_3 (wrap64 (a1_1 + (wrap64 (16 * (Int.tmod (wrap64 (a2 + x55_3)) a1_0))))) _ _ y200 t203 _ ?side1 ?side2 A57.out).mono ?_); (case side1 => repeat (first | exact (Kd.R_reads' HO202.out).2.2 | (with_reducible refine Kd.C_alloc ?_ _) | (with_reducible refine Kd.C_drewN ?_ _) | (with_reducible refine Kd.C_drew ?_))); (case side2 => exact (Kd.R_reads' HO202.out).2.1); rintro e w67 ⟨rfl, hb⟩; refine ⟨_, rfl, ?_⟩; have n0_ := Aside0.mk (Kd.R_below (by (with_reducible repeat (first | apply Kd.R_alloc | apply Kd.R_drewN | apply Kd.R_drew)); exact HO202.out) hb); have n1_ := Aside0.mk (blk_below (g := gb180) (o := .cells #[.int .i64 a1_0, .int .i64 a1_1, .int .i64 a1_2, .int .i64 a1_3, .int .i64 a1_4, .int .i64 a1_5] 31 (0, 0)) (by (with_reducible repeat (first | refine blk_drewN ?_ _ | refine blk_drew ?_ | refine blk_alloc ?_ _)); exact BK180.out) hb); have n2_ := Aside0.mk (blk_below (g := gb181) (o := .cells #[.int .i64 0, .string (⟨#[]⟩ : ByteArray), .int .i64 0, .int .i64 0, .int .i64 0, .int .i64 0, .int .i64 0, .int .i64 0, .bool false] 40 (0, 0)) (by (with_reducible repeat (first | refine blk_drewN ?_ _ | refine blk_drew ?_ | refine blk_alloc ?_ _)); exact BK181.out) hb); have n3_ := Aside0.mk (blk_below (g := gb199) (o := .cells #[.int .i64 ((rd_T75 l3 x55_3).f0), .int .i64 ((rd_T75 l3 x55_3).f1), .bool true] 75 (0, 0)) (by (with_reducible repeat (first | refine blk_drewN ?_ _ | refine blk_drew ?_ | refine blk_alloc ?_ _)); exact BK199.out) hb); have n4_ := Aside0.mk (below_step (by repeat (first | (with_reducible first | exact HB.out | apply below_alloc | apply pw_below_drewN | apply below_drew1 | refine below_set ?_ GE180.out | refine below_set ?_ GE181.out | refine below_set ?_ GE199.out) | exact HB.out)) hb); clear HO202; clear BK180; clear BK181; clear BK199; clear HB; have HO202 := n0_; have BK180 := n1_; have BK181 := n2_; have BK199 := n3_; have HB := n4_; clear n0_ n1_ n2_ n3_ n4_; (try clear hb); (try clear hb2); (try clear hk); (try clear hi)))
                              go_roundg k3
                              case measure => have := HJ4.out; have := HJ18.out; have := HK3.out; omega
                              case rel => exact ⟨(t203), (wrap64 (x55_3 + 1)), (by first | rfl | (simp; done) | (simp [*]; done)), (by first | rfl | (simp; done) | (simp [*]; done)), H', ⟨by have := HJ4.out; have := HJ18.out; have := HK3.out; omega⟩, ⟨by (with_reducible repeat (first | refine blk_drewN ?_ _ | refine blk_drew ?_ | refine blk_alloc ?_ _)); exact BK180.out⟩, ⟨by (with_reducible repeat (first | refine blk_drewN ?_ _ | refine blk_drew ?_ | refine blk_alloc ?_ _)); exact BK181.out⟩, ⟨by repeat (first | (with_reducible first | exact HB.out | apply below_alloc | apply pw_below_drewN | apply below_drew1 | refine below_set ?_ GE180.out | refine below_set ?_ GE181.out | refine below_set ?_ GE199.out) | exact HB.out)⟩⟩
                            · rw [if_neg c56] at H
                              have c56b0 : decide (x55_3 < (wrap64 ((l3.length : Int) - 1))) = false := decide_eq_false c56
                              clear c56
                              obtain ⟨y204, hy204⟩ : ∃ y_ : List Int, y_ = (([(rd_T75 l3 x55_3).f0, (rd_T75 l3 x55_3).f1, Go.bits .or .i64 0 2, 0] : List Int)) := ⟨_, rfl⟩
                              replace H : ((impl_yset.f k3 x0_3 (wrap64 (a1_1 + (wrap64 (16 * (Int.tmod (wrap64 (a2 + x55_3)) a1_0))))) y204).bind fun t207 => (impl_PostChain.l0 k3 t207 a2 l3 l3 (l3.length : Int) (wrap64 (x55_3 + 1)) a1_0 a1_1 a1_2 a1_3 a1_4 a1_5)) = some (r1, r2, r3, r4, r5, r6, r7, r8, r9) := by first | (rw [hy204]; with_reducible exact H) | (have H2_ := (Option.bind_some _ _).symm.trans H; rw [hy204]; with_reducible exact H2_) | (have H2_ := (Option.bind_some _ _).symm.trans H; with_reducible exact H2_) | with_reducible exact H | (rw [hy204]; exact H) | exact H
                              have Ny204 := Aside0.mk hy204
                              clear hy204
                              replace H := Option.bind_eq_some_iff.mp H
                              obtain ⟨t207, A680, H⟩ := H
                              replace H : (impl_PostChain.l0 k3 t207 a2 l3 l3 (l3.length : Int) (wrap64 (x55_3 + 1)) a1_0 a1_1 a1_2 a1_3 a1_4 a1_5) = some (r1, r2, r3, r4, r5, r6, r7, r8, r9) := H
                              have A68 := Aside0.mk A680
                              clear A680
                              have H' := Aside0.mk H
                              clear H
                              have p198 : 0 ≤ (x55_3 : Int) := of_decide_eq_true (by first | (with_reducible assumption) | assumption)
                              have q198 : x55_3 < (l3.length : Int) := of_decide_eq_true (by first | (with_reducible assumption) | assumption)
                              obtain ⟨ad198, e198, hx198_0, hx198_1, hx198_2⟩ := at_T75 HR3.out x55_3 p198 q198
                              (try rw [← Nbq54.out] at hx198_2)
                              cases e198
                              replace hx198_0 := (HB.out.cell (World.block_lt_of_cell? w _ hx198_0)).trans hx198_0
                              replace hx198_1 := (HB.out.cell (World.block_lt_of_cell? w _ hx198_1)).trans hx198_1
                              replace hx198_2 := (HB.out.cell (World.block_lt_of_cell? w _ hx198_2)).trans hx198_2
                              replace p198 := eq_true p198
                              replace q198 := eq_true q198
                              go_wp2_with (first | ((with_reducible refine gate_dst (N := 10) rfl ?_); (try (refine gate_guard (by rfl) ?_; dsimp only)); refine box_event ?hg (N := 10) ?hd (cs := #[.int .i64 0, .int .i64 0, .bool false]) (t := 75) ?hr ?_; (case hd => rfl); (case hg => rfl); (case hr => first | (go_simp; done) | (go_simp; rfl)); intro gb199 hg w69 hbox hb; have n0_ := Aside0.mk (blk_below (g := gb180) (o := .cells #[.int .i64 a1_0, .int .i64 a1_1, .int .i64 a1_2, .int .i64 a1_3, .int .i64 a1_4, .int .i64 a1_5] 31 (0, 0)) (by (with_reducible repeat (first | refine blk_drewN ?_ _ | refine blk_drew ?_ | refine blk_alloc ?_ _)); exact BK180.out) hb); have n1_ := Aside0.mk (blk_below (g := gb181) (o := .cells #[.int .i64 0, .string (⟨#[]⟩ : ByteArray), .int .i64 0, .int .i64 0, .int .i64 0, .int .i64 0, .int .i64 0, .int .i64 0, .bool false] 40 (0, 0)) (by (with_reducible repeat (first | refine blk_drewN ?_ _ | refine blk_drew ?_ | refine blk_alloc ?_ _)); exact BK181.out) hb); have n2_ := Aside0.mk (below_step (by repeat (first | (with_reducible first | exact HB.out | apply below_alloc | apply pw_below_drewN | apply below_drew1 | refine below_set ?_ GE180.out | refine below_set ?_ GE181.out) | exact HB.out)) hb); have n3_ := Aside0.mk (hbox); have n4_ := Aside0.mk ((by rw [hg]; exact (below_size (by repeat (first | (with_reducible first | exact HB.out | apply below_alloc | apply pw_below_drewN | apply below_drew1 | refine below_set ?_ GE180.out | refine below_set ?_ GE181.out) | exact HB.out))) : w.heap.size ≤ gb199)); have n5_ := Aside0.mk ((by rw [hg]; exact (below_size (by repeat (first | (with_reducible first | exact HB.out | apply below_alloc | apply pw_below_drewN | apply below_drew1 | refine below_set ?_ GE180.out | refine below_set ?_ GE181.out) | exact HB.out))) : w.heap.size ≤ gb199)); have n6_ := Aside0.mk ((by rw [hg]; exact Nat.ne_of_lt (blk_lt (g := gb180) (o := .cells #[.int .i64 a1_0, .int .i64 a1_1, .int .i64 a1_2, .int .i64 a1_3, .int .i64 a1_4, .int .i64 a1_5] 31 (0, 0)) (by (with_reducible repeat (first | refine blk_drewN ?_ _ | refine blk_drew ?_ | refine blk_alloc ?_ _)); exact BK180.out)) : gb180 ≠ gb199)); have n7_ := Aside0.mk ((by rw [hg]; exact Nat.ne_of_gt (blk_lt (g := gb180) (o := .cells #[.int .i64 a1_0, .int .i64 a1_1, .int .i64 a1_2, .int .i64 a1_3, .int .i64 a1_4, .int .i64 a1_5] 31 (0, 0)) (by (with_reducible repeat (first | refine blk_drewN ?_ _ | refine blk_drew ?_ | refine blk_alloc ?_ _)); exact BK180.out)) : gb199 ≠ gb180)); have n8_ := Aside0.mk ((by rw [hg]; exact Nat.ne_of_lt (blk_lt (g := gb181) (o := .cells #[.int .i64 0, .string (⟨#[]⟩ : ByteArray), .int .i64 0, .int .i64 0, .int .i64 0, .int .i64 0, .int .i64 0, .int .i64 0, .bool false] 40 (0, 0)) (by (with_reducible repeat (first | refine blk_drewN ?_ _ | refine blk_drew ?_ | refine blk_alloc ?_ _)); exact BK181.out)) : gb181 ≠ gb199)); have n9_ := Aside0.mk ((by rw [hg]; exact Nat.ne_of_gt (blk_lt (g := gb181) (o := .cells #[.int .i64 0, .string (⟨#[]⟩ : ByteArray), .int .i64 0, .int .i64 0, .int .i64 0, .int .i64 0, .int .i64 0, .int .i64 0, .bool false] 40 (0, 0)) (by (with_reducible repeat (first | refine blk_drewN ?_ _ | refine blk_drew ?_ | refine blk_alloc ?_ _)); exact BK181.out)) : gb199 ≠ gb181)); clear BK180; clear BK181; clear HB; have BK180 := n0_; have BK181 := n1_; have HB := n2_; have BK199 := n3_; have GW199 := n4_; have GE199 := n5_; have NB180_199 := n6_; have NB199_180 := n7_; have NB181_199 := n8_; have NB199_181 := n9_; clear n0_ n1_ n2_ n3_ n4_ n5_ n6_ n7_ n8_ n9_; clear hb hbox hg; have hnb70 := NB199_180.out; have hnc70 := NB180_199.out; have hnb71 := NB199_181.out; have hnc71 := NB181_199.out; have hcz72_0 : w69.cell? ⟨gb199, 0, none⟩ = some (.int .i64 0) := (blk_cell BK199.out 0).trans rfl; have hcz72_1 : w69.cell? ⟨gb199, 1, none⟩ = some (.int .i64 0) := (blk_cell BK199.out 1).trans rfl; have hcz72_2 : w69.cell? ⟨gb199, 2, none⟩ = some (.bool false) := (blk_cell BK199.out 2).trans rfl; have hfz72_0 := blk_frozen BK199.out 0; have hfz72_1 := blk_frozen BK199.out 1; have hfz72_2 := blk_frozen BK199.out 2; have hnb73 := NB180_181.out; have hnc73 := NB181_180.out; have hcz74_0 : w69.cell? ⟨gb180, 0, none⟩ = some (.int .i64 a1_0) := (blk_cell BK180.out 0).trans rfl; have hcz74_1 : w69.cell? ⟨gb180, 1, none⟩ = some (.int .i64 a1_1) := (blk_cell BK180.out 1).trans rfl; have hcz74_2 : w69.cell? ⟨gb180, 2, none⟩ = some (.int .i64 a1_2) := (blk_cell BK180.out 2).trans rfl; have hcz74_3 : w69.cell? ⟨gb180, 3, none⟩ = some (.int .i64 a1_3) := (blk_cell BK180.out 3).trans rfl; have hcz74_4 : w69.cell? ⟨gb180, 4, none⟩ = some (.int .i64 a1_4) := (blk_cell BK180.out 4).trans rfl; have hcz74_5 : w69.cell? ⟨gb180, 5, none⟩ = some (.int .i64 a1_5) := (blk_cell BK180.out 5).trans rfl; have hfz74_0 := blk_frozen BK180.out 0; have hfz74_1 := blk_frozen BK180.out 1; have hfz74_2 := blk_frozen BK180.out 2; have hfz74_3 := blk_frozen BK180.out 3; have hfz74_4 := blk_frozen BK180.out 4; have hfz74_5 := blk_frozen BK180.out 5) | ((with_reducible refine gate_dst (N := 94) rfl ?_); (try (refine gate_guard (by rfl) ?_; dsimp only)); refine Kd.R_lit (Kd.int .i64) _ 2 ?hg (N := 94) ?hd (xs := ([(rd_T75 l3 x55_3).f0, (rd_T75 l3 x55_3).f1, Go.bits .or .i64 0 2, 0] : List Int)) (inner := [.int .i64 ((rd_T75 l3 x55_3).f0), .int .i64 ((rd_T75 l3 x55_3).f1), .int .i64 (Go.bits .or .i64 0 2), .int .i64 0]) (ok := fun _ => True) (okp := fun _ => True) ?hr ?hp (fun _ hk => hk) trivial (Below.refl _ _) (Nat.le_refl _) (by simp) ?_; (case hd => rfl); (case hg => rfl); (case hr => first | (go_simp; done) | (go_simp; rfl)); (case hp => exact (Reps.one (show Kd.M (Kd.int .i64) _ _ _ ((rd_T75 l3 x55_3).f0) [.int .i64 ((rd_T75 l3 x55_3).f0)] from rfl) (Reps.one (show Kd.M (Kd.int .i64) _ _ _ ((rd_T75 l3 x55_3).f1) [.int .i64 ((rd_T75 l3 x55_3).f1)] from rfl) (Reps.one (show Kd.M (Kd.int .i64) _ _ _ (Go.bits .or .i64 0 2) [.int .i64 (Go.bits .or .i64 0 2)] from rfl) (Reps.one (show Kd.M (Kd.int .i64) _ _ _ 0 [.int .i64 0] from rfl) (Reps.none _ _)))))); intro v205 w75 ho76 hb hg_ hnew_; clear hg_ hnew_; (first | rw [← Ny204.out] at ho76 | (simp only [Int.reduceToNat] at ho76; rw [← Ny204.out] at ho76)); have n0_ := Aside0.mk (Kd.R_lower ho76 (below_size (by repeat (first | (with_reducible first | exact HB.out | apply below_alloc | apply pw_below_drewN | apply below_drew1 | refine below_set ?_ GE180.out | refine below_set ?_ GE181.out | refine below_set ?_ GE199.out) | exact HB.out)))); have n1_ := Aside0.mk (blk_below (g := gb180) (o := .cells #[.int .i64 a1_0, .int .i64 a1_1, .int .i64 a1_2, .int .i64 a1_3, .int .i64 a1_4, .int .i64 a1_5] 31 (0, 0)) (by (with_reducible repeat (first | refine blk_drewN ?_ _ | refine blk_drew ?_ | refine blk_alloc ?_ _)); refine blk_far ?_ NB180_199.out _; (with_reducible repeat (first | refine blk_drewN ?_ _ | refine blk_drew ?_ | refine blk_alloc ?_ _)); refine blk_far ?_ NB180_199.out _; (with_reducible repeat (first | refine blk_drewN ?_ _ | refine blk_drew ?_ | refine blk_alloc ?_ _)); refine blk_far ?_ NB180_199.out _; (with_reducible repeat (first | refine blk_drewN ?_ _ | refine blk_drew ?_ | refine blk_alloc ?_ _)); exact BK180.out) hb); have n2_ := Aside0.mk (blk_below (g := gb181) (o := .cells #[.int .i64 0, .string (⟨#[]⟩ : ByteArray), .int .i64 0, .int .i64 0, .int .i64 0, .int .i64 0, .int .i64 0, .int .i64 0, .bool false] 40 (0, 0)) (by (with_reducible repeat (first | refine blk_drewN ?_ _ | refine blk_drew ?_ | refine blk_alloc ?_ _)); refine blk_far ?_ NB181_199.out _; (with_reducible repeat (first | refine blk_drewN ?_ _ | refine blk_drew ?_ | refine blk_alloc ?_ _)); refine blk_far ?_ NB181_199.out _; (with_reducible repeat (first | refine blk_drewN ?_ _ | refine blk_drew ?_ | refine blk_alloc ?_ _)); refine blk_far ?_ NB181_199.out _; (with_reducible repeat (first | refine blk_drewN ?_ _ | refine blk_drew ?_ | refine blk_alloc ?_ _)); exact BK181.out) hb); have n3_ := Aside0.mk (blk_below (g := gb199) (o := .cells #[.int .i64 ((rd_T75 l3 x55_3).f0), .int .i64 ((rd_T75 l3 x55_3).f1), .bool true] 75 (0, 0)) (by (with_reducible repeat (first | refine blk_drewN ?_ _ | refine blk_drew ?_ | refine blk_alloc ?_ _)); refine blk_put (cs := #[.int .i64 ((rd_T75 l3 x55_3).f0), .int .i64 ((rd_T75 l3 x55_3).f1), .bool false]) ?_ 2 _ rfl; (with_reducible repeat (first | refine blk_drewN ?_ _ | refine blk_drew ?_ | refine blk_alloc ?_ _)); refine blk_put (cs := #[.int .i64 ((rd_T75 l3 x55_3).f0), .int .i64 0, .bool false]) ?_ 1 _ rfl; (with_reducible repeat (first | refine blk_drewN ?_ _ | refine blk_drew ?_ | refine blk_alloc ?_ _)); refine blk_put (cs := #[.int .i64 0, .int .i64 0, .bool false]) ?_ 0 _ rfl; (with_reducible repeat (first | refine blk_drewN ?_ _ | refine blk_drew ?_ | refine blk_alloc ?_ _)); exact BK199.out) hb); have n4_ := Aside0.mk (below_step (by repeat (first | (with_reducible first | exact HB.out | apply below_alloc | apply pw_below_drewN | apply below_drew1 | refine below_set ?_ GE180.out | refine below_set ?_ GE181.out | refine below_set ?_ GE199.out) | exact HB.out)) hb); clear BK180; clear BK181; clear BK199; clear HB; have HO206 := n0_; have BK180 := n1_; have BK181 := n2_; have BK199 := n3_; have HB := n4_; clear n0_ n1_ n2_ n3_ n4_; clear hb ho76; obtain ⟨Ao77, co77, eo77⟩ := Kd.R_slice HO206.out; subst eo77) | ((with_reducible refine gate_callee (f := 73) rfl ?_); refine goesL_ (some 95) rfl rfl Try.func73 (by kernel_rfl) rfl #[.string x0_3, .int .i64 (wrap64 (a1_1 + (wrap64 (16 * (Int.tmod (wrap64 (a2 + x55_3)) a1_0))))), .slice Ao77 y204.length co77] rfl (by (try simp only [List.map_toArray, List.map_cons, List.map_nil]); first | done | rfl | (simp only [List.length_drop, List.length_take]; rfl)) ?_; (with_reducible refine (impl_yset.calls k3 x0_3 (wrap64 (a1_1 + (wrap64 (16 * (Int.tmod (wrap64 (a2 + x55_3)) a1_0))))) _ _ y204 t207 _ ?side1 ?side2 A68.out).mono ?_); (case side1 => repeat (first | exact (Kd.R_reads' HO206.out).2.2 | (with_reducible refine Kd.C_alloc ?_ _) | (with_reducible refine Kd.C_drewN ?_ _) | (with_reducible refine Kd.C_drew ?_))); (case side2 => exact (Kd.R_reads' HO206.out).2.1); rintro e w78 ⟨rfl, hb⟩; refine ⟨_, rfl, ?_⟩; have n0_ := Aside0.mk (Kd.R_below (by (with_reducible repeat (first | apply Kd.R_alloc | apply Kd.R_drewN | apply Kd.R_drew)); exact HO206.out) hb); have n1_ := Aside0.mk (blk_below (g := gb180) (o := .cells #[.int .i64 a1_0, .int .i64 a1_1, .int .i64 a1_2, .int .i64 a1_3, .int .i64 a1_4, .int .i64 a1_5] 31 (0, 0)) (by (with_reducible repeat (first | refine blk_drewN ?_ _ | refine blk_drew ?_ | refine blk_alloc ?_ _)); exact BK180.out) hb); have n2_ := Aside0.mk (blk_below (g := gb181) (o := .cells #[.int .i64 0, .string (⟨#[]⟩ : ByteArray), .int .i64 0, .int .i64 0, .int .i64 0, .int .i64 0, .int .i64 0, .int .i64 0, .bool false] 40 (0, 0)) (by (with_reducible repeat (first | refine blk_drewN ?_ _ | refine blk_drew ?_ | refine blk_alloc ?_ _)); exact BK181.out) hb); have n3_ := Aside0.mk (blk_below (g := gb199) (o := .cells #[.int .i64 ((rd_T75 l3 x55_3).f0), .int .i64 ((rd_T75 l3 x55_3).f1), .bool true] 75 (0, 0)) (by (with_reducible repeat (first | refine blk_drewN ?_ _ | refine blk_drew ?_ | refine blk_alloc ?_ _)); exact BK199.out) hb); have n4_ := Aside0.mk (below_step (by repeat (first | (with_reducible first | exact HB.out | apply below_alloc | apply pw_below_drewN | apply below_drew1 | refine below_set ?_ GE180.out | refine below_set ?_ GE181.out | refine below_set ?_ GE199.out) | exact HB.out)) hb); clear HO206; clear BK180; clear BK181; clear BK199; clear HB; have HO206 := n0_; have BK180 := n1_; have BK181 := n2_; have BK199 := n3_; have HB := n4_; clear n0_ n1_ n2_ n3_ n4_; (try clear hb); (try clear hb2); (try clear hk); (try clear hi)))
                              go_roundg k3
                              case measure => have := HJ4.out; have := HJ18.out; have := HK3.out; omega
                              case rel => exact ⟨(t207), (wrap64 (x55_3 + 1)), (by first | rfl | (simp; done) | (simp [*]; done)), (by first | rfl | (simp; done) | (simp [*]; done)), H', ⟨by have := HJ4.out; have := HJ18.out; have := HK3.out; omega⟩, ⟨by (with_reducible repeat (first | refine blk_drewN ?_ _ | refine blk_drew ?_ | refine blk_alloc ?_ _)); exact BK180.out⟩, ⟨by (with_reducible repeat (first | refine blk_drewN ?_ _ | refine blk_drew ?_ | refine blk_alloc ?_ _)); exact BK181.out⟩, ⟨by repeat (first | (with_reducible first | exact HB.out | apply below_alloc | apply pw_below_drewN | apply below_drew1 | refine below_set ?_ GE180.out | refine below_set ?_ GE181.out | refine below_set ?_ GE199.out) | exact HB.out)⟩⟩
                          · replace c55 := Bool.eq_false_iff.mpr c55
                            subst c55
                            have H1 : (if x55_3 < (wrap64 ((l3.length : Int) - 1)) then ((impl_yset.f k3 x0_3 (wrap64 (a1_1 + (wrap64 (16 * (Int.tmod (wrap64 (a2 + x55_3)) a1_0))))) (([(rd_T75 l3 x55_3).f0, (rd_T75 l3 x55_3).f1, Go.bits .or .i64 0 1, Int.tmod (wrap64 ((Int.tmod (wrap64 (a2 + x55_3)) a1_0) + 1)) a1_0] : List Int))).bind fun t211 => (impl_PostChain.l0 k3 t211 a2 l3 l3 (l3.length : Int) (wrap64 (x55_3 + 1)) a1_0 a1_1 a1_2 a1_3 a1_4 a1_5)) else ((impl_yset.f k3 x0_3 (wrap64 (a1_1 + (wrap64 (16 * (Int.tmod (wrap64 (a2 + x55_3)) a1_0))))) (([(rd_T75 l3 x55_3).f0, (rd_T75 l3 x55_3).f1, 0, 0] : List Int))).bind fun t215 => (impl_PostChain.l0 k3 t215 a2 l3 l3 (l3.length : Int) (wrap64 (x55_3 + 1)) a1_0 a1_1 a1_2 a1_3 a1_4 a1_5))) = some (r1, r2, r3, r4, r5, r6, r7, r8, r9) := by rw [if_neg (show ¬ (false = true) by decide)] at H; exact H
                            clear H
                            have H := H1
                            clear H1
                            by_cases c79 : x55_3 < (wrap64 ((l3.length : Int) - 1))
                            · rw [if_pos c79] at H
                              have c79b0 : decide (x55_3 < (wrap64 ((l3.length : Int) - 1))) = true := decide_eq_true c79
                              clear c79
                              obtain ⟨y208, hy208⟩ : ∃ y_ : List Int, y_ = (([(rd_T75 l3 x55_3).f0, (rd_T75 l3 x55_3).f1, Go.bits .or .i64 0 1, Int.tmod (wrap64 ((Int.tmod (wrap64 (a2 + x55_3)) a1_0) + 1)) a1_0] : List Int)) := ⟨_, rfl⟩
                              replace H : ((impl_yset.f k3 x0_3 (wrap64 (a1_1 + (wrap64 (16 * (Int.tmod (wrap64 (a2 + x55_3)) a1_0))))) y208).bind fun t211 => (impl_PostChain.l0 k3 t211 a2 l3 l3 (l3.length : Int) (wrap64 (x55_3 + 1)) a1_0 a1_1 a1_2 a1_3 a1_4 a1_5)) = some (r1, r2, r3, r4, r5, r6, r7, r8, r9) := by first | (rw [hy208]; with_reducible exact H) | (have H2_ := (Option.bind_some _ _).symm.trans H; rw [hy208]; with_reducible exact H2_) | (have H2_ := (Option.bind_some _ _).symm.trans H; with_reducible exact H2_) | with_reducible exact H | (rw [hy208]; exact H) | exact H
                              have Ny208 := Aside0.mk hy208
                              clear hy208
                              replace H := Option.bind_eq_some_iff.mp H
                              obtain ⟨t211, A800, H⟩ := H
                              replace H : (impl_PostChain.l0 k3 t211 a2 l3 l3 (l3.length : Int) (wrap64 (x55_3 + 1)) a1_0 a1_1 a1_2 a1_3 a1_4 a1_5) = some (r1, r2, r3, r4, r5, r6, r7, r8, r9) := H
                              have A80 := Aside0.mk A800
                              clear A800
                              have H' := Aside0.mk H
                              clear H
                              have p198 : 0 ≤ (x55_3 : Int) := of_decide_eq_true (by first | (with_reducible assumption) | assumption)
                              have q198 : x55_3 < (l3.length : Int) := of_decide_eq_true (by first | (with_reducible assumption) | assumption)
                              obtain ⟨ad198, e198, hx198_0, hx198_1, hx198_2⟩ := at_T75 HR3.out x55_3 p198 q198
                              (try rw [← Nbq54.out] at hx198_2)
                              cases e198
                              replace hx198_0 := (HB.out.cell (World.block_lt_of_cell? w _ hx198_0)).trans hx198_0
                              replace hx198_1 := (HB.out.cell (World.block_lt_of_cell? w _ hx198_1)).trans hx198_1
                              replace hx198_2 := (HB.out.cell (World.block_lt_of_cell? w _ hx198_2)).trans hx198_2
                              replace p198 := eq_true p198
                              replace q198 := eq_true q198
                              go_wp2_with (first | ((with_reducible refine gate_dst (N := 10) rfl ?_); (try (refine gate_guard (by rfl) ?_; dsimp only)); refine box_event ?hg (N := 10) ?hd (cs := #[.int .i64 0, .int .i64 0, .bool false]) (t := 75) ?hr ?_; (case hd => rfl); (case hg => rfl); (case hr => first | (go_simp; done) | (go_simp; rfl)); intro gb199 hg w81 hbox hb; have n0_ := Aside0.mk (blk_below (g := gb180) (o := .cells #[.int .i64 a1_0, .int .i64 a1_1, .int .i64 a1_2, .int .i64 a1_3, .int .i64 a1_4, .int .i64 a1_5] 31 (0, 0)) (by (with_reducible repeat (first | refine blk_drewN ?_ _ | refine blk_drew ?_ | refine blk_alloc ?_ _)); exact BK180.out) hb); have n1_ := Aside0.mk (blk_below (g := gb181) (o := .cells #[.int .i64 0, .string (⟨#[]⟩ : ByteArray), .int .i64 0, .int .i64 0, .int .i64 0, .int .i64 0, .int .i64 0, .int .i64 0, .bool false] 40 (0, 0)) (by (with_reducible repeat (first | refine blk_drewN ?_ _ | refine blk_drew ?_ | refine blk_alloc ?_ _)); exact BK181.out) hb); have n2_ := Aside0.mk (below_step (by repeat (first | (with_reducible first | exact HB.out | apply below_alloc | apply pw_below_drewN | apply below_drew1 | refine below_set ?_ GE180.out | refine below_set ?_ GE181.out) | exact HB.out)) hb); have n3_ := Aside0.mk (hbox); have n4_ := Aside0.mk ((by rw [hg]; exact (below_size (by repeat (first | (with_reducible first | exact HB.out | apply below_alloc | apply pw_below_drewN | apply below_drew1 | refine below_set ?_ GE180.out | refine below_set ?_ GE181.out) | exact HB.out))) : w.heap.size ≤ gb199)); have n5_ := Aside0.mk ((by rw [hg]; exact (below_size (by repeat (first | (with_reducible first | exact HB.out | apply below_alloc | apply pw_below_drewN | apply below_drew1 | refine below_set ?_ GE180.out | refine below_set ?_ GE181.out) | exact HB.out))) : w.heap.size ≤ gb199)); have n6_ := Aside0.mk ((by rw [hg]; exact Nat.ne_of_lt (blk_lt (g := gb180) (o := .cells #[.int .i64 a1_0, .int .i64 a1_1, .int .i64 a1_2, .int .i64 a1_3, .int .i64 a1_4, .int .i64 a1_5] 31 (0, 0)) (by (with_reducible repeat (first | refine blk_drewN ?_ _ | refine blk_drew ?_ | refine blk_alloc ?_ _)); exact BK180.out)) : gb180 ≠ gb199)); have n7_ := Aside0.mk ((by rw [hg]; exact Nat.ne_of_gt (blk_lt (g := gb180) (o := .cells #[.int .i64 a1_0, .int .i64 a1_1, .int .i64 a1_2, .int .i64 a1_3, .int .i64 a1_4, .int .i64 a1_5] 31 (0, 0)) (by (with_reducible repeat (first | refine blk_drewN ?_ _ | refine blk_drew ?_ | refine blk_alloc ?_ _)); exact BK180.out)) : gb199 ≠ gb180)); have n8_ := Aside0.mk ((by rw [hg]; exact Nat.ne_of_lt (blk_lt (g := gb181) (o := .cells #[.int .i64 0, .string (⟨#[]⟩ : ByteArray), .int .i64 0, .int .i64 0, .int .i64 0, .int .i64 0, .int .i64 0, .int .i64 0, .bool false] 40 (0, 0)) (by (with_reducible repeat (first | refine blk_drewN ?_ _ | refine blk_drew ?_ | refine blk_alloc ?_ _)); exact BK181.out)) : gb181 ≠ gb199)); have n9_ := Aside0.mk ((by rw [hg]; exact Nat.ne_of_gt (blk_lt (g := gb181) (o := .cells #[.int .i64 0, .string (⟨#[]⟩ : ByteArray), .int .i64 0, .int .i64 0, .int .i64 0, .int .i64 0, .int .i64 0, .int .i64 0, .bool false] 40 (0, 0)) (by (with_reducible repeat (first | refine blk_drewN ?_ _ | refine blk_drew ?_ | refine blk_alloc ?_ _)); exact BK181.out)) : gb199 ≠ gb181)); clear BK180; clear BK181; clear HB; have BK180 := n0_; have BK181 := n1_; have HB := n2_; have BK199 := n3_; have GW199 := n4_; have GE199 := n5_; have NB180_199 := n6_; have NB199_180 := n7_; have NB181_199 := n8_; have NB199_181 := n9_; clear n0_ n1_ n2_ n3_ n4_ n5_ n6_ n7_ n8_ n9_; clear hb hbox hg; have hnb82 := NB199_180.out; have hnc82 := NB180_199.out; have hnb83 := NB199_181.out; have hnc83 := NB181_199.out; have hcz84_0 : w81.cell? ⟨gb199, 0, none⟩ = some (.int .i64 0) := (blk_cell BK199.out 0).trans rfl; have hcz84_1 : w81.cell? ⟨gb199, 1, none⟩ = some (.int .i64 0) := (blk_cell BK199.out 1).trans rfl; have hcz84_2 : w81.cell? ⟨gb199, 2, none⟩ = some (.bool false) := (blk_cell BK199.out 2).trans rfl; have hfz84_0 := blk_frozen BK199.out 0; have hfz84_1 := blk_frozen BK199.out 1; have hfz84_2 := blk_frozen BK199.out 2; have hnb85 := NB180_181.out; have hnc85 := NB181_180.out; have hcz86_0 : w81.cell? ⟨gb180, 0, none⟩ = some (.int .i64 a1_0) := (blk_cell BK180.out 0).trans rfl; have hcz86_1 : w81.cell? ⟨gb180, 1, none⟩ = some (.int .i64 a1_1) := (blk_cell BK180.out 1).trans rfl; have hcz86_2 : w81.cell? ⟨gb180, 2, none⟩ = some (.int .i64 a1_2) := (blk_cell BK180.out 2).trans rfl; have hcz86_3 : w81.cell? ⟨gb180, 3, none⟩ = some (.int .i64 a1_3) := (blk_cell BK180.out 3).trans rfl; have hcz86_4 : w81.cell? ⟨gb180, 4, none⟩ = some (.int .i64 a1_4) := (blk_cell BK180.out 4).trans rfl; have hcz86_5 : w81.cell? ⟨gb180, 5, none⟩ = some (.int .i64 a1_5) := (blk_cell BK180.out 5).trans rfl; have hfz86_0 := blk_frozen BK180.out 0; have hfz86_1 := blk_frozen BK180.out 1; have hfz86_2 := blk_frozen BK180.out 2; have hfz86_3 := blk_frozen BK180.out 3; have hfz86_4 := blk_frozen BK180.out 4; have hfz86_5 := blk_frozen BK180.out 5) | ((with_reducible refine gate_dst (N := 94) rfl ?_); (try (refine gate_guard (by rfl) ?_; dsimp only)); refine Kd.R_lit (Kd.int .i64) _ 2 ?hg (N := 94) ?hd (xs := ([(rd_T75 l3 x55_3).f0, (rd_T75 l3 x55_3).f1, Go.bits .or .i64 0 1, Int.tmod (wrap64 ((Int.tmod (wrap64 (a2 + x55_3)) a1_0) + 1)) a1_0] : List Int)) (inner := [.int .i64 ((rd_T75 l3 x55_3).f0), .int .i64 ((rd_T75 l3 x55_3).f1), .int .i64 (Go.bits .or .i64 0 1), .int .i64 (Int.tmod (wrap64 ((Int.tmod (wrap64 (a2 + x55_3)) a1_0) + 1)) a1_0)]) (ok := fun _ => True) (okp := fun _ => True) ?hr ?hp (fun _ hk => hk) trivial (Below.refl _ _) (Nat.le_refl _) (by simp) ?_; (case hd => rfl); (case hg => rfl); (case hr => first | (go_simp; done) | (go_simp; rfl)); (case hp => exact (Reps.one (show Kd.M (Kd.int .i64) _ _ _ ((rd_T75 l3 x55_3).f0) [.int .i64 ((rd_T75 l3 x55_3).f0)] from rfl) (Reps.one (show Kd.M (Kd.int .i64) _ _ _ ((rd_T75 l3 x55_3).f1) [.int .i64 ((rd_T75 l3 x55_3).f1)] from rfl) (Reps.one (show Kd.M (Kd.int .i64) _ _ _ (Go.bits .or .i64 0 1) [.int .i64 (Go.bits .or .i64 0 1)] from rfl) (Reps.one (show Kd.M (Kd.int .i64) _ _ _ (Int.tmod (wrap64 ((Int.tmod (wrap64 (a2 + x55_3)) a1_0) + 1)) a1_0) [.int .i64 (Int.tmod (wrap64 ((Int.tmod (wrap64 (a2 + x55_3)) a1_0) + 1)) a1_0)] from rfl) (Reps.none _ _)))))); intro v209 w87 ho88 hb hg_ hnew_; clear hg_ hnew_; (first | rw [← Ny208.out] at ho88 | (simp only [Int.reduceToNat] at ho88; rw [← Ny208.out] at ho88)); have n0_ := Aside0.mk (Kd.R_lower ho88 (below_size (by repeat (first | (with_reducible first | exact HB.out | apply below_alloc | apply pw_below_drewN | apply below_drew1 | refine below_set ?_ GE180.out | refine below_set ?_ GE181.out | refine below_set ?_ GE199.out) | exact HB.out)))); have n1_ := Aside0.mk (blk_below (g := gb180) (o := .cells #[.int .i64 a1_0, .int .i64 a1_1, .int .i64 a1_2, .int .i64 a1_3, .int .i64 a1_4, .int .i64 a1_5] 31 (0, 0)) (by (with_reducible repeat (first | refine blk_drewN ?_ _ | refine blk_drew ?_ | refine blk_alloc ?_ _)); refine blk_far ?_ NB180_199.out _; (with_reducible repeat (first | refine blk_drewN ?_ _ | refine blk_drew ?_ | refine blk_alloc ?_ _)); refine blk_far ?_ NB180_199.out _; (with_reducible repeat (first | refine blk_drewN ?_ _ | refine blk_drew ?_ | refine blk_alloc ?_ _)); refine blk_far ?_ NB180_199.out _; (with_reducible repeat (first | refine blk_drewN ?_ _ | refine blk_drew ?_ | refine blk_alloc ?_ _)); exact BK180.out) hb); have n2_ := Aside0.mk (blk_below (g := gb181) (o := .cells #[.int .i64 0, .string (⟨#[]⟩ : ByteArray), .int .i64 0, .int .i64 0, .int .i64 0, .int .i64 0, .int .i64 0, .int .i64 0, .bool false] 40 (0, 0)) (by (with_reducible repeat (first | refine blk_drewN ?_ _ | refine blk_drew ?_ | refine blk_alloc ?_ _)); refine blk_far ?_ NB181_199.out _; (with_reducible repeat (first | refine blk_drewN ?_ _ | refine blk_drew ?_ | refine blk_alloc ?_ _)); refine blk_far ?_ NB181_199.out _; (with_reducible repeat (first | refine blk_drewN ?_ _ | refine blk_drew ?_ | refine blk_alloc ?_ _)); refine blk_far ?_ NB181_199.out _; (with_reducible repeat (first | refine blk_drewN ?_ _ | refine blk_drew ?_ | refine blk_alloc ?_ _)); exact BK181.out) hb); have n3_ := Aside0.mk (blk_below (g := gb199) (o := .cells #[.int .i64 ((rd_T75 l3 x55_3).f0), .int .i64 ((rd_T75 l3 x55_3).f1), .bool false] 75 (0, 0)) (by (with_reducible repeat (first | refine blk_drewN ?_ _ | refine blk_drew ?_ | refine blk_alloc ?_ _)); refine blk_put (cs := #[.int .i64 ((rd_T75 l3 x55_3).f0), .int .i64 ((rd_T75 l3 x55_3).f1), .bool false]) ?_ 2 _ rfl; (with_reducible repeat (first | refine blk_drewN ?_ _ | refine blk_drew ?_ | refine blk_alloc ?_ _)); refine blk_put (cs := #[.int .i64 ((rd_T75 l3 x55_3).f0), .int .i64 0, .bool false]) ?_ 1 _ rfl; (with_reducible repeat (first | refine blk_drewN ?_ _ | refine blk_drew ?_ | refine blk_alloc ?_ _)); refine blk_put (cs := #[.int .i64 0, .int .i64 0, .bool false]) ?_ 0 _ rfl; (with_reducible repeat (first | refine blk_drewN ?_ _ | refine blk_drew ?_ | refine blk_alloc ?_ _)); exact BK199.out) hb); have n4_ := Aside0.mk (below_step (by repeat (first | (with_reducible first | exact HB.out | apply below_alloc | apply pw_below_drewN | apply below_drew1 | refine below_set ?_ GE180.out | refine below_set ?_ GE181.out | refine below_set ?_ GE199.out) | exact HB.out)) hb); clear BK180; clear BK181; clear BK199; clear HB; have HO210 := n0_; have BK180 := n1_; have BK181 := n2_; have BK199 := n3_; have HB := n4_; clear n0_ n1_ n2_ n3_ n4_; clear hb ho88; obtain ⟨Ao89, co89, eo89⟩ := Kd.R_slice HO210.out; subst eo89) | ((with_reducible refine gate_callee (f := 73) rfl ?_); refine goesL_ (some 95) rfl rfl Try.func73 (by kernel_rfl) rfl #[.string x0_3, .int .i64 (wrap64 (a1_1 + (wrap64 (16 * (Int.tmod (wrap64 (a2 + x55_3)) a1_0))))), .slice Ao89 y208.length co89] rfl (by (try simp only [List.map_toArray, List.map_cons, List.map_nil]); first | done | rfl | (simp only [List.length_drop, List.length_take]; rfl)) ?_; (with_reducible refine (impl_yset.calls k3 x0_3 (wrap64 (a1_1 + (wrap64 (16 * (Int.tmod (wrap64 (a2 + x55_3)) a1_0))))) _ _ y208 t211 _ ?side1 ?side2 A80.out).mono ?_); (case side1 => repeat (first | exact (Kd.R_reads' HO210.out).2.2 | (with_reducible refine Kd.C_alloc ?_ _) | (with_reducible refine Kd.C_drewN ?_ _) | (with_reducible refine Kd.C_drew ?_))); (case side2 => exact (Kd.R_reads' HO210.out).2.1); rintro e w90 ⟨rfl, hb⟩; refine ⟨_, rfl, ?_⟩; have n0_ := Aside0.mk (Kd.R_below (by (with_reducible repeat (first | apply Kd.R_alloc | apply Kd.R_drewN | apply Kd.R_drew)); exact HO210.out) hb); have n1_ := Aside0.mk (blk_below (g := gb180) (o := .cells #[.int .i64 a1_0, .int .i64 a1_1, .int .i64 a1_2, .int .i64 a1_3, .int .i64 a1_4, .int .i64 a1_5] 31 (0, 0)) (by (with_reducible repeat (first | refine blk_drewN ?_ _ | refine blk_drew ?_ | refine blk_alloc ?_ _)); exact BK180.out) hb); have n2_ := Aside0.mk (blk_below (g := gb181) (o := .cells #[.int .i64 0, .string (⟨#[]⟩ : ByteArray), .int .i64 0, .int .i64 0, .int .i64 0, .int .i64 0, .int .i64 0, .int .i64 0, .bool false] 40 (0, 0)) (by (with_reducible repeat (first | refine blk_drewN ?_ _ | refine blk_drew ?_ | refine blk_alloc ?_ _)); exact BK181.out) hb); have n3_ := Aside0.mk (blk_below (g := gb199) (o := .cells #[.int .i64 ((rd_T75 l3 x55_3).f0), .int .i64 ((rd_T75 l3 x55_3).f1), .bool false] 75 (0, 0)) (by (with_reducible repeat (first | refine blk_drewN ?_ _ | refine blk_drew ?_ | refine blk_alloc ?_ _)); exact BK199.out) hb); have n4_ := Aside0.mk (below_step (by repeat (first | (with_reducible first | exact HB.out | apply below_alloc | apply pw_below_drewN | apply below_drew1 | refine below_set ?_ GE180.out | refine below_set ?_ GE181.out | refine below_set ?_ GE199.out) | exact HB.out)) hb); clear HO210; clear BK180; clear BK181; clear BK199; clear HB; have HO210 := n0_; have BK180 := n1_; have BK181 := n2_; have BK199 := n3_; have HB := n4_; clear n0_ n1_ n2_ n3_ n4_; (try clear hb); (try clear hb2); (try clear hk); (try clear hi)))
                              go_roundg k3
                              case measure => have := HJ4.out; have := HJ18.out; have := HK3.out; omega
                              case rel => exact ⟨(t211), (wrap64 (x55_3 + 1)), (by first | rfl | (simp; done) | (simp [*]; done)), (by first | rfl | (simp; done) | (simp [*]; done)), H', ⟨by have := HJ4.out; have := HJ18.out; have := HK3.out; omega⟩, ⟨by (with_reducible repeat (first | refine blk_drewN ?_ _ | refine blk_drew ?_ | refine blk_alloc ?_ _)); exact BK180.out⟩, ⟨by (with_reducible repeat (first | refine blk_drewN ?_ _ | refine blk_drew ?_ | refine blk_alloc ?_ _)); exact BK181.out⟩, ⟨by repeat (first | (with_reducible first | exact HB.out | apply below_alloc | apply pw_below_drewN | apply below_drew1 | refine below_set ?_ GE180.out | refine below_set ?_ GE181.out | refine below_set ?_ GE199.out) | exact HB.out)⟩⟩
                            · rw [if_neg c79] at H
                              have c79b0 : decide (x55_3 < (wrap64 ((l3.length : Int) - 1))) = false := decide_eq_false c79
                              clear c79
                              obtain ⟨y212, hy212⟩ : ∃ y_ : List Int, y_ = (([(rd_T75 l3 x55_3).f0, (rd_T75 l3 x55_3).f1, 0, 0] : List Int)) := ⟨_, rfl⟩
                              replace H : ((impl_yset.f k3 x0_3 (wrap64 (a1_1 + (wrap64 (16 * (Int.tmod (wrap64 (a2 + x55_3)) a1_0))))) y212).bind fun t215 => (impl_PostChain.l0 k3 t215 a2 l3 l3 (l3.length : Int) (wrap64 (x55_3 + 1)) a1_0 a1_1 a1_2 a1_3 a1_4 a1_5)) = some (r1, r2, r3, r4, r5, r6, r7, r8, r9) := by first | (rw [hy212]; with_reducible exact H) | (have H2_ := (Option.bind_some _ _).symm.trans H; rw [hy212]; with_reducible exact H2_) | (have H2_ := (Option.bind_some _ _).symm.trans H; with_reducible exact H2_) | with_reducible exact H | (rw [hy212]; exact H) | exact H
                              have Ny212 := Aside0.mk hy212
                              clear hy212
                              replace H := Option.bind_eq_some_iff.mp H
                              obtain ⟨t215, A910, H⟩ := H
                              replace H : (impl_PostChain.l0 k3 t215 a2 l3 l3 (l3.length : Int) (wrap64 (x55_3 + 1)) a1_0 a1_1 a1_2 a1_3 a1_4 a1_5) = some (r1, r2, r3, r4, r5, r6, r7, r8, r9) := H
                              have A91 := Aside0.mk A910
                              clear A910
                              have H' := Aside0.mk H
                              clear H
                              have p198 : 0 ≤ (x55_3 : Int) := of_decide_eq_true (by first | (with_reducible assumption) | assumption)
                              have q198 : x55_3 < (l3.length : Int) := of_decide_eq_true (by first | (with_reducible assumption) | assumption)
                              obtain ⟨ad198, e198, hx198_0, hx198_1, hx198_2⟩ := at_T75 HR3.out x55_3 p198 q198
                              (try rw [← Nbq54.out] at hx198_2)
                              cases e198
                              replace hx198_0 := (HB.out.cell (World.block_lt_of_cell? w _ hx198_0)).trans hx198_0
                              replace hx198_1 := (HB.out.cell (World.block_lt_of_cell? w _ hx198_1)).trans hx198_1
                              replace hx198_2 := (HB.out.cell (World.block_lt_of_cell? w _ hx198_2)).trans hx198_2
                              replace p198 := eq_true p198
                              replace q198 := eq_true q198
                              go_wp2_with (first | ((with_reducible refine gate_dst (N := 10) rfl ?_); (try (refine gate_guard (by rfl) ?_; dsimp only)); refine box_event ?hg (N := 10) ?hd (cs := #[.int .i64 0, .int .i64 0, .bool false]) (t := 75) ?hr ?_; (case hd => rfl); (case hg => rfl); (case hr => first | (go_simp; done) | (go_simp; rfl)); intro gb199 hg w92 hbox hb; have n0_ := Aside0.mk (blk_below (g := gb180) (o := .cells #[.int .i64 a1_0, .int .i64 a1_1, .int .i64 a1_2, .int .i64 a1_3, .int .i64 a1_4, .int .i64 a1_5] 31 (0, 0)) (by (with_reducible repeat (first | refine blk_drewN ?_ _ | refine blk_drew ?_ | refine blk_alloc ?_ _)); exact BK180.out) hb); have n1_ := Aside0.mk (blk_below (g := gb181) (o := .cells #[.int .i64 0, .string (⟨#[]⟩ : ByteArray), .int .i64 0, .int .i64 0, .int .i64 0, .int .i64 0, .int .i64 0, .int .i64 0, .bool false] 40 (0, 0)) (by (with_reducible repeat (first | refine blk_drewN ?_ _ | refine blk_drew ?_ | refine blk_alloc ?_ _)); exact BK181.out) hb); have n2_ := Aside0.mk (below_step (by repeat (first | (with_reducible first | exact HB.out | apply below_alloc | apply pw_below_drewN | apply below_drew1 | refine below_set ?_ GE180.out | refine below_set ?_ GE181.out) | exact HB.out)) hb); have n3_ := Aside0.mk (hbox); have n4_ := Aside0.mk ((by rw [hg]; exact (below_size (by repeat (first | (with_reducible first | exact HB.out | apply below_alloc | apply pw_below_drewN | apply below_drew1 | refine below_set ?_ GE180.out | refine below_set ?_ GE181.out) | exact HB.out))) : w.heap.size ≤ gb199)); have n5_ := Aside0.mk ((by rw [hg]; exact (below_size (by repeat (first | (with_reducible first | exact HB.out | apply below_alloc | apply pw_below_drewN | apply below_drew1 | refine below_set ?_ GE180.out | refine below_set ?_ GE181.out) | exact HB.out))) : w.heap.size ≤ gb199)); have n6_ := Aside0.mk ((by rw [hg]; exact Nat.ne_of_lt (blk_lt (g := gb180) (o := .cells #[.int .i64 a1_0, .int .i64 a1_1, .int .i64 a1_2, .int .i64 a1_3, .int .i64 a1_4, .int .i64 a1_5] 31 (0, 0)) (by (with_reducible repeat (first | refine blk_drewN ?_ _ | refine blk_drew ?_ | refine blk_alloc ?_ _)); exact BK180.out)) : gb180 ≠ gb199)); have n7_ := Aside0.mk ((by rw [hg]; exact Nat.ne_of_gt (blk_lt (g := gb180) (o := .cells #[.int .i64 a1_0, .int .i64 a1_1, .int .i64 a1_2, .int .i64 a1_3, .int .i64 a1_4, .int .i64 a1_5] 31 (0, 0)) (by (with_reducible repeat (first | refine blk_drewN ?_ _ | refine blk_drew ?_ | refine blk_alloc ?_ _)); exact BK180.out)) : gb199 ≠ gb180)); have n8_ := Aside0.mk ((by rw [hg]; exact Nat.ne_of_lt (blk_lt (g := gb181) (o := .cells #[.int .i64 0, .string (⟨#[]⟩ : ByteArray), .int .i64 0, .int .i64 0, .int .i64 0, .int .i64 0, .int .i64 0, .int .i64 0, .bool false] 40 (0, 0)) (by (with_reducible repeat (first | refine blk_drewN ?_ _ | refine blk_drew ?_ | refine blk_alloc ?_ _)); exact BK181.out)) : gb181 ≠ gb199)); have n9_ := Aside0.mk ((by rw [hg]; exact Nat.ne_of_gt (blk_lt (g := gb181) (o := .cells #[.int .i64 0, .string (⟨#[]⟩ : ByteArray), .int .i64 0, .int .i64 0, .int .i64 0, .int .i64 0, .int .i64 0, .int .i64 0, .bool false] 40 (0, 0)) (by (with_reducible repeat (first | refine blk_drewN ?_ _ | refine blk_drew ?_ | refine blk_alloc ?_ _)); exact BK181.out)) : gb199 ≠ gb181)); clear BK180; clear BK181; clear HB; have BK180 := n0_; have BK181 := n1_; have HB := n2_; have BK199 := n3_; have GW199 := n4_; have GE199 := n5_; have NB180_199 := n6_; have NB199_180 := n7_; have NB181_199 := n8_; have NB199_181 := n9_; clear n0_ n1_ n2_ n3_ n4_ n5_ n6_ n7_ n8_ n9_; clear hb hbox hg; have hnb93 := NB199_180.out; have hnc93 := NB180_199.out; have hnb94 := NB199_181.out; have hnc94 := NB181_199.out; have hcz95_0 : w92.cell? ⟨gb199, 0, none⟩ = some (.int .i64 0) := (blk_cell BK199.out 0).trans rfl; have hcz95_1 : w92.cell? ⟨gb199, 1, none⟩ = some (.int .i64 0) := (blk_cell BK199.out 1).trans rfl; have hcz95_2 : w92.cell? ⟨gb199, 2, none⟩ = some (.bool false) := (blk_cell BK199.out 2).trans rfl; have hfz95_0 := blk_frozen BK199.out 0; have hfz95_1 := blk_frozen BK199.out 1; have hfz95_2 := blk_frozen BK199.out 2; have hnb96 := NB180_181.out; have hnc96 := NB181_180.out; have hcz97_0 : w92.cell? ⟨gb180, 0, none⟩ = some (.int .i64 a1_0) := (blk_cell BK180.out 0).trans rfl; have hcz97_1 : w92.cell? ⟨gb180, 1, none⟩ = some (.int .i64 a1_1) := (blk_cell BK180.out 1).trans rfl; have hcz97_2 : w92.cell? ⟨gb180, 2, none⟩ = some (.int .i64 a1_2) := (blk_cell BK180.out 2).trans rfl; have hcz97_3 : w92.cell? ⟨gb180, 3, none⟩ = some (.int .i64 a1_3) := (blk_cell BK180.out 3).trans rfl; have hcz97_4 : w92.cell? ⟨gb180, 4, none⟩ = some (.int .i64 a1_4) := (blk_cell BK180.out 4).trans rfl; have hcz97_5 : w92.cell? ⟨gb180, 5, none⟩ = some (.int .i64 a1_5) := (blk_cell BK180.out 5).trans rfl; have hfz97_0 := blk_frozen BK180.out 0; have hfz97_1 := blk_frozen BK180.out 1; have hfz97_2 := blk_frozen BK180.out 2; have hfz97_3 := blk_frozen BK180.out 3; have hfz97_4 := blk_frozen BK180.out 4; have hfz97_5 := blk_frozen BK180.out 5) | ((with_reducible refine gate_dst (N := 94) rfl ?_); (try (refine gate_guard (by rfl) ?_; dsimp only)); refine Kd.R_lit (Kd.int .i64) _ 2 ?hg (N := 94) ?hd (xs := ([(rd_T75 l3 x55_3).f0, (rd_T75 l3 x55_3).f1, 0, 0] : List Int)) (inner := [.int .i64 ((rd_T75 l3 x55_3).f0), .int .i64 ((rd_T75 l3 x55_3).f1), .int .i64 0, .int .i64 0]) (ok := fun _ => True) (okp := fun _ => True) ?hr ?hp (fun _ hk => hk) trivial (Below.refl _ _) (Nat.le_refl _) (by simp) ?_; (case hd => rfl); (case hg => rfl); (case hr => first | (go_simp; done) | (go_simp; rfl)); (case hp => exact (Reps.one (show Kd.M (Kd.int .i64) _ _ _ ((rd_T75 l3 x55_3).f0) [.int .i64 ((rd_T75 l3 x55_3).f0)] from rfl) (Reps.one (show Kd.M (Kd.int .i64) _ _ _ ((rd_T75 l3 x55_3).f1) [.int .i64 ((rd_T75 l3 x55_3).f1)] from rfl) (Reps.one (show Kd.M (Kd.int .i64) _ _ _ 0 [.int .i64 0] from rfl) (Reps.one (show Kd.M (Kd.int .i64) _ _ _ 0 [.int .i64 0] from rfl) (Reps.none _ _)))))); intro v213 w98 ho99 hb hg_ hnew_; clear hg_ hnew_; (first | rw [← Ny212.out] at ho99 | (simp only [Int.reduceToNat] at ho99; rw [← Ny212.out] at ho99)); have n0_ := Aside0.mk (Kd.R_lower ho99 (below_size (by repeat (first | (with_reducible first | exact HB.out | apply below_alloc | apply pw_below_drewN | apply below_drew1 | refine below_set ?_ GE180.out | refine below_set ?_ GE181.out | refine below_set ?_ GE199.out) | exact HB.out)))); have n1_ := Aside0.mk (blk_below (g := gb180) (o := .cells #[.int .i64 a1_0, .int .i64 a1_1, .int .i64 a1_2, .int .i64 a1_3, .int .i64 a1_4, .int .i64 a1_5] 31 (0, 0)) (by (with_reducible repeat (first | refine blk_drewN ?_ _ | refine blk_drew ?_ | refine blk_alloc ?_ _)); refine blk_far ?_ NB180_199.out _; (with_reducible repeat (first | refine blk_drewN ?_ _ | refine blk_drew ?_ | refine blk_alloc ?_ _)); refine blk_far ?_ NB180_199.out _; (with_reducible repeat (first | refine blk_drewN ?_ _ | refine blk_drew ?_ | refine blk_alloc ?_ _)); refine blk_far ?_ NB180_199.out _; (with_reducible repeat (first | refine blk_drewN ?_ _ | refine blk_drew ?_ | refine blk_alloc ?_ _)); exact BK180.out) hb); have n2_ := Aside0.mk (blk_below (g := gb181) (o := .cells #[.int .i64 0, .string (⟨#[]⟩ : ByteArray), .int .i64 0, .int .i64 0, .int .i64 0, .int .i64 0, .int .i64 0, .int .i64 0, .bool false] 40 (0, 0)) (by (with_reducible repeat (first | refine blk_drewN ?_ _ | refine blk_drew ?_ | refine blk_alloc ?_ _)); refine blk_far ?_ NB181_199.out _; (with_reducible repeat (first | refine blk_drewN ?_ _ | refine blk_drew ?_ | refine blk_alloc ?_ _)); refine blk_far ?_ NB181_199.out _; (with_reducible repeat (first | refine blk_drewN ?_ _ | refine blk_drew ?_ | refine blk_alloc ?_ _)); refine blk_far ?_ NB181_199.out _; (with_reducible repeat (first | refine blk_drewN ?_ _ | refine blk_drew ?_ | refine blk_alloc ?_ _)); exact BK181.out) hb); have n3_ := Aside0.mk (blk_below (g := gb199) (o := .cells #[.int .i64 ((rd_T75 l3 x55_3).f0), .int .i64 ((rd_T75 l3 x55_3).f1), .bool false] 75 (0, 0)) (by (with_reducible repeat (first | refine blk_drewN ?_ _ | refine blk_drew ?_ | refine blk_alloc ?_ _)); refine blk_put (cs := #[.int .i64 ((rd_T75 l3 x55_3).f0), .int .i64 ((rd_T75 l3 x55_3).f1), .bool false]) ?_ 2 _ rfl; (with_reducible repeat (first | refine blk_drewN ?_ _ | refine blk_drew ?_ | refine blk_alloc ?_ _)); refine blk_put (cs := #[.int .i64 ((rd_T75 l3 x55_3).f0), .int .i64 0, .bool false]) ?_ 1 _ rfl; (with_reducible repeat (first | refine blk_drewN ?_ _ | refine blk_drew ?_ | refine blk_alloc ?_ _)); refine blk_put (cs := #[.int .i64 0, .int .i64 0, .bool false]) ?_ 0 _ rfl; (with_reducible repeat (first | refine blk_drewN ?_ _ | refine blk_drew ?_ | refine blk_alloc ?_ _)); exact BK199.out) hb); have n4_ := Aside0.mk (below_step (by repeat (first | (with_reducible first | exact HB.out | apply below_alloc | apply pw_below_drewN | apply below_drew1 | refine below_set ?_ GE180.out | refine below_set ?_ GE181.out | refine below_set ?_ GE199.out) | exact HB.out)) hb); clear BK180; clear BK181; clear BK199; clear HB; have HO214 := n0_; have BK180 := n1_; have BK181 := n2_; have BK199 := n3_; have HB := n4_; clear n0_ n1_ n2_ n3_ n4_; clear hb ho99; obtain ⟨Ao100, co100, eo100⟩ := Kd.R_slice HO214.out; subst eo100) | ((with_reducible refine gate_callee (f := 73) rfl ?_); refine goesL_ (some 95) rfl rfl Try.func73 (by kernel_rfl) rfl #[.string x0_3, .int .i64 (wrap64 (a1_1 + (wrap64 (16 * (Int.tmod (wrap64 (a2 + x55_3)) a1_0))))), .slice Ao100 y212.length co100] rfl (by (try simp only [List.map_toArray, List.map_cons, List.map_nil]); first | done | rfl | (simp only [List.length_drop, List.length_take]; rfl)) ?_; (with_reducible refine (impl_yset.calls k3 x0_3 (wrap64 (a1_1 + (wrap64 (16 * (Int.tmod (wrap64 (a2 + x55_3)) a1_0))))) _ _ y212 t215 _ ?side1 ?side2 A91.out).mono ?_); (case side1 => repeat (first | exact (Kd.R_reads' HO214.out).2.2 | (with_reducible refine Kd.C_alloc ?_ _) | (with_reducible refine Kd.C_drewN ?_ _) | (with_reducible refine Kd.C_drew ?_))); (case side2 => exact (Kd.R_reads' HO214.out).2.1); rintro e w101 ⟨rfl, hb⟩; refine ⟨_, rfl, ?_⟩; have n0_ := Aside0.mk (Kd.R_below (by (with_reducible repeat (first | apply Kd.R_alloc | apply Kd.R_drewN | apply Kd.R_drew)); exact HO214.out) hb); have n1_ := Aside0.mk (blk_below (g := gb180) (o := .cells #[.int .i64 a1_0, .int .i64 a1_1, .int .i64 a1_2, .int .i64 a1_3, .int .i64 a1_4, .int .i64 a1_5] 31 (0, 0)) (by (with_reducible repeat (first | refine blk_drewN ?_ _ | refine blk_drew ?_ | refine blk_alloc ?_ _)); exact BK180.out) hb); have n2_ := Aside0.mk (blk_below (g := gb181) (o := .cells #[.int .i64 0, .string (⟨#[]⟩ : ByteArray), .int .i64 0, .int .i64 0, .int .i64 0, .int .i64 0, .int .i64 0, .int .i64 0, .bool false] 40 (0, 0)) (by (with_reducible repeat (first | refine blk_drewN ?_ _ | refine blk_drew ?_ | refine blk_alloc ?_ _)); exact BK181.out) hb); have n3_ := Aside0.mk (blk_below (g := gb199) (o := .cells #[.int .i64 ((rd_T75 l3 x55_3).f0), .int .i64 ((rd_T75 l3 x55_3).f1), .bool false] 75 (0, 0)) (by (with_reducible repeat (first | refine blk_drewN ?_ _ | refine blk_drew ?_ | refine blk_alloc ?_ _)); exact BK199.out) hb); have n4_ := Aside0.mk (below_step (by repeat (first | (with_reducible first | exact HB.out | apply below_alloc | apply pw_below_drewN | apply below_drew1 | refine below_set ?_ GE180.out | refine below_set ?_ GE181.out | refine below_set ?_ GE199.out) | exact HB.out)) hb); clear HO214; clear BK180; clear BK181; clear BK199; clear HB; have HO214 := n0_; have BK180 := n1_; have BK181 := n2_; have BK199 := n3_; have HB := n4_; clear n0_ n1_ n2_ n3_ n4_; (try clear hb); (try clear hb2); (try clear hk); (try clear hi)))
                              go_roundg k3
                              case measure => have := HJ4.out; have := HJ18.out; have := HK3.out; omega
                              case rel => exact ⟨(t215), (wrap64 (x55_3 + 1)), (by first | rfl | (simp; done) | (simp [*]; done)), (by first | rfl | (simp; done) | (simp [*]; done)), H', ⟨by have := HJ4.out; have := HJ18.out; have := HK3.out; omega⟩, ⟨by (with_reducible repeat (first | refine blk_drewN ?_ _ | refine blk_drew ?_ | refine blk_alloc ?_ _)); exact BK180.out⟩, ⟨by (with_reducible repeat (first | refine blk_drewN ?_ _ | refine blk_drew ?_ | refine blk_alloc ?_ _)); exact BK181.out⟩, ⟨by repeat (first | (with_reducible first | exact HB.out | apply below_alloc | apply pw_below_drewN | apply below_drew1 | refine below_set ?_ GE180.out | refine below_set ?_ GE181.out | refine below_set ?_ GE199.out) | exact HB.out)⟩⟩
                      · rw [if_neg c52] at H
                        exact absurd H (by simp)
                    · rw [if_neg c51] at H
                      exact absurd H (by simp)
                  · rw [if_neg c50] at H
                    have c50b0 : decide (x55_3 < (l3.length : Int)) = false := decide_eq_false c50
                    clear c50
                    replace H := Option.bind_eq_some_iff.mp H
                    obtain ⟨t189, A1020, H⟩ := H
                    replace H : (if a1_0 = 0 then (none) else ((impl_yset.f k3 x0_3 (wrap64 ((wrap64 (a1_2 + 8)) + (wrap64 (4 * (Int.tmod (Int.tmod t189 65536) a1_0))))) (([a2] : List Int))).bind fun t193 => ((impl_yset.f k3 t193 (wrap64 (a1_2 + 4)) (([Int.tmod (wrap64 ((Int.tmod t189 65536) + 1)) 65536] : List Int))).bind fun t197 => (some (0, t197, a1_0, a1_1, a1_2, a1_3, a1_4, a1_5, false))))) = some (r1, r2, r3, r4, r5, r6, r7, r8, r9) := H
                    have A102 := Aside0.mk A1020
                    clear A1020
                    by_cases c103 : a1_0 = 0
                    · rw [if_pos c103] at H
                      exact absurd H (by simp)
                    · rw [if_neg c103] at H
                      have c103b0 : (a1_0 == 0) = false := beq_eq_false_iff_ne.mpr c103
                      have c103b1 : (a1_0 != 0) = true := bne_iff_ne.mpr c103
                      obtain ⟨y190, hy190⟩ : ∃ y_ : List Int, y_ = (([a2] : List Int)) := ⟨_, rfl⟩
                      replace H : ((impl_yset.f k3 x0_3 (wrap64 ((wrap64 (a1_2 + 8)) + (wrap64 (4 * (Int.tmod (Int.tmod t189 65536) a1_0))))) y190).bind fun t193 => ((impl_yset.f k3 t193 (wrap64 (a1_2 + 4)) (([Int.tmod (wrap64 ((Int.tmod t189 65536) + 1)) 65536] : List Int))).bind fun t197 => (some (0, t197, a1_0, a1_1, a1_2, a1_3, a1_4, a1_5, false)))) = some (r1, r2, r3, r4, r5, r6, r7, r8, r9) := by first | (rw [hy190]; with_reducible exact H) | (have H2_ := (Option.bind_some _ _).symm.trans H; rw [hy190]; with_reducible exact H2_) | (have H2_ := (Option.bind_some _ _).symm.trans H; with_reducible exact H2_) | with_reducible exact H | (rw [hy190]; exact H) | exact H
                      have Ny190 := Aside0.mk hy190
                      clear hy190
                      replace H := Option.bind_eq_some_iff.mp H
                      obtain ⟨t193, A1040, H⟩ := H
                      replace H : ((impl_yset.f k3 t193 (wrap64 (a1_2 + 4)) (([Int.tmod (wrap64 ((Int.tmod t189 65536) + 1)) 65536] : List Int))).bind fun t197 => (some (0, t197, a1_0, a1_1, a1_2, a1_3, a1_4, a1_5, false))) = some (r1, r2, r3, r4, r5, r6, r7, r8, r9) := H
                      have A104 := Aside0.mk A1040
                      clear A1040
                      obtain ⟨y194, hy194⟩ : ∃ y_ : List Int, y_ = (([Int.tmod (wrap64 ((Int.tmod t189 65536) + 1)) 65536] : List Int)) := ⟨_, rfl⟩
                      replace H : ((impl_yset.f k3 t193 (wrap64 (a1_2 + 4)) y194).bind fun t197 => (some (0, t197, a1_0, a1_1, a1_2, a1_3, a1_4, a1_5, false))) = some (r1, r2, r3, r4, r5, r6, r7, r8, r9) := by first | (rw [hy194]; with_reducible exact H) | (have H2_ := (Option.bind_some _ _).symm.trans H; rw [hy194]; with_reducible exact H2_) | (have H2_ := (Option.bind_some _ _).symm.trans H; with_reducible exact H2_) | with_reducible exact H | (rw [hy194]; exact H) | exact H
                      have Ny194 := Aside0.mk hy194
                      clear hy194
                      replace H := Option.bind_eq_some_iff.mp H
                      obtain ⟨t197, A1050, H⟩ := H
                      replace H : (some (0, t197, a1_0, a1_1, a1_2, a1_3, a1_4, a1_5, false)) = some (r1, r2, r3, r4, r5, r6, r7, r8, r9) := H
                      have A105 := Aside0.mk A1050
                      clear A1050
                      simp only [Option.some.injEq, Prod.mk.injEq] at H
                      obtain ⟨rfl, rfl, rfl, rfl, rfl, rfl, rfl, rfl, rfl⟩ := H
                      have hnb106 := NB180_181.out
                      have hnc106 := NB181_180.out
                      have hcz107_0 : wr.cell? ⟨gb180, 0, none⟩ = some (.int .i64 a1_0) := (blk_cell BK180.out 0).trans rfl
                      have hcz107_1 : wr.cell? ⟨gb180, 1, none⟩ = some (.int .i64 a1_1) := (blk_cell BK180.out 1).trans rfl
                      have hcz107_2 : wr.cell? ⟨gb180, 2, none⟩ = some (.int .i64 a1_2) := (blk_cell BK180.out 2).trans rfl
                      have hcz107_3 : wr.cell? ⟨gb180, 3, none⟩ = some (.int .i64 a1_3) := (blk_cell BK180.out 3).trans rfl
                      have hcz107_4 : wr.cell? ⟨gb180, 4, none⟩ = some (.int .i64 a1_4) := (blk_cell BK180.out 4).trans rfl
                      have hcz107_5 : wr.cell? ⟨gb180, 5, none⟩ = some (.int .i64 a1_5) := (blk_cell BK180.out 5).trans rfl
                      have hfz107_0 := blk_frozen BK180.out 0
                      have hfz107_1 := blk_frozen BK180.out 1
                      have hfz107_2 := blk_frozen BK180.out 2
                      have hfz107_3 := blk_frozen BK180.out 3
                      have hfz107_4 := blk_frozen BK180.out 4
                      have hfz107_5 := blk_frozen BK180.out 5
                      try go_wp2_with (first | ((with_reducible refine gate_callee (f := 74) rfl ?_); refine goesL_ (some 101) rfl rfl Try.func74 (by kernel_rfl) rfl #[.string x0_3, .int .i64 (wrap64 (a1_2 + 4))] rfl (by (try simp only [List.map_toArray, List.map_cons, List.map_nil]); first | done | rfl | (simp only [List.length_drop, List.length_take]; rfl)) ?_; (with_reducible refine (impl_ywordAt.calls x0_3 (wrap64 (a1_2 + 4)) t189 _ A102.out).mono ?_); rintro e w' ⟨rfl, ⟨nd, rfl⟩⟩; refine ⟨_, rfl, ?_⟩; (try (rw [drewN_self wr]; generalize hq_ : World.drewN wr _ = wr; have n0_ : Aside0 (wr.heap[gb180]? = some (.cells #[.int .i64 a1_0, .int .i64 a1_1, .int .i64 a1_2, .int .i64 a1_3, .int .i64 a1_4, .int .i64 a1_5] 31 (0, 0))) := ⟨by rw [← hq_]; exact (by (with_reducible repeat (first | refine blk_drewN ?_ _ | refine blk_drew ?_ | refine blk_alloc ?_ _)); exact BK180.out)⟩; have n1_ : Aside0 (wr.heap[gb181]? = some (.cells #[.int .i64 0, .string (⟨#[]⟩ : ByteArray), .int .i64 0, .int .i64 0, .int .i64 0, .int .i64 0, .int .i64 0, .int .i64 0, .bool false] 40 (0, 0))) := ⟨by rw [← hq_]; exact (by (with_reducible repeat (first | refine blk_drewN ?_ _ | refine blk_drew ?_ | refine blk_alloc ?_ _)); exact BK181.out)⟩; have n2_ : Aside0 (Below w.heap.size w wr) := ⟨by rw [← hq_]; exact (by repeat (first | (with_reducible first | exact HB.out | apply below_alloc | apply pw_below_drewN | apply below_drew1 | refine below_set ?_ GE180.out | refine below_set ?_ GE181.out) | exact HB.out))⟩; clear BK180 BK181 HB hq_; have BK180 := n0_; have BK181 := n1_; have HB := n2_; clear n0_ n1_ n2_))))
                      have n0_ := Aside0.mk (blk_drew BK180.out)
                      have n1_ := Aside0.mk (blk_drew BK181.out)
                      have n2_ := Aside0.mk (below_drew1 HB.out)
                      clear BK180
                      clear BK181
                      clear HB
                      have BK180 := n0_
                      have BK181 := n1_
                      have HB := n2_
                      clear n0_ n1_ n2_
                      refine start_ (n := 14) (S := fun w' => w'.cell? ⟨gb180, 0, none⟩ = some (.int .i64 a1_0) ∧ w'.cell? ⟨gb180, 1, none⟩ = some (.int .i64 a1_1) ∧ w'.cell? ⟨gb180, 2, none⟩ = some (.int .i64 a1_2) ∧ w'.cell? ⟨gb180, 3, none⟩ = some (.int .i64 a1_3) ∧ w'.cell? ⟨gb180, 4, none⟩ = some (.int .i64 a1_4) ∧ w'.cell? ⟨gb180, 5, none⟩ = some (.int .i64 a1_5)) (ds := []) #[false, false, false, false, false, false, false, false, false, false, false, false, false, false] (by kernel_rfl) rfl rfl ⟨(blk_cell BK180.out 0).trans rfl, (blk_cell BK180.out 1).trans rfl, (blk_cell BK180.out 2).trans rfl, (blk_cell BK180.out 3).trans rfl, (blk_cell BK180.out 4).trans rfl, (blk_cell BK180.out 5).trans rfl⟩ (fun hHeld => ?_); refine with_tabW impl_PostChain.tab18 impl_PostChain.bits18 (fun HT_ HW_ => ?_)
                      generalize wr.drew = w108 at BK180 BK181 HB hHeld ⊢
                      refine pure_ (i := 0) (N := some 103) (v := ?_) (a' := ?_) #[true, false, false, false, false, false, false, false, false, false, false, false, false, false] rfl rfl (any_of HT_.out (by kernel_rfl)) (fun _ _ _ h => h) (Or.inl ⟨by rfl, ?_⟩) ?_ ?_
                      rotate_left
                      · intro w'
                        go_simp
                        first | with_reducible rfl | (rw [if_neg (by (try clear HT_ HW_); simp only [ByteArray.size_extract, ByteArray.size_append, decide_eq_true_eq] at *; omega)]; try with_reducible rfl)
                      rotate_left
                      · simp only [Act.put, List.setIfInBounds_toArray, List.set_cons_zero, List.set_cons_succ, i64_w, i32_w]
                        rfl
                      refine pure_ (i := 1) (N := some 104) (v := ?_) (a' := ?_) #[true, true, false, false, false, false, false, false, false, false, false, false, false, false] rfl rfl (any_of HT_.out (by kernel_rfl)) (fun _ _ _ h => h) (Or.inl ⟨by rfl, ?_⟩) ?_ ?_
                      rotate_left
                      · intro w'
                        go_simp
                        first | with_reducible rfl | (rw [if_neg (by (try clear HT_ HW_); simp only [ByteArray.size_extract, ByteArray.size_append, decide_eq_true_eq] at *; omega)]; try with_reducible rfl)
                      rotate_left
                      · simp only [Act.put, List.setIfInBounds_toArray, List.set_cons_zero, List.set_cons_succ, i64_w, i32_w]
                        rfl
                      refine pure_ (i := 4) (N := some 107) (v := ?_) (a' := ?_) #[true, true, false, false, true, false, false, false, false, false, false, false, false, false] rfl rfl (any_of HT_.out (by kernel_rfl)) (fun _ _ _ h => h) (Or.inl ⟨by rfl, ?_⟩) ?_ ?_
                      rotate_left
                      · intro w'
                        go_simp
                        first | with_reducible rfl | (rw [if_neg (by (try clear HT_ HW_); simp only [ByteArray.size_extract, ByteArray.size_append, decide_eq_true_eq] at *; omega)]; try with_reducible rfl)
                      rotate_left
                      · simp only [Act.put, List.setIfInBounds_toArray, List.set_cons_zero, List.set_cons_succ, i64_w, i32_w]
                        rfl
                      refine pure_ (i := 5) (N := some 108) (v := ?_) (a' := ?_) #[true, true, false, false, true, true, false, false, false, false, false, false, false, false] rfl rfl (any_of HT_.out (by kernel_rfl)) (fun _ _ _ h => h) (Or.inl ⟨by rfl, ?_⟩) ?_ ?_
                      rotate_left
                      · intro w'
                        go_simp
                        first | with_reducible rfl | (rw [if_neg (by (try clear HT_ HW_); simp only [ByteArray.size_extract, ByteArray.size_append, decide_eq_true_eq] at *; omega)]; try with_reducible rfl)
                      rotate_left
                      · simp only [Act.put, List.setIfInBounds_toArray, List.set_cons_zero, List.set_cons_succ, i64_w, i32_w]
                        rfl
                      refine pure_ (i := 10) (N := some 113) (v := ?_) (a' := ?_) #[true, true, false, false, true, true, false, false, false, false, true, false, false, false] rfl rfl (any_of HT_.out (by kernel_rfl)) (fun _ _ _ h => h) (Or.inl ⟨by rfl, ?_⟩) ?_ ?_
                      rotate_left
                      · intro w'
                        go_simp
                        first | with_reducible rfl | (rw [if_neg (by (try clear HT_ HW_); simp only [ByteArray.size_extract, ByteArray.size_append, decide_eq_true_eq] at *; omega)]; try with_reducible rfl)
                      rotate_left
                      · simp only [Act.put, List.setIfInBounds_toArray, List.set_cons_zero, List.set_cons_succ, i64_w, i32_w]
                        rfl
                      refine take_ (i := 2) (N := some 105) (v := ?_) (a' := ?_) #[true, true, true, false, true, true, false, false, false, false, true, false, false, false] rfl rfl (take_ofW HT_.out HW_.out (by kernel_rfl)) (fun _ _ _ h => h) (Or.inl ⟨by rfl, ?_⟩) hHeld ?_ ?_
                      rotate_left
                      · rintro w' ⟨s0, s1, s2, s3, s4, s5⟩
                        go_simp
                        first | with_reducible rfl | (rw [if_neg (by (try clear HT_ HW_); simp only [ByteArray.size_extract, ByteArray.size_append, decide_eq_true_eq] at *; omega)]; try with_reducible rfl)
                      rotate_left
                      · simp only [Act.put, List.setIfInBounds_toArray, List.set_cons_zero, List.set_cons_succ, i64_w, i32_w]
                        rfl
                      refine pure_ (i := 3) (N := some 106) (v := ?_) (a' := ?_) #[true, true, true, true, true, true, false, false, false, false, true, false, false, false] rfl rfl (any_of HT_.out (by kernel_rfl)) (fun _ _ _ h => h) (Or.inl ⟨by rfl, ?_⟩) ?_ ?_
                      rotate_left
                      · intro w'
                        go_simp
                        first | with_reducible rfl | (rw [if_neg (by (try clear HT_ HW_); simp only [ByteArray.size_extract, ByteArray.size_append, decide_eq_true_eq] at *; omega)]; try with_reducible rfl)
                      rotate_left
                      · simp only [Act.put, List.setIfInBounds_toArray, List.set_cons_zero, List.set_cons_succ, i64_w, i32_w]
                        rfl
                      refine take_ (i := 6) (N := some 109) (v := ?_) (a' := ?_) #[true, true, true, true, true, true, true, false, false, false, true, false, false, false] rfl rfl (take_ofW HT_.out HW_.out (by kernel_rfl)) (fun _ _ _ h => h) (Or.inl ⟨by rfl, ?_⟩) hHeld ?_ ?_
                      rotate_left
                      · rintro w' ⟨s0, s1, s2, s3, s4, s5⟩
                        go_simp
                        first | with_reducible rfl | (rw [if_neg (by (try clear HT_ HW_); simp only [ByteArray.size_extract, ByteArray.size_append, decide_eq_true_eq] at *; omega)]; try with_reducible rfl)
                      rotate_left
                      · simp only [Act.put, List.setIfInBounds_toArray, List.set_cons_zero, List.set_cons_succ, i64_w, i32_w]
                        rfl
                      refine pure_ (i := 7) (N := some 110) (v := ?_) (a' := ?_) #[true, true, true, true, true, true, true, true, false, false, true, false, false, false] rfl rfl (any_of HT_.out (by kernel_rfl)) (fun _ _ _ h => h) (Or.inl ⟨by rfl, ?_⟩) ?_ ?_
                      rotate_left
                      · intro w'
                        go_simp
                        first | with_reducible rfl | (rw [if_neg (by (try clear HT_ HW_); simp only [ByteArray.size_extract, ByteArray.size_append, decide_eq_true_eq] at *; omega)]; try with_reducible rfl)
                      rotate_left
                      · simp only [Act.put, List.setIfInBounds_toArray, List.set_cons_zero, List.set_cons_succ, i64_w, i32_w]
                        rfl
                      refine pure_ (i := 8) (N := some 111) (v := ?_) (a' := ?_) #[true, true, true, true, true, true, true, true, true, false, true, false, false, false] rfl rfl (any_of HT_.out (by kernel_rfl)) (fun _ _ _ h => h) (Or.inl ⟨by rfl, ?_⟩) ?_ ?_
                      rotate_left
                      · intro w'
                        go_simp
                        first | with_reducible rfl | (rw [if_neg (by (try clear HT_ HW_); simp only [ByteArray.size_extract, ByteArray.size_append, decide_eq_true_eq] at *; omega)]; try with_reducible rfl)
                      rotate_left
                      · simp only [Act.put, List.setIfInBounds_toArray, List.set_cons_zero, List.set_cons_succ, i64_w, i32_w]
                        rfl
                      refine pure_ (i := 9) (N := some 112) (v := ?_) (a' := ?_) #[true, true, true, true, true, true, true, true, true, true, true, false, false, false] rfl rfl (any_of HT_.out (by kernel_rfl)) (fun _ _ _ h => h) (Or.inl ⟨by rfl, ?_⟩) ?_ ?_
                      rotate_left
                      · intro w'
                        go_simp
                        first | with_reducible rfl | (rw [if_neg (by (try clear HT_ HW_); simp only [ByteArray.size_extract, ByteArray.size_append, decide_eq_true_eq] at *; omega)]; try with_reducible rfl)
                      rotate_left
                      · simp only [Act.put, List.setIfInBounds_toArray, List.set_cons_zero, List.set_cons_succ, i64_w, i32_w]
                        rfl
                      refine one_ (i := 11) (N := some 114) #[true, true, true, true, true, true, true, true, true, true, true, true, false, false] rfl rfl (one_of HT_.out (by kernel_rfl)) (by decide) (fun K hK => ?_)
                      refine Kd.R_lit_step (Kd.int .i64) _ 2 ?hg (N := 114) ?hd (xs := ([a2] : List Int)) (inner := [.int .i64 a2]) (ok := fun _ => True) (okp := fun _ => True) ?hr ?hp (fun _ hk => hk) trivial (Below.refl _ _) (Nat.le_refl _) (by simp) ?_; (case hd => rfl); (case hg => rfl); (case hr => first | (go_simp; done) | (go_simp; rfl)); (case hp => exact (Reps.one (show Kd.M (Kd.int .i64) _ _ _ a2 [.int .i64 a2] from rfl) (Reps.none _ _)))
                      intro v191 w109 ho110 hb hg_ hnew_
                      clear hg_ hnew_
                      (first | rw [← Ny190.out] at ho110 | (simp only [Int.reduceToNat] at ho110; rw [← Ny190.out] at ho110))
                      have n0_ := Aside0.mk (Kd.R_lower ho110 (below_size (by repeat (first | (with_reducible first | exact HB.out | apply below_alloc | apply pw_below_drewN | apply below_drew1 | refine below_set ?_ GE180.out | refine below_set ?_ GE181.out) | exact HB.out))))
                      have n1_ := Aside0.mk (blk_below (g := gb180) (o := .cells #[.int .i64 a1_0, .int .i64 a1_1, .int .i64 a1_2, .int .i64 a1_3, .int .i64 a1_4, .int .i64 a1_5] 31 (0, 0)) (by (with_reducible repeat (first | refine blk_drewN ?_ _ | refine blk_drew ?_ | refine blk_alloc ?_ _)); exact BK180.out) hb)
                      have n2_ := Aside0.mk (blk_below (g := gb181) (o := .cells #[.int .i64 0, .string (⟨#[]⟩ : ByteArray), .int .i64 0, .int .i64 0, .int .i64 0, .int .i64 0, .int .i64 0, .int .i64 0, .bool false] 40 (0, 0)) (by (with_reducible repeat (first | refine blk_drewN ?_ _ | refine blk_drew ?_ | refine blk_alloc ?_ _)); exact BK181.out) hb)
                      have n3_ := Aside0.mk (below_step (by repeat (first | (with_reducible first | exact HB.out | apply below_alloc | apply pw_below_drewN | apply below_drew1 | refine below_set ?_ GE180.out | refine below_set ?_ GE181.out) | exact HB.out)) hb)
                      clear BK180
                      clear BK181
                      clear HB
                      have HO192 := n0_
                      have BK180 := n1_
                      have BK181 := n2_
                      have HB := n3_
                      clear n0_ n1_ n2_ n3_
                      clear hb ho110
                      obtain ⟨Ao111, co111, eo111⟩ := Kd.R_slice HO192.out
                      (first | subst eo111 | (injection eo111 with f1_ f2_ f3_; have f4_ := f1_.symm; have f5_ := f3_.symm; clear f1_ f2_ f3_; subst f4_; subst f5_))
                      refine hK.out _ _ ⟨(blk_cell BK180.out 0).trans rfl, (blk_cell BK180.out 1).trans rfl, (blk_cell BK180.out 2).trans rfl, (blk_cell BK180.out 3).trans rfl, (blk_cell BK180.out 4).trans rfl, (blk_cell BK180.out 5).trans rfl⟩ (fun hHeld => ?_)
                      clear hK K
                      refine norm_ (a' := ?_) ?_ ?_
                      rotate_left
                      · show Act.put _ (some 114) _ = _
                        simp only [Act.put, List.setIfInBounds_toArray, List.set_cons_zero, List.set_cons_succ, i64_w, i32_w]
                        rfl
                      refine one_ (i := 12) (N := some 115) #[true, true, true, true, true, true, true, true, true, true, true, true, true, false] rfl rfl (one_of HT_.out (by kernel_rfl)) (by decide) (fun K hK => ?_)
                      refine goes_ Try.func73 (by kernel_rfl) rfl #[.string x0_3, .int .i64 (wrap64 ((wrap64 (a1_2 + 8)) + (wrap64 (4 * (Int.tmod (Int.tmod t189 65536) a1_0))))), .slice Ao111 y190.length co111] (by rfl) rfl rfl (by (try simp only [List.map_toArray, List.map_cons, List.map_nil]); first | done | rfl | (simp only [List.length_drop, List.length_take]; rfl)) ?_
                      with_reducible refine (impl_yset.calls k3 x0_3 (wrap64 ((wrap64 (a1_2 + 8)) + (wrap64 (4 * (Int.tmod (Int.tmod t189 65536) a1_0))))) _ _ y190 t193 _ ?side1 ?side2 A104.out).mono ?_
                      (case side1 => repeat (first | exact (Kd.R_reads' HO192.out).2.2 | (with_reducible refine Kd.C_alloc ?_ _) | (with_reducible refine Kd.C_drewN ?_ _) | (with_reducible refine Kd.C_drew ?_)))
                      (case side2 => exact (Kd.R_reads' HO192.out).2.1)
                      rintro e w112 ⟨rfl, hb⟩
                      refine ⟨_, rfl, ?_⟩
                      have n0_ := Aside0.mk (Kd.R_below (by (with_reducible repeat (first | apply Kd.R_alloc | apply Kd.R_drewN | apply Kd.R_drew)); exact HO192.out) hb)
                      have n1_ := Aside0.mk (blk_below (g := gb180) (o := .cells #[.int .i64 a1_0, .int .i64 a1_1, .int .i64 a1_2, .int .i64 a1_3, .int .i64 a1_4, .int .i64 a1_5] 31 (0, 0)) (by (with_reducible repeat (first | refine blk_drewN ?_ _ | refine blk_drew ?_ | refine blk_alloc ?_ _)); exact BK180.out) hb)
                      have n2_ := Aside0.mk (blk_below (g := gb181) (o := .cells #[.int .i64 0, .string (⟨#[]⟩ : ByteArray), .int .i64 0, .int .i64 0, .int .i64 0, .int .i64 0, .int .i64 0, .int .i64 0, .bool false] 40 (0, 0)) (by (with_reducible repeat (first | refine blk_drewN ?_ _ | refine blk_drew ?_ | refine blk_alloc ?_ _)); exact BK181.out) hb)
                      have n3_ := Aside0.mk (below_step (by repeat (first | (with_reducible first | exact HB.out | apply below_alloc | apply pw_below_drewN | apply below_drew1 | refine below_set ?_ GE180.out | refine below_set ?_ GE181.out) | exact HB.out)) hb)
                      clear HO192
                      clear BK180
                      clear BK181
                      clear HB
                      have HO192 := n0_
                      have BK180 := n1_
                      have BK181 := n2_
                      have HB := n3_
                      clear n0_ n1_ n2_ n3_
                      (try clear hb)
                      (try clear hb2)
                      (try clear hk)
                      (try clear hi)
                      refine hK.out _ _ ⟨(blk_cell BK180.out 0).trans rfl, (blk_cell BK180.out 1).trans rfl, (blk_cell BK180.out 2).trans rfl, (blk_cell BK180.out 3).trans rfl, (blk_cell BK180.out 4).trans rfl, (blk_cell BK180.out 5).trans rfl⟩ (fun hHeld => ?_)
                      clear hK K
                      refine norm_ (a' := ?_) ?_ ?_
                      rotate_left
                      · show Act.put _ (some 115) _ = _
                        simp only [Act.put, List.setIfInBounds_toArray, List.set_cons_zero, List.set_cons_succ, i64_w, i32_w]
                        rfl
                      refine pure_ (i := 13) (N := some 0) (v := ?_) (a' := ?_) #[true, true, true, true, true, true, true, true, true, true, true, true, true, true] rfl rfl (any_of HT_.out (by kernel_rfl)) (fun _ _ _ h => h) (Or.inl ⟨by rfl, ?_⟩) ?_ ?_
                      rotate_left
                      · intro w'
                        go_simp
                        first | with_reducible rfl | (rw [if_neg (by (try clear HT_ HW_); simp only [ByteArray.size_extract, ByteArray.size_append, decide_eq_true_eq] at *; omega)]; try with_reducible rfl)
                      rotate_left
                      · simp only [Act.put, List.setIfInBounds_toArray, List.set_cons_zero, List.set_cons_succ, i64_w, i32_w]
                        rfl
                      refine done_ (done_of HT_.out (by kernel_rfl)) ?_
                      have hcz113_0 : w112.cell? ⟨gb180, 0, none⟩ = some (.int .i64 a1_0) := (blk_cell BK180.out 0).trans rfl
                      have hcz113_1 : w112.cell? ⟨gb180, 1, none⟩ = some (.int .i64 a1_1) := (blk_cell BK180.out 1).trans rfl
                      have hcz113_2 : w112.cell? ⟨gb180, 2, none⟩ = some (.int .i64 a1_2) := (blk_cell BK180.out 2).trans rfl
                      have hcz113_3 : w112.cell? ⟨gb180, 3, none⟩ = some (.int .i64 a1_3) := (blk_cell BK180.out 3).trans rfl
                      have hcz113_4 : w112.cell? ⟨gb180, 4, none⟩ = some (.int .i64 a1_4) := (blk_cell BK180.out 4).trans rfl
                      have hcz113_5 : w112.cell? ⟨gb180, 5, none⟩ = some (.int .i64 a1_5) := (blk_cell BK180.out 5).trans rfl
                      have hfz113_0 := blk_frozen BK180.out 0
                      have hfz113_1 := blk_frozen BK180.out 1
                      have hfz113_2 := blk_frozen BK180.out 2
                      have hfz113_3 := blk_frozen BK180.out 3
                      have hfz113_4 := blk_frozen BK180.out 4
                      have hfz113_5 := blk_frozen BK180.out 5
                      try go_wp2_with (first | ((with_reducible refine gate_dst (N := 123) rfl ?_); (try (refine gate_guard (by rfl) ?_; dsimp only)); refine Kd.R_lit (Kd.int .i64) _ 2 ?hg (N := 123) ?hd (xs := ([Int.tmod (wrap64 ((Int.tmod t189 65536) + 1)) 65536] : List Int)) (inner := [.int .i64 (Int.tmod (wrap64 ((Int.tmod t189 65536) + 1)) 65536)]) (ok := fun _ => True) (okp := fun _ => True) ?hr ?hp (fun _ hk => hk) trivial (Below.refl _ _) (Nat.le_refl _) (by simp) ?_; (case hd => rfl); (case hg => rfl); (case hr => first | (go_simp; done) | (go_simp; rfl)); (case hp => exact (Reps.one (show Kd.M (Kd.int .i64) _ _ _ (Int.tmod (wrap64 ((Int.tmod t189 65536) + 1)) 65536) [.int .i64 (Int.tmod (wrap64 ((Int.tmod t189 65536) + 1)) 65536)] from rfl) (Reps.none _ _))); intro v195 w114 ho115 hb hg_ hnew_; clear hg_ hnew_; (first | rw [← Ny194.out] at ho115 | (simp only [Int.reduceToNat] at ho115; rw [← Ny194.out] at ho115)); have n0_ := Aside0.mk (Kd.R_elder' (by (with_reducible repeat (first | apply Kd.R_alloc | apply Kd.R_drewN | apply Kd.R_drew)); exact HO192.out) (Kd.R_base ho115) hb); have n1_ := Aside0.mk (Kd.R_lower (Kd.R_new' ho115 (Kd.R_lt (by (with_reducible repeat (first | apply Kd.R_alloc | apply Kd.R_drewN | apply Kd.R_drew)); exact HO192.out))) (below_size (by repeat (first | (with_reducible first | exact HB.out | apply below_alloc | apply pw_below_drewN | apply below_drew1 | refine below_set ?_ GE180.out | refine below_set ?_ GE181.out) | exact HB.out)))); have n2_ := Aside0.mk (blk_below (g := gb180) (o := .cells #[.int .i64 a1_0, .int .i64 a1_1, .int .i64 a1_2, .int .i64 a1_3, .int .i64 a1_4, .int .i64 a1_5] 31 (0, 0)) (by (with_reducible repeat (first | refine blk_drewN ?_ _ | refine blk_drew ?_ | refine blk_alloc ?_ _)); exact BK180.out) hb); have n3_ := Aside0.mk (blk_below (g := gb181) (o := .cells #[.int .i64 0, .string (⟨#[]⟩ : ByteArray), .int .i64 0, .int .i64 0, .int .i64 0, .int .i64 0, .int .i64 0, .int .i64 0, .bool false] 40 (0, 0)) (by (with_reducible repeat (first | refine blk_drewN ?_ _ | refine blk_drew ?_ | refine blk_alloc ?_ _)); exact BK181.out) hb); have n4_ := Aside0.mk (below_step (by repeat (first | (with_reducible first | exact HB.out | apply below_alloc | apply pw_below_drewN | apply below_drew1 | refine below_set ?_ GE180.out | refine below_set ?_ GE181.out) | exact HB.out)) hb); clear HO192; clear BK180; clear BK181; clear HB; have HO192 := n0_; have HO196 := n1_; have BK180 := n2_; have BK181 := n3_; have HB := n4_; clear n0_ n1_ n2_ n3_ n4_; clear hb ho115; obtain ⟨Ao116, co116, eo116⟩ := Kd.R_slice HO196.out; subst eo116) | ((with_reducible refine gate_callee (f := 73) rfl ?_); refine goesL_ (some 124) rfl rfl Try.func73 (by kernel_rfl) rfl #[.string t193, .int .i64 (wrap64 (a1_2 + 4)), .slice Ao116 y194.length co116] rfl (by (try simp only [List.map_toArray, List.map_cons, List.map_nil]); first | done | rfl | (simp only [List.length_drop, List.length_take]; rfl)) ?_; (with_reducible refine (impl_yset.calls k3 t193 (wrap64 (a1_2 + 4)) _ _ y194 t197 _ ?side1 ?side2 A105.out).mono ?_); (case side1 => repeat (first | exact (Kd.R_reads' HO196.out).2.2 | (with_reducible refine Kd.C_alloc ?_ _) | (with_reducible refine Kd.C_drewN ?_ _) | (with_reducible refine Kd.C_drew ?_))); (case side2 => exact (Kd.R_reads' HO196.out).2.1); rintro e w117 ⟨rfl, hb⟩; refine ⟨_, rfl, ?_⟩; have n0_ := Aside0.mk (Kd.R_below (by (with_reducible repeat (first | apply Kd.R_alloc | apply Kd.R_drewN | apply Kd.R_drew)); exact HO192.out) hb); have n1_ := Aside0.mk (Kd.R_below (by (with_reducible repeat (first | apply Kd.R_alloc | apply Kd.R_drewN | apply Kd.R_drew)); exact HO196.out) hb); have n2_ := Aside0.mk (blk_below (g := gb180) (o := .cells #[.int .i64 a1_0, .int .i64 a1_1, .int .i64 a1_2, .int .i64 a1_3, .int .i64 a1_4, .int .i64 a1_5] 31 (0, 0)) (by (with_reducible repeat (first | refine blk_drewN ?_ _ | refine blk_drew ?_ | refine blk_alloc ?_ _)); exact BK180.out) hb); have n3_ := Aside0.mk (blk_below (g := gb181) (o := .cells #[.int .i64 0, .string (⟨#[]⟩ : ByteArray), .int .i64 0, .int .i64 0, .int .i64 0, .int .i64 0, .int .i64 0, .int .i64 0, .bool false] 40 (0, 0)) (by (with_reducible repeat (first | refine blk_drewN ?_ _ | refine blk_drew ?_ | refine blk_alloc ?_ _)); exact BK181.out) hb); have n4_ := Aside0.mk (below_step (by repeat (first | (with_reducible first | exact HB.out | apply below_alloc | apply pw_below_drewN | apply below_drew1 | refine below_set ?_ GE180.out | refine below_set ?_ GE181.out) | exact HB.out)) hb); clear HO192; clear HO196; clear BK180; clear BK181; clear HB; have HO192 := n0_; have HO196 := n1_; have BK180 := n2_; have BK181 := n3_; have HB := n4_; clear n0_ n1_ n2_ n3_ n4_; (try clear hb); (try clear hb2); (try clear hk); (try clear hi); have hcz118_0 : w117.cell? ⟨gb180, 0, none⟩ = some (.int .i64 a1_0) := (blk_cell BK180.out 0).trans rfl; have hcz118_1 : w117.cell? ⟨gb180, 1, none⟩ = some (.int .i64 a1_1) := (blk_cell BK180.out 1).trans rfl; have hcz118_2 : w117.cell? ⟨gb180, 2, none⟩ = some (.int .i64 a1_2) := (blk_cell BK180.out 2).trans rfl; have hcz118_3 : w117.cell? ⟨gb180, 3, none⟩ = some (.int .i64 a1_3) := (blk_cell BK180.out 3).trans rfl; have hcz118_4 : w117.cell? ⟨gb180, 4, none⟩ = some (.int .i64 a1_4) := (blk_cell BK180.out 4).trans rfl; have hcz118_5 : w117.cell? ⟨gb180, 5, none⟩ = some (.int .i64 a1_5) := (blk_cell BK180.out 5).trans rfl; have hfz118_0 := blk_frozen BK180.out 0; have hfz118_1 := blk_frozen BK180.out 1; have hfz118_2 := blk_frozen BK180.out 2; have hfz118_3 := blk_frozen BK180.out 3; have hfz118_4 := blk_frozen BK180.out 4; have hfz118_5 := blk_frozen BK180.out 5; have hcz119_0 : w117.cell? ⟨gb181, 0, none⟩ = some (.int .i64 0) := (blk_cell BK181.out 0).trans rfl; have hcz119_1 : w117.cell? ⟨gb181, 1, none⟩ = some (.string (⟨#[]⟩ : ByteArray)) := (blk_cell BK181.out 1).trans rfl; have hcz119_2 : w117.cell? ⟨gb181, 2, none⟩ = some (.int .i64 0) := (blk_cell BK181.out 2).trans rfl; have hcz119_3 : w117.cell? ⟨gb181, 3, none⟩ = some (.int .i64 0) := (blk_cell BK181.out 3).trans rfl; have hcz119_4 : w117.cell? ⟨gb181, 4, none⟩ = some (.int .i64 0) := (blk_cell BK181.out 4).trans rfl; have hcz119_5 : w117.cell? ⟨gb181, 5, none⟩ = some (.int .i64 0) := (blk_cell BK181.out 5).trans rfl; have hcz119_6 : w117.cell? ⟨gb181, 6, none⟩ = some (.int .i64 0) := (blk_cell BK181.out 6).trans rfl; have hcz119_7 : w117.cell? ⟨gb181, 7, none⟩ = some (.int .i64 0) := (blk_cell BK181.out 7).trans rfl; have hcz119_8 : w117.cell? ⟨gb181, 8, none⟩ = some (.bool false) := (blk_cell BK181.out 8).trans rfl; have hfz119_0 := blk_frozen BK181.out 0; have hfz119_1 := blk_frozen BK181.out 1; have hfz119_2 := blk_frozen BK181.out 2; have hfz119_3 := blk_frozen BK181.out 3; have hfz119_4 := blk_frozen BK181.out 4; have hfz119_5 := blk_frozen BK181.out 5; have hfz119_6 := blk_frozen BK181.out 6; have hfz119_7 := blk_frozen BK181.out 7; have hfz119_8 := blk_frozen BK181.out 8))
                      refine bodyPost_ret (results_cell_row rfl _ _ gb181 40 #[.int .i64 0, .string t197, .int .i64 a1_0, .int .i64 a1_1, .int .i64 a1_2, .int .i64 a1_3, .int .i64 a1_4, .int .i64 a1_5, .bool false] (0, 0) _ rfl (by (with_reducible repeat (first | refine blk_drewN ?_ _ | refine blk_drew ?_ | refine blk_alloc ?_ _)); refine blk_put (cs := #[.int .i64 0, .string t197, .int .i64 a1_0, .int .i64 a1_1, .int .i64 a1_2, .int .i64 a1_3, .int .i64 a1_4, .int .i64 a1_5, .bool false]) ?_ 8 _ rfl; (with_reducible repeat (first | refine blk_drewN ?_ _ | refine blk_drew ?_ | refine blk_alloc ?_ _)); refine blk_put (cs := #[.int .i64 0, .string t197, .int .i64 a1_0, .int .i64 a1_1, .int .i64 a1_2, .int .i64 a1_3, .int .i64 a1_4, .int .i64 0, .bool false]) ?_ 7 _ rfl; (with_reducible repeat (first | refine blk_drewN ?_ _ | refine blk_drew ?_ | refine blk_alloc ?_ _)); refine blk_put (cs := #[.int .i64 0, .string t197, .int .i64 a1_0, .int .i64 a1_1, .int .i64 a1_2, .int .i64 a1_3, .int .i64 0, .int .i64 0, .bool false]) ?_ 6 _ rfl; (with_reducible repeat (first | refine blk_drewN ?_ _ | refine blk_drew ?_ | refine blk_alloc ?_ _)); refine blk_put (cs := #[.int .i64 0, .string t197, .int .i64 a1_0, .int .i64 a1_1, .int .i64 a1_2, .int .i64 0, .int .i64 0, .int .i64 0, .bool false]) ?_ 5 _ rfl; (with_reducible repeat (first | refine blk_drewN ?_ _ | refine blk_drew ?_ | refine blk_alloc ?_ _)); refine blk_put (cs := #[.int .i64 0, .string t197, .int .i64 a1_0, .int .i64 a1_1, .int .i64 0, .int .i64 0, .int .i64 0, .int .i64 0, .bool false]) ?_ 4 _ rfl; (with_reducible repeat (first | refine blk_drewN ?_ _ | refine blk_drew ?_ | refine blk_alloc ?_ _)); refine blk_put (cs := #[.int .i64 0, .string t197, .int .i64 a1_0, .int .i64 0, .int .i64 0, .int .i64 0, .int .i64 0, .int .i64 0, .bool false]) ?_ 3 _ rfl; (with_reducible repeat (first | refine blk_drewN ?_ _ | refine blk_drew ?_ | refine blk_alloc ?_ _)); refine blk_put (cs := #[.int .i64 0, .string t197, .int .i64 0, .int .i64 0, .int .i64 0, .int .i64 0, .int .i64 0, .int .i64 0, .bool false]) ?_ 2 _ rfl; (with_reducible repeat (first | refine blk_drewN ?_ _ | refine blk_drew ?_ | refine blk_alloc ?_ _)); refine blk_put (cs := #[.int .i64 0, .string (⟨#[]⟩ : ByteArray), .int .i64 0, .int .i64 0, .int .i64 0, .int .i64 0, .int .i64 0, .int .i64 0, .bool false]) ?_ 1 _ rfl; (with_reducible repeat (first | refine blk_drewN ?_ _ | refine blk_drew ?_ | refine blk_alloc ?_ _)); refine blk_put (cs := #[.int .i64 0, .string (⟨#[]⟩ : ByteArray), .int .i64 0, .int .i64 0, .int .i64 0, .int .i64 0, .int .i64 0, .int .i64 0, .bool false]) ?_ 0 _ rfl; (with_reducible repeat (first | refine blk_drewN ?_ _ | refine blk_drew ?_ | refine blk_alloc ?_ _)); exact BK181.out) Try.underlying40 rfl (by kernel_rfl)) rfl ?_
                      exact ⟨by first | rfl | (simp [errW_none, errW_some] <;> rfl) | (simp [*, errW_none, errW_some] <;> rfl), by repeat (first | (with_reducible first | exact HB.out | apply below_alloc | apply pw_below_drewN | apply below_drew1 | refine below_set ?_ GE180.out | refine below_set ?_ GE181.out) | exact HB.out)⟩

end Go.Proofs.Ythcmgjbkmnpibaa.PFnExactPostChain
