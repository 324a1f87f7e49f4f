-- Printed for this claim by this session's own program.
import Derived.Test.YtaopkodopglgeaaPFnExactTlbFindx0
import Derived.Test.YtaopkodopglgeaaPFnExactTlbFindx2
namespace Go.Proofs.Ytaopkodopglgeaa.PFnExactTlbFind
open Go.RowKit Go.Proofs.YtaopkodopglgeaaW.PrintWords Go.Proofs.YtaopkodopglgeaaW.PrintLast Go.Proofs.YtaopkodopglgeaaW.PrintMore
attribute [local go_sem] max2_int min2_int max_two min_two max_three min_three max_four min_four   -- for this text's walks alone
set_option linter.unusedVariables false
set_option linter.unusedSimpArgs false

/-! ### spec_TlbFind: function 11 -/
mutual
def spec_TlbFind.j0 : Nat → Int → Int → Int → Bool → Bool → List (S50) → Int → Option (Bool × Int × Int)
  | 0, _, _, _, _, _, _, _ => none
  | k + 1, x1, x2, x3, x4, x37, x132000, x132001 => if x37 = true then (some (false, 0, 0)) else (spec_TlbFind.l0 k x1 x2 x3 x4 0 x132000 x132001)
def spec_TlbFind.l0 : Nat → Int → Int → Int → Bool → Int → List (S50) → Int → Option (Bool × Int × Int)
  | 0, _, _, _, _, _, _, _ => none
  | k + 1, x1, x2, x3, x4, x11, x132000, x132001 => if x11 < (x132000.length : Int) then (if 0 ≤ x11 then ((spec_l03Holds.f ((rd_T50 x132000 x11).f0) ((rd_T50 x132000 x11).f1) ((rd_T50 x132000 x11).f2) ((rd_T50 x132000 x11).f3) ((rd_T50 x132000 x11).f4) x2).bind fun t137 => (if t137 = true then (if ((rd_T50 x132000 x11).f0) = x1 then (spec_TlbFind.j2 k x1 x2 x3 x4 x11 false x132000 x132001 ((rd_T50 x132000 x11).f0) ((rd_T50 x132000 x11).f1) ((rd_T50 x132000 x11).f2) ((rd_T50 x132000 x11).f3) ((rd_T50 x132000 x11).f4)) else (spec_TlbFind.j2 k x1 x2 x3 x4 x11 ((Go.bits .and .i64 ((rd_T50 x132000 x11).f3) 128) == 0) x132000 x132001 ((rd_T50 x132000 x11).f0) ((rd_T50 x132000 x11).f1) ((rd_T50 x132000 x11).f2) ((rd_T50 x132000 x11).f3) ((rd_T50 x132000 x11).f4))) else (spec_TlbFind.j2 k x1 x2 x3 x4 x11 true x132000 x132001 ((rd_T50 x132000 x11).f0) ((rd_T50 x132000 x11).f1) ((rd_T50 x132000 x11).f2) ((rd_T50 x132000 x11).f3) ((rd_T50 x132000 x11).f4)))) else (none)) else (some (false, 0, 0))
def spec_TlbFind.j2 : Nat → Int → Int → Int → Bool → Int → Bool → List (S50) → Int → Int → Int → Int → Int → Bool → Option (Bool × Int × Int)
  | 0, _, _, _, _, _, _, _, _, _, _, _, _, _ => none
  | k + 1, x1, x2, x3, x4, x11, x66, x132000, x132001, x137000, x137001, x137002, x137003, x137004 => if x66 = true then (spec_TlbFind.l0 k x1 x2 x3 x4 (wrap64 (x11 + 1)) x132000 x132001) else ((spec_l03May.f k x137003 x3 x4).bind fun t138 => (if t138 = true then (if x3 = 2 then (spec_TlbFind.j3 k x2 x11 ((Go.bits .and .i64 x137003 64) == 0) x137000 x137001 x137002 x137003 x137004) else (spec_TlbFind.j3 k x2 x11 false x137000 x137001 x137002 x137003 x137004)) else (spec_TlbFind.j3 k x2 x11 true x137000 x137001 x137002 x137003 x137004)))
def spec_TlbFind.j3 : Nat → Int → Int → Bool → Int → Int → Int → Int → Bool → Option (Bool × Int × Int)
  | 0, _, _, _, _, _, _, _, _ => none
  | k + 1, x2, x11, x82, x137000, x137001, x137002, x137003, x137004 => if x82 = true then (some (false, 0, 0)) else (if x137004 = true then (some (true, wrap64 ((wrap64 ((wrap64 (x137002 + (Int.tmod (x2 / 256) 32))) * 256)) + (Int.tmod x2 256)), x11)) else (some (true, wrap64 ((wrap64 (x137002 * 256)) + (Int.tmod x2 256)), x11)))
end
def spec_TlbFind.f (k : Nat) (l0_0 : List (S50)) (a0_1 : Int) (a1 : Int) (a2 : Int) (a3 : Int) (a4 : Bool) : Option (Bool × Int × Int) := (spec_TlbFault.f k l0_0 a0_1).bind fun t133 => (if t133 = 0 then (if a1 < 0 then (spec_TlbFind.j0 k a1 a2 a3 a4 true l0_0 a0_1) else (if a1 > 255 then (spec_TlbFind.j0 k a1 a2 a3 a4 true l0_0 a0_1) else (if a2 < 0 then (spec_TlbFind.j0 k a1 a2 a3 a4 true l0_0 a0_1) else (if a2 ≥ 262144 then (spec_TlbFind.j0 k a1 a2 a3 a4 true l0_0 a0_1) else ((spec_l03Acc.f a3).bind fun t134 => (spec_TlbFind.j0 k a1 a2 a3 a4 (!t134) l0_0 a0_1)))))) else (spec_TlbFind.j0 k a1 a2 a3 a4 true l0_0 a0_1))
theorem spec_TlbFind.mono_l : ∀ k, (∀ y0 y1 y2 y3 y4 y5 y6, LeO (spec_TlbFind.j0 k y0 y1 y2 y3 y4 y5 y6) (spec_TlbFind.j0 (k + 1) y0 y1 y2 y3 y4 y5 y6)) ∧ (∀ y0 y1 y2 y3 y4 y5 y6, LeO (spec_TlbFind.l0 k y0 y1 y2 y3 y4 y5 y6) (spec_TlbFind.l0 (k + 1) y0 y1 y2 y3 y4 y5 y6)) ∧ (∀ y0 y1 y2 y3 y4 y5 y6 y7 y8 y9 y10 y11 y12, LeO (spec_TlbFind.j2 k y0 y1 y2 y3 y4 y5 y6 y7 y8 y9 y10 y11 y12) (spec_TlbFind.j2 (k + 1) y0 y1 y2 y3 y4 y5 y6 y7 y8 y9 y10 y11 y12)) ∧ (∀ y0 y1 y2 y3 y4 y5 y6 y7, LeO (spec_TlbFind.j3 k y0 y1 y2 y3 y4 y5 y6 y7) (spec_TlbFind.j3 (k + 1) y0 y1 y2 y3 y4 y5 y6 y7))
  | 0 => ⟨fun _ _ _ _ _ _ _ r h => by simp [spec_TlbFind.j0] at h, fun _ _ _ _ _ _ _ r h => by simp [spec_TlbFind.l0] at h, fun _ _ _ _ _ _ _ _ _ _ _ _ _ r h => by simp [spec_TlbFind.j2] at h, fun _ _ _ _ _ _ _ _ r h => by simp [spec_TlbFind.j3] at h⟩
  | k + 1 => by
    obtain ⟨ih0, ih1, ih2, ih3⟩ := spec_TlbFind.mono_l k
    refine ⟨?_, ?_, ?_, ?_⟩
    · intro y0 y1 y2 y3 y4 y5 y6
      unfold spec_TlbFind.j0
      repeat' first
      | (with_reducible exact ih0 _ _ _ _ _ _ _)
      | (with_reducible exact ih1 _ _ _ _ _ _ _)
      | (with_reducible exact ih2 _ _ _ _ _ _ _ _ _ _ _ _ _)
      | (with_reducible exact ih3 _ _ _ _ _ _ _ _)
      | (with_reducible exact spec_TlbFault.mono _ _ _)
      | (with_reducible exact spec_l03May.mono _ _ _ _)
      | (with_reducible exact LeO.refl _)
      | (with_reducible exact LeO.none _)
      | (with_reducible refine LeO.ite ?_ ?_)
      | (with_reducible refine LeO.bind ?_ (fun _ => ?_))
      | exact ih0 _ _ _ _ _ _ _
      | exact ih1 _ _ _ _ _ _ _
      | exact ih2 _ _ _ _ _ _ _ _ _ _ _ _ _
      | exact ih3 _ _ _ _ _ _ _ _
      | exact spec_TlbFault.mono _ _ _
      | exact spec_l03May.mono _ _ _ _
      | exact LeO.none _
      | refine LeO.ite ?_ ?_
      | refine LeO.bind ?_ (fun _ => ?_)
    · intro y0 y1 y2 y3 y4 y5 y6
      unfold spec_TlbFind.l0
      repeat' first
      | (with_reducible exact ih0 _ _ _ _ _ _ _)
      | (with_reducible exact ih1 _ _ _ _ _ _ _)
      | (with_reducible exact ih2 _ _ _ _ _ _ _ _ _ _ _ _ _)
      | (with_reducible exact ih3 _ _ _ _ _ _ _ _)
      | (with_reducible exact spec_TlbFault.mono _ _ _)
      | (with_reducible exact spec_l03May.mono _ _ _ _)
      | (with_reducible exact LeO.refl _)
      | (with_reducible exact LeO.none _)
      | (with_reducible refine LeO.ite ?_ ?_)
      | (with_reducible refine LeO.bind ?_ (fun _ => ?_))
      | exact ih0 _ _ _ _ _ _ _
      | exact ih1 _ _ _ _ _ _ _
      | exact ih2 _ _ _ _ _ _ _ _ _ _ _ _ _
      | exact ih3 _ _ _ _ _ _ _ _
      | exact spec_TlbFault.mono _ _ _
      | exact spec_l03May.mono _ _ _ _
      | exact LeO.none _
      | refine LeO.ite ?_ ?_
      | refine LeO.bind ?_ (fun _ => ?_)
    · intro y0 y1 y2 y3 y4 y5 y6 y7 y8 y9 y10 y11 y12
      unfold spec_TlbFind.j2
      repeat' first
      | (with_reducible exact ih0 _ _ _ _ _ _ _)
      | (with_reducible exact ih1 _ _ _ _ _ _ _)
      | (with_reducible exact ih2 _ _ _ _ _ _ _ _ _ _ _ _ _)
      | (with_reducible exact ih3 _ _ _ _ _ _ _ _)
      | (with_reducible exact spec_TlbFault.mono _ _ _)
      | (with_reducible exact spec_l03May.mono _ _ _ _)
      | (with_reducible exact LeO.refl _)
      | (with_reducible exact LeO.none _)
      | (with_reducible refine LeO.ite ?_ ?_)
      | (with_reducible refine LeO.bind ?_ (fun _ => ?_))
      | exact ih0 _ _ _ _ _ _ _
      | exact ih1 _ _ _ _ _ _ _
      | exact ih2 _ _ _ _ _ _ _ _ _ _ _ _ _
      | exact ih3 _ _ _ _ _ _ _ _
      | exact spec_TlbFault.mono _ _ _
      | exact spec_l03May.mono _ _ _ _
      | exact LeO.none _
      | refine LeO.ite ?_ ?_
      | refine LeO.bind ?_ (fun _ => ?_)
    · intro y0 y1 y2 y3 y4 y5 y6 y7
      unfold spec_TlbFind.j3
      repeat' first
      | (with_reducible exact ih0 _ _ _ _ _ _ _)
      | (with_reducible exact ih1 _ _ _ _ _ _ _)
      | (with_reducible exact ih2 _ _ _ _ _ _ _ _ _ _ _ _ _)
      | (with_reducible exact ih3 _ _ _ _ _ _ _ _)
      | (with_reducible exact spec_TlbFault.mono _ _ _)
      | (with_reducible exact spec_l03May.mono _ _ _ _)
      | (with_reducible exact LeO.refl _)
      | (with_reducible exact LeO.none _)
      | (with_reducible refine LeO.ite ?_ ?_)
      | (with_reducible refine LeO.bind ?_ (fun _ => ?_))
      | exact ih0 _ _ _ _ _ _ _
      | exact ih1 _ _ _ _ _ _ _
      | exact ih2 _ _ _ _ _ _ _ _ _ _ _ _ _
      | exact ih3 _ _ _ _ _ _ _ _
      | exact spec_TlbFault.mono _ _ _
      | exact spec_l03May.mono _ _ _ _
      | exact LeO.none _
      | refine LeO.ite ?_ ?_
      | refine LeO.bind ?_ (fun _ => ?_)
theorem spec_TlbFind.mono : ∀ a0 a1 a2 a3 a4 a5 k, LeO (spec_TlbFind.f k a0 a1 a2 a3 a4 a5) (spec_TlbFind.f (k + 1) a0 a1 a2 a3 a4 a5) := by
  intro a0 a1 a2 a3 a4 a5 k
  obtain ⟨ih0, ih1, ih2, ih3⟩ := spec_TlbFind.mono_l k
  unfold spec_TlbFind.f
  repeat' first
      | (with_reducible exact ih0 _ _ _ _ _ _ _)
      | (with_reducible exact ih1 _ _ _ _ _ _ _)
      | (with_reducible exact ih2 _ _ _ _ _ _ _ _ _ _ _ _ _)
      | (with_reducible exact ih3 _ _ _ _ _ _ _ _)
      | (with_reducible exact spec_TlbFault.mono _ _ _)
      | (with_reducible exact spec_l03May.mono _ _ _ _)
      | (with_reducible exact LeO.refl _)
      | (with_reducible exact LeO.none _)
      | (with_reducible refine LeO.ite ?_ ?_)
      | (with_reducible refine LeO.bind ?_ (fun _ => ?_))
      | exact ih0 _ _ _ _ _ _ _
      | exact ih1 _ _ _ _ _ _ _
      | exact ih2 _ _ _ _ _ _ _ _ _ _ _ _ _
      | exact ih3 _ _ _ _ _ _ _ _
      | exact spec_TlbFault.mono _ _ _
      | exact spec_l03May.mono _ _ _ _
      | exact LeO.none _
      | refine LeO.ite ?_ ?_
      | refine LeO.bind ?_ (fun _ => ?_)
set_option maxHeartbeats 8000000 in
set_option maxRecDepth 100000 in
theorem spec_TlbFind.calls (k : Nat) (A0_0 : Option Addr) (c0_0 : Nat) (l0_0 : List (S50)) (a0_1 : Int) (a1 : Int) (a2 : Int) (a3 : Int) (a4 : Bool) (r1 : Bool) (r2 : Int) (r3 : Int) (w : World) (hr0_0 : Kd.C k50 w A0_0 l0_0.length l0_0) (hc0_0 : l0_0.length ≤ c0_0) (h : spec_TlbFind.f k l0_0 a0_1 a1 a2 a3 a4 = some (r1, r2, r3)) :
    Calls Try.prog 11 #[.agg #[.slice A0_0 l0_0.length c0_0, .int .i64 a0_1], .int .i64 a1, .int .i64 a2, .int .i64 a3, .bool a4] w fun e w' => e = .returned (.agg #[.bool r1, .int .i64 r2, .int .i64 r3]) ∧ Below w.heap.size w w' := by
  have hu31 := Try.underlying31
  have hu27 := Try.underlying27
  have hu50 := Try.underlying50
  have HR0_0 := Aside0.mk hr0_0
  have HC0_0 := Aside0.mk hc0_0
  clear hr0_0 hc0_0
  have HB := Aside0.mk (Below.refl w.heap.size w)
  have H : ((spec_TlbFault.f k l0_0 a0_1).bind fun t133 => (if t133 = 0 then (if a1 < 0 then (spec_TlbFind.j0 k a1 a2 a3 a4 true l0_0 a0_1) else (if a1 > 255 then (spec_TlbFind.j0 k a1 a2 a3 a4 true l0_0 a0_1) else (if a2 < 0 then (spec_TlbFind.j0 k a1 a2 a3 a4 true l0_0 a0_1) else (if a2 ≥ 262144 then (spec_TlbFind.j0 k a1 a2 a3 a4 true l0_0 a0_1) else ((spec_l03Acc.f a3).bind fun t134 => (spec_TlbFind.j0 k a1 a2 a3 a4 (!t134) l0_0 a0_1)))))) else (spec_TlbFind.j0 k a1 a2 a3 a4 true l0_0 a0_1))) = some (r1, r2, r3) := h
  clear h
  have HC6 := Aside0.mk H
  clear H
  go_enter Try.func11, Try.ntmps11
  go_upto_region 1 with (first | ((with_reducible refine gate_dst (N := 5) rfl ?_); refine box_event ?hg (N := 5) ?hd (cs := #[.slice A0_0 l0_0.length c0_0, .int .i64 a0_1]) (t := 31) ?hr ?_; (case hd => rfl); (case hg => rfl); (case hr => first | (go_simp; done) | (go_simp; rfl)); intro gb131 hg w7 hbox hb; have n0_ := Aside0.mk (below_step (by repeat (first | (with_reducible first | exact HB.out | apply below_alloc | apply pw_below_drewN | apply below_drew1) | exact HB.out)) hb); have n1_ := Aside0.mk (hbox); have n2_ := Aside0.mk ((by rw [hg]; exact (below_size (by repeat (first | (with_reducible first | exact HB.out | apply below_alloc | apply pw_below_drewN | apply below_drew1) | exact HB.out))) : w.heap.size ≤ gb131)); have n3_ := Aside0.mk ((by rw [hg]; exact (below_size (by repeat (first | (with_reducible first | exact HB.out | apply below_alloc | apply pw_below_drewN | apply below_drew1) | exact HB.out))) : w.heap.size ≤ gb131)); clear HB; have HB := n0_; have BK131 := n1_; have GW131 := n2_; have GE131 := n3_; clear n0_ n1_ n2_ n3_; clear hb hbox hg) | ((with_reducible refine gate_dst (N := 10) rfl ?_); refine box_event ?hg (N := 10) ?hd (cs := #[.bool false, .int .i64 0, .int .i64 0]) (t := 27) ?hr ?_; (case hd => rfl); (case hg => rfl); (case hr => first | (go_simp; done) | (go_simp; rfl)); intro gb132 hg w8 hbox hb; have n0_ := Aside0.mk (blk_below (g := gb131) (o := .cells #[.slice A0_0 l0_0.length c0_0, .int .i64 a0_1] 31 (0, 0)) (by (with_reducible repeat (first | refine blk_drewN ?_ _ | refine blk_drew ?_ | refine blk_alloc ?_ _)); exact BK131.out) hb); have n1_ := Aside0.mk (below_step (by repeat (first | (with_reducible first | exact HB.out | apply below_alloc | apply pw_below_drewN | apply below_drew1 | refine below_set ?_ GE131.out) | exact HB.out)) hb); have n2_ := Aside0.mk (hbox); have n3_ := Aside0.mk ((by rw [hg]; exact (below_size (by repeat (first | (with_reducible first | exact HB.out | apply below_alloc | apply pw_below_drewN | apply below_drew1 | refine below_set ?_ GE131.out) | exact HB.out))) : w.heap.size ≤ gb132)); have n4_ := Aside0.mk ((by rw [hg]; exact (below_size (by repeat (first | (with_reducible first | exact HB.out | apply below_alloc | apply pw_below_drewN | apply below_drew1 | refine below_set ?_ GE131.out) | exact HB.out))) : w.heap.size ≤ gb132)); have n5_ := Aside0.mk ((by rw [hg]; exact Nat.ne_of_lt (blk_lt (g := gb131) (o := .cells #[.slice A0_0 l0_0.length c0_0, .int .i64 a0_1] 31 (0, 0)) (by (with_reducible repeat (first | refine blk_drewN ?_ _ | refine blk_drew ?_ | refine blk_alloc ?_ _)); exact BK131.out)) : gb131 ≠ gb132)); have n6_ := Aside0.mk ((by rw [hg]; exact Nat.ne_of_gt (blk_lt (g := gb131) (o := .cells #[.slice A0_0 l0_0.length c0_0, .int .i64 a0_1] 31 (0, 0)) (by (with_reducible repeat (first | refine blk_drewN ?_ _ | refine blk_drew ?_ | refine blk_alloc ?_ _)); exact BK131.out)) : gb132 ≠ gb131)); clear BK131; clear HB; have BK131 := n0_; have HB := n1_; have BK132 := n2_; have GW132 := n3_; have GE132 := n4_; have NB131_132 := n5_; have NB132_131 := n6_; clear n0_ n1_ n2_ n3_ n4_ n5_ n6_; clear hb hbox hg))
  (try simp only [Act.put, List.setIfInBounds_toArray, List.set_cons_zero, List.set_cons_succ])
  go_cut [37] (fun v37 wc => ∃ (kq : Nat) (x37_5 : Bool), v37 = .bool x37_5 ∧ Aside0 (spec_TlbFind.j0 kq a1 a2 a3 a4 x37_5 l0_0 a0_1 = some (r1, r2, r3)) ∧ Aside0 (kq ≤ k) ∧ Aside0 (wc.heap[gb131]? = some (.cells #[(.slice A0_0 l0_0.length c0_0), .int .i64 a0_1] 31 (0, 0))) ∧ Aside0 (wc.heap[gb132]? = some (.cells #[.bool false, .int .i64 0, .int .i64 0] 27 (0, 0))) ∧ Aside0 (Below w.heap.size w wc))
  case first =>
    have H := HC6.out
    clear HC6
    replace H := Option.bind_eq_some_iff.mp H
    obtain ⟨t133, A90, H⟩ := H
    replace H : (if t133 = 0 then (if a1 < 0 then (spec_TlbFind.j0 k a1 a2 a3 a4 true l0_0 a0_1) else (if a1 > 255 then (spec_TlbFind.j0 k a1 a2 a3 a4 true l0_0 a0_1) else (if a2 < 0 then (spec_TlbFind.j0 k a1 a2 a3 a4 true l0_0 a0_1) else (if a2 ≥ 262144 then (spec_TlbFind.j0 k a1 a2 a3 a4 true l0_0 a0_1) else ((spec_l03Acc.f a3).bind fun t134 => (spec_TlbFind.j0 k a1 a2 a3 a4 (!t134) l0_0 a0_1)))))) else (spec_TlbFind.j0 k a1 a2 a3 a4 true l0_0 a0_1)) = some (r1, r2, r3) := H
    have A9 := Aside0.mk A90
    clear A90
    by_cases c10 : t133 = 0
    · rw [if_pos c10] at H
      have c10b0 : (t133 == 0) = true := beq_iff_eq.mpr c10
      have c10b1 : (t133 != 0) = false := bne_eq_false_iff_eq.mpr c10
      clear c10
      (first | rw [c10b0] | (simp only [i64_w, i32_w]; rw [c10b0]) | skip)
      by_cases c11 : a1 < 0
      · rw [if_pos c11] at H
        have c11b0 : decide (a1 < 0) = true := decide_eq_true c11
        clear c11
        have H' := Aside0.mk H
        clear H
        have hnb12 := NB131_132.out
        have hnc12 := NB132_131.out
        have hcz13_0 : w8.cell? ⟨gb131, 0, none⟩ = some (.slice A0_0 l0_0.length c0_0) := (blk_cell BK131.out 0).trans rfl
        have hcz13_1 : w8.cell? ⟨gb131, 1, none⟩ = some (.int .i64 a0_1) := (blk_cell BK131.out 1).trans rfl
        have hfz13_0 := blk_frozen BK131.out 0
        have hfz13_1 := blk_frozen BK131.out 1
        go_wp2_with (first | ((with_reducible refine gate_callee (f := 25) rfl ?_); refine goesL_ (some 15) rfl rfl Try.func25 (by kernel_rfl) rfl #[.agg #[.slice A0_0 l0_0.length c0_0, .int .i64 a0_1]] rfl (by (try simp only [List.map_toArray, List.map_cons, List.map_nil]); first | done | rfl | (simp only [List.length_drop, List.length_take]; rfl)) ?_; (with_reducible refine (spec_TlbFault.calls k _ _ l0_0 a0_1 t133 _ ?side1 ?side2 A9.out).mono ?_); (case side1 => repeat (first | exact (Kd.C_below HR0_0.out HB.out) | (with_reducible refine Kd.C_alloc ?_ _) | (with_reducible refine Kd.C_drewN ?_ _) | (with_reducible refine Kd.C_drew ?_))); (case side2 => exact HC0_0.out); rintro e w14 ⟨rfl, hb⟩; refine ⟨_, rfl, ?_⟩; have n0_ := Aside0.mk (blk_below (g := gb131) (o := .cells #[.slice A0_0 l0_0.length c0_0, .int .i64 a0_1] 31 (0, 0)) (by (with_reducible repeat (first | refine blk_drewN ?_ _ | refine blk_drew ?_ | refine blk_alloc ?_ _)); exact BK131.out) hb); have n1_ := Aside0.mk (blk_below (g := gb132) (o := .cells #[.bool false, .int .i64 0, .int .i64 0] 27 (0, 0)) (by (with_reducible repeat (first | refine blk_drewN ?_ _ | refine blk_drew ?_ | refine blk_alloc ?_ _)); exact BK132.out) hb); have n2_ := Aside0.mk (below_step (by repeat (first | (with_reducible first | exact HB.out | apply below_alloc | apply pw_below_drewN | apply below_drew1 | refine below_set ?_ GE131.out | refine below_set ?_ GE132.out) | exact HB.out)) hb); clear BK131; clear BK132; clear HB; have BK131 := n0_; have BK132 := n1_; have HB := n2_; clear n0_ n1_ n2_; (try clear hb); (try clear hb2); (try clear hk); (try clear hi)))
        go_meet
        case rel => exact ⟨_, (true), (by first | rfl | (simp; done) | (simp [*]; done)), H', ⟨by first | omega | exact Nat.le_refl _⟩, ⟨by (with_reducible repeat (first | refine blk_drewN ?_ _ | refine blk_drew ?_ | refine blk_alloc ?_ _)); exact BK131.out⟩, ⟨by (with_reducible repeat (first | refine blk_drewN ?_ _ | refine blk_drew ?_ | refine blk_alloc ?_ _)); exact BK132.out⟩, ⟨by repeat (first | (with_reducible first | exact HB.out | apply below_alloc | apply pw_below_drewN | apply below_drew1 | refine below_set ?_ GE131.out | refine below_set ?_ GE132.out) | exact HB.out)⟩⟩
      · rw [if_neg c11] at H
        have c11b0 : decide (a1 < 0) = false := decide_eq_false c11
        clear c11
        by_cases c15 : a1 > 255
        · rw [if_pos c15] at H
          have c15b0 : decide (255 < a1) = true := decide_eq_true c15
          clear c15
          have H' := Aside0.mk H
          clear H
          have hnb16 := NB131_132.out
          have hnc16 := NB132_131.out
          have hcz17_0 : w8.cell? ⟨gb131, 0, none⟩ = some (.slice A0_0 l0_0.length c0_0) := (blk_cell BK131.out 0).trans rfl
          have hcz17_1 : w8.cell? ⟨gb131, 1, none⟩ = some (.int .i64 a0_1) := (blk_cell BK131.out 1).trans rfl
          have hfz17_0 := blk_frozen BK131.out 0
          have hfz17_1 := blk_frozen BK131.out 1
          go_wp2_with (first | ((with_reducible refine gate_callee (f := 25) rfl ?_); refine goesL_ (some 15) rfl rfl Try.func25 (by kernel_rfl) rfl #[.agg #[.slice A0_0 l0_0.length c0_0, .int .i64 a0_1]] rfl (by (try simp only [List.map_toArray, List.map_cons, List.map_nil]); first | done | rfl | (simp only [List.length_drop, List.length_take]; rfl)) ?_; (with_reducible refine (spec_TlbFault.calls k _ _ l0_0 a0_1 t133 _ ?side1 ?side2 A9.out).mono ?_); (case side1 => repeat (first | exact (Kd.C_below HR0_0.out HB.out) | (with_reducible refine Kd.C_alloc ?_ _) | (with_reducible refine Kd.C_drewN ?_ _) | (with_reducible refine Kd.C_drew ?_))); (case side2 => exact HC0_0.out); rintro e w18 ⟨rfl, hb⟩; refine ⟨_, rfl, ?_⟩; have n0_ := Aside0.mk (blk_below (g := gb131) (o := .cells #[.slice A0_0 l0_0.length c0_0, .int .i64 a0_1] 31 (0, 0)) (by (with_reducible repeat (first | refine blk_drewN ?_ _ | refine blk_drew ?_ | refine blk_alloc ?_ _)); exact BK131.out) hb); have n1_ := Aside0.mk (blk_below (g := gb132) (o := .cells #[.bool false, .int .i64 0, .int .i64 0] 27 (0, 0)) (by (with_reducible repeat (first | refine blk_drewN ?_ _ | refine blk_drew ?_ | refine blk_alloc ?_ _)); exact BK132.out) hb); have n2_ := Aside0.mk (below_step (by repeat (first | (with_reducible first | exact HB.out | apply below_alloc | apply pw_below_drewN | apply below_drew1 | refine below_set ?_ GE131.out | refine below_set ?_ GE132.out) | exact HB.out)) hb); clear BK131; clear BK132; clear HB; have BK131 := n0_; have BK132 := n1_; have HB := n2_; clear n0_ n1_ n2_; (try clear hb); (try clear hb2); (try clear hk); (try clear hi)))
          go_meet
          case rel => exact ⟨_, (true), (by first | rfl | (simp; done) | (simp [*]; done)), H', ⟨by first | omega | exact Nat.le_refl _⟩, ⟨by (with_reducible repeat (first | refine blk_drewN ?_ _ | refine blk_drew ?_ | refine blk_alloc ?_ _)); exact BK131.out⟩, ⟨by (with_reducible repeat (first | refine blk_drewN ?_ _ | refine blk_drew ?_ | refine blk_alloc ?_ _)); exact BK132.out⟩, ⟨by repeat (first | (with_reducible first | exact HB.out | apply below_alloc | apply pw_below_drewN | apply below_drew1 | refine below_set ?_ GE131.out | refine below_set ?_ GE132.out) | exact HB.out)⟩⟩
        · rw [if_neg c15] at H
          have c15b0 : decide (255 < a1) = false := decide_eq_false c15
          clear c15
          by_cases c19 : a2 < 0
          · rw [if_pos c19] at H
            have c19b0 : decide (a2 < 0) = true := decide_eq_true c19
            clear c19
            have H' := Aside0.mk H
            clear H
            have hnb20 := NB131_132.out
            have hnc20 := NB132_131.out
            have hcz21_0 : w8.cell? ⟨gb131, 0, none⟩ = some (.slice A0_0 l0_0.length c0_0) := (blk_cell BK131.out 0).trans rfl
            have hcz21_1 : w8.cell? ⟨gb131, 1, none⟩ = some (.int .i64 a0_1) := (blk_cell BK131.out 1).trans rfl
            have hfz21_0 := blk_frozen BK131.out 0
            have hfz21_1 := blk_frozen BK131.out 1
            go_wp2_with (first | ((with_reducible refine gate_callee (f := 25) rfl ?_); refine goesL_ (some 15) rfl rfl Try.func25 (by kernel_rfl) rfl #[.agg #[.slice A0_0 l0_0.length c0_0, .int .i64 a0_1]] rfl (by (try simp only [List.map_toArray, List.map_cons, List.map_nil]); first | done | rfl | (simp only [List.length_drop, List.length_take]; rfl)) ?_; (with_reducible refine (spec_TlbFault.calls k _ _ l0_0 a0_1 t133 _ ?side1 ?side2 A9.out).mono ?_); (case side1 => repeat (first | exact (Kd.C_below HR0_0.out HB.out) | (with_reducible refine Kd.C_alloc ?_ _) | (with_reducible refine Kd.C_drewN ?_ _) | (with_reducible refine Kd.C_drew ?_))); (case side2 => exact HC0_0.out); rintro e w22 ⟨rfl, hb⟩; refine ⟨_, rfl, ?_⟩; have n0_ := Aside0.mk (blk_below (g := gb131) (o := .cells #[.slice A0_0 l0_0.length c0_0, .int .i64 a0_1] 31 (0, 0)) (by (with_reducible repeat (first | refine blk_drewN ?_ _ | refine blk_drew ?_ | refine blk_alloc ?_ _)); exact BK131.out) hb); have n1_ := Aside0.mk (blk_below (g := gb132) (o := .cells #[.bool false, .int .i64 0, .int .i64 0] 27 (0, 0)) (by (with_reducible repeat (first | refine blk_drewN ?_ _ | refine blk_drew ?_ | refine blk_alloc ?_ _)); exact BK132.out) hb); have n2_ := Aside0.mk (below_step (by repeat (first | (with_reducible first | exact HB.out | apply below_alloc | apply pw_below_drewN | apply below_drew1 | refine below_set ?_ GE131.out | refine below_set ?_ GE132.out) | exact HB.out)) hb); clear BK131; clear BK132; clear HB; have BK131 := n0_; have BK132 := n1_; have HB := n2_; clear n0_ n1_ n2_; (try clear hb); (try clear hb2); (try clear hk); (try clear hi)))
            go_meet
            case rel => exact ⟨_, (true), (by first | rfl | (simp; done) | (simp [*]; done)), H', ⟨by first | omega | exact Nat.le_refl _⟩, ⟨by (with_reducible repeat (first | refine blk_drewN ?_ _ | refine blk_drew ?_ | refine blk_alloc ?_ _)); exact BK131.out⟩, ⟨by (with_reducible repeat (first | refine blk_drewN ?_ _ | refine blk_drew ?_ | refine blk_alloc ?_ _)); exact BK132.out⟩, ⟨by repeat (first | (with_reducible first | exact HB.out | apply below_alloc | apply pw_below_drewN | apply below_drew1 | refine below_set ?_ GE131.out | refine below_set ?_ GE132.out) | exact HB.out)⟩⟩
          · rw [if_neg c19] at H
            have c19b0 : decide (a2 < 0) = false := decide_eq_false c19
            clear c19
            by_cases c23 : a2 ≥ 262144
            · rw [if_pos c23] at H
              have c23b0 : decide (262144 ≤ a2) = true := decide_eq_true c23
              clear c23
              have H' := Aside0.mk H
              clear H
              have hnb24 := NB131_132.out
              have hnc24 := NB132_131.out
              have hcz25_0 : w8.cell? ⟨gb131, 0, none⟩ = some (.slice A0_0 l0_0.length c0_0) := (blk_cell BK131.out 0).trans rfl
              have hcz25_1 : w8.cell? ⟨gb131, 1, none⟩ = some (.int .i64 a0_1) := (blk_cell BK131.out 1).trans rfl
              have hfz25_0 := blk_frozen BK131.out 0
              have hfz25_1 := blk_frozen BK131.out 1
              go_wp2_with (first | ((with_reducible refine gate_callee (f := 25) rfl ?_); refine goesL_ (some 15) rfl rfl Try.func25 (by kernel_rfl) rfl #[.agg #[.slice A0_0 l0_0.length c0_0, .int .i64 a0_1]] rfl (by (try simp only [List.map_toArray, List.map_cons, List.map_nil]); first | done | rfl | (simp only [List.length_drop, List.length_take]; rfl)) ?_; (with_reducible refine (spec_TlbFault.calls k _ _ l0_0 a0_1 t133 _ ?side1 ?side2 A9.out).mono ?_); (case side1 => repeat (first | exact (Kd.C_below HR0_0.out HB.out) | (with_reducible refine Kd.C_alloc ?_ _) | (with_reducible refine Kd.C_drewN ?_ _) | (with_reducible refine Kd.C_drew ?_))); (case side2 => exact HC0_0.out); rintro e w26 ⟨rfl, hb⟩; refine ⟨_, rfl, ?_⟩; have n0_ := Aside0.mk (blk_below (g := gb131) (o := .cells #[.slice A0_0 l0_0.length c0_0, .int .i64 a0_1] 31 (0, 0)) (by (with_reducible repeat (first | refine blk_drewN ?_ _ | refine blk_drew ?_ | refine blk_alloc ?_ _)); exact BK131.out) hb); have n1_ := Aside0.mk (blk_below (g := gb132) (o := .cells #[.bool false, .int .i64 0, .int .i64 0] 27 (0, 0)) (by (with_reducible repeat (first | refine blk_drewN ?_ _ | refine blk_drew ?_ | refine blk_alloc ?_ _)); exact BK132.out) hb); have n2_ := Aside0.mk (below_step (by repeat (first | (with_reducible first | exact HB.out | apply below_alloc | apply pw_below_drewN | apply below_drew1 | refine below_set ?_ GE131.out | refine below_set ?_ GE132.out) | exact HB.out)) hb); clear BK131; clear BK132; clear HB; have BK131 := n0_; have BK132 := n1_; have HB := n2_; clear n0_ n1_ n2_; (try clear hb); (try clear hb2); (try clear hk); (try clear hi)))
              go_meet
              case rel => exact ⟨_, (true), (by first | rfl | (simp; done) | (simp [*]; done)), H', ⟨by first | omega | exact Nat.le_refl _⟩, ⟨by (with_reducible repeat (first | refine blk_drewN ?_ _ | refine blk_drew ?_ | refine blk_alloc ?_ _)); exact BK131.out⟩, ⟨by (with_reducible repeat (first | refine blk_drewN ?_ _ | refine blk_drew ?_ | refine blk_alloc ?_ _)); exact BK132.out⟩, ⟨by repeat (first | (with_reducible first | exact HB.out | apply below_alloc | apply pw_below_drewN | apply below_drew1 | refine below_set ?_ GE131.out | refine below_set ?_ GE132.out) | exact HB.out)⟩⟩
            · rw [if_neg c23] at H
              have c23b0 : decide (262144 ≤ a2) = false := decide_eq_false c23
              clear c23
              replace H := Option.bind_eq_some_iff.mp H
              obtain ⟨t134, A270, H⟩ := H
              replace H : (spec_TlbFind.j0 k a1 a2 a3 a4 (!t134) l0_0 a0_1) = some (r1, r2, r3) := H
              have A27 := Aside0.mk A270
              clear A270
              have H' := Aside0.mk H
              clear H
              have hnb28 := NB131_132.out
              have hnc28 := NB132_131.out
              have hcz29_0 : w8.cell? ⟨gb131, 0, none⟩ = some (.slice A0_0 l0_0.length c0_0) := (blk_cell BK131.out 0).trans rfl
              have hcz29_1 : w8.cell? ⟨gb131, 1, none⟩ = some (.int .i64 a0_1) := (blk_cell BK131.out 1).trans rfl
              have hfz29_0 := blk_frozen BK131.out 0
              have hfz29_1 := blk_frozen BK131.out 1
              go_wp2_with (first | ((with_reducible refine gate_callee (f := 25) rfl ?_); refine goesL_ (some 15) rfl rfl Try.func25 (by kernel_rfl) rfl #[.agg #[.slice A0_0 l0_0.length c0_0, .int .i64 a0_1]] rfl (by (try simp only [List.map_toArray, List.map_cons, List.map_nil]); first | done | rfl | (simp only [List.length_drop, List.length_take]; rfl)) ?_; (with_reducible refine (spec_TlbFault.calls k _ _ l0_0 a0_1 t133 _ ?side1 ?side2 A9.out).mono ?_); (case side1 => repeat (first | exact (Kd.C_below HR0_0.out HB.out) | (with_reducible refine Kd.C_alloc ?_ _) | (with_reducible refine Kd.C_drewN ?_ _) | (with_reducible refine Kd.C_drew ?_))); (case side2 => exact HC0_0.out); rintro e w30 ⟨rfl, hb⟩; refine ⟨_, rfl, ?_⟩; have n0_ := Aside0.mk (blk_below (g := gb131) (o := .cells #[.slice A0_0 l0_0.length c0_0, .int .i64 a0_1] 31 (0, 0)) (by (with_reducible repeat (first | refine blk_drewN ?_ _ | refine blk_drew ?_ | refine blk_alloc ?_ _)); exact BK131.out) hb); have n1_ := Aside0.mk (blk_below (g := gb132) (o := .cells #[.bool false, .int .i64 0, .int .i64 0] 27 (0, 0)) (by (with_reducible repeat (first | refine blk_drewN ?_ _ | refine blk_drew ?_ | refine blk_alloc ?_ _)); exact BK132.out) hb); have n2_ := Aside0.mk (below_step (by repeat (first | (with_reducible first | exact HB.out | apply below_alloc | apply pw_below_drewN | apply below_drew1 | refine below_set ?_ GE131.out | refine below_set ?_ GE132.out) | exact HB.out)) hb); clear BK131; clear BK132; clear HB; have BK131 := n0_; have BK132 := n1_; have HB := n2_; clear n0_ n1_ n2_; (try clear hb); (try clear hb2); (try clear hk); (try clear hi)) | (go_at_call 56; (with_reducible refine (spec_l03Acc.calls a3 t134 _ A27.out).mono ?_); rintro e w' ⟨rfl, ⟨nd, rfl⟩⟩))
              go_meet
              case rel => exact ⟨_, (!t134), (by first | rfl | (simp; done) | (simp [*]; done)), H', ⟨by first | omega | exact Nat.le_refl _⟩, ⟨by (with_reducible repeat (first | refine blk_drewN ?_ _ | refine blk_drew ?_ | refine blk_alloc ?_ _)); exact BK131.out⟩, ⟨by (with_reducible repeat (first | refine blk_drewN ?_ _ | refine blk_drew ?_ | refine blk_alloc ?_ _)); exact BK132.out⟩, ⟨by repeat (first | (with_reducible first | exact HB.out | apply below_alloc | apply pw_below_drewN | apply below_drew1 | refine below_set ?_ GE131.out | refine below_set ?_ GE132.out) | exact HB.out)⟩⟩
    · rw [if_neg c10] at H
      have c10b0 : (t133 == 0) = false := beq_eq_false_iff_ne.mpr c10
      have c10b1 : (t133 != 0) = true := bne_iff_ne.mpr c10
      (first | rw [c10b0] | (simp only [i64_w, i32_w]; rw [c10b0]) | skip)
      have H' := Aside0.mk H
      clear H
      have hnb31 := NB131_132.out
      have hnc31 := NB132_131.out
      have hcz32_0 : w8.cell? ⟨gb131, 0, none⟩ = some (.slice A0_0 l0_0.length c0_0) := (blk_cell BK131.out 0).trans rfl
      have hcz32_1 : w8.cell? ⟨gb131, 1, none⟩ = some (.int .i64 a0_1) := (blk_cell BK131.out 1).trans rfl
      have hfz32_0 := blk_frozen BK131.out 0
      have hfz32_1 := blk_frozen BK131.out 1
      go_wp2_with (first | ((with_reducible refine gate_callee (f := 25) rfl ?_); refine goesL_ (some 15) rfl rfl Try.func25 (by kernel_rfl) rfl #[.agg #[.slice A0_0 l0_0.length c0_0, .int .i64 a0_1]] rfl (by (try simp only [List.map_toArray, List.map_cons, List.map_nil]); first | done | rfl | (simp only [List.length_drop, List.length_take]; rfl)) ?_; (with_reducible refine (spec_TlbFault.calls k _ _ l0_0 a0_1 t133 _ ?side1 ?side2 A9.out).mono ?_); (case side1 => repeat (first | exact (Kd.C_below HR0_0.out HB.out) | (with_reducible refine Kd.C_alloc ?_ _) | (with_reducible refine Kd.C_drewN ?_ _) | (with_reducible refine Kd.C_drew ?_))); (case side2 => exact HC0_0.out); rintro e w33 ⟨rfl, hb⟩; refine ⟨_, rfl, ?_⟩; have n0_ := Aside0.mk (blk_below (g := gb131) (o := .cells #[.slice A0_0 l0_0.length c0_0, .int .i64 a0_1] 31 (0, 0)) (by (with_reducible repeat (first | refine blk_drewN ?_ _ | refine blk_drew ?_ | refine blk_alloc ?_ _)); exact BK131.out) hb); have n1_ := Aside0.mk (blk_below (g := gb132) (o := .cells #[.bool false, .int .i64 0, .int .i64 0] 27 (0, 0)) (by (with_reducible repeat (first | refine blk_drewN ?_ _ | refine blk_drew ?_ | refine blk_alloc ?_ _)); exact BK132.out) hb); have n2_ := Aside0.mk (below_step (by repeat (first | (with_reducible first | exact HB.out | apply below_alloc | apply pw_below_drewN | apply below_drew1 | refine below_set ?_ GE131.out | refine below_set ?_ GE132.out) | exact HB.out)) hb); clear BK131; clear BK132; clear HB; have BK131 := n0_; have BK132 := n1_; have HB := n2_; clear n0_ n1_ n2_; (try clear hb); (try clear hb2); (try clear hk); (try clear hi)))
      go_meet
      case rel => exact ⟨_, (true), (by first | rfl | (simp; done) | (simp [*]; done)), H', ⟨by first | omega | exact Nat.le_refl _⟩, ⟨by (with_reducible repeat (first | refine blk_drewN ?_ _ | refine blk_drew ?_ | refine blk_alloc ?_ _)); exact BK131.out⟩, ⟨by (with_reducible repeat (first | refine blk_drewN ?_ _ | refine blk_drew ?_ | refine blk_alloc ?_ _)); exact BK132.out⟩, ⟨by repeat (first | (with_reducible first | exact HB.out | apply below_alloc | apply pw_below_drewN | apply below_drew1 | refine below_set ?_ GE131.out | refine below_set ?_ GE132.out) | exact HB.out)⟩⟩
  case rest =>
    clear HC6
    try clear c1
    try clear c2
    try clear p2
    try clear c3
    try clear c10
    try clear c10b0
    try clear c10b1
    try clear c11
    try clear c11b0
    try clear c12
    try clear c15
    try clear c15b0
    try clear c16
    try clear c19
    try clear c19b0
    try clear c20
    try clear c23
    try clear c23b0
    try clear c24
    try clear c25
    try clear c28
    try clear c31
    try clear hcz13_0
    try clear hcz13_1
    try clear hcz17_0
    try clear hcz17_1
    try clear hcz21_0
    try clear hcz21_1
    try clear hcz25_0
    try clear hcz25_1
    try clear hcz29_0
    try clear hcz29_1
    try clear hcz32_0
    try clear hcz32_1
    try clear hfz13_0
    try clear hfz13_1
    try clear hfz17_0
    try clear hfz17_1
    try clear hfz21_0
    try clear hfz21_1
    try clear hfz25_0
    try clear hfz25_1
    try clear hfz29_0
    try clear hfz29_1
    try clear hfz32_0
    try clear hfz32_1
    obtain ⟨kq, x37_5, rfl, HA, HJ5, BK131, BK132, HB⟩ := hcut
    cases kq with
    | zero => exact absurd HA.out (by simp [spec_TlbFind.j0])
    | succ kj5 =>
      have H := HA.out
      clear HA
      simp only [spec_TlbFind.j0] at H
      by_cases c34 : x37_5 = true
      · subst c34
        have H1 : (some (false, 0, 0)) = some (r1, r2, r3) := by rw [if_pos rfl] at H; exact H
        clear H
        have H := H1
        clear H1
        simp only [Option.some.injEq, Prod.mk.injEq] at H
        obtain ⟨rfl, rfl, rfl⟩ := H
        have hnb35 := NB132_131.out
        have hnc35 := NB131_132.out
        have hcz36_0 : wc.cell? ⟨gb132, 0, none⟩ = some (.bool false) := (blk_cell BK132.out 0).trans rfl
        have hcz36_1 : wc.cell? ⟨gb132, 1, none⟩ = some (.int .i64 0) := (blk_cell BK132.out 1).trans rfl
        have hcz36_2 : wc.cell? ⟨gb132, 2, none⟩ = some (.int .i64 0) := (blk_cell BK132.out 2).trans rfl
        have hfz36_0 := blk_frozen BK132.out 0
        have hfz36_1 := blk_frozen BK132.out 1
        have hfz36_2 := blk_frozen BK132.out 2
        go_wp2
        refine bodyPost_ret (results_cell_row rfl _ _ gb132 27 #[.bool false, .int .i64 0, .int .i64 0] (0, 0) _ rfl (by (with_reducible repeat (first | refine blk_drewN ?_ _ | refine blk_drew ?_ | refine blk_alloc ?_ _)); refine blk_put (cs := #[.bool false, .int .i64 0, .int .i64 0]) ?_ 2 _ rfl; (with_reducible repeat (first | refine blk_drewN ?_ _ | refine blk_drew ?_ | refine blk_alloc ?_ _)); refine blk_put (cs := #[.bool false, .int .i64 0, .int .i64 0]) ?_ 1 _ rfl; (with_reducible repeat (first | refine blk_drewN ?_ _ | refine blk_drew ?_ | refine blk_alloc ?_ _)); refine blk_put (cs := #[.bool false, .int .i64 0, .int .i64 0]) ?_ 0 _ rfl; (with_reducible repeat (first | refine blk_drewN ?_ _ | refine blk_drew ?_ | refine blk_alloc ?_ _)); exact BK132.out) Try.underlying27 rfl (by kernel_rfl)) rfl ?_
        exact ⟨by first | rfl | (simp [errW_none, errW_some] <;> rfl) | (simp [*, errW_none, errW_some] <;> rfl), by repeat (first | (with_reducible first | exact HB.out | apply below_alloc | apply pw_below_drewN | apply below_drew1 | refine below_set ?_ GE131.out | refine below_set ?_ GE132.out) | exact HB.out)⟩
      · replace c34 := Bool.eq_false_iff.mpr c34
        subst c34
        have H1 : (spec_TlbFind.l0 kj5 a1 a2 a3 a4 0 l0_0 a0_1) = some (r1, r2, r3) := by rw [if_neg (show ¬ (false = true) by decide)] at H; exact H
        clear H
        have H := H1
        clear H1
        have H' := Aside0.mk H
        clear H
        go_wp2
        go_loopg [11] kj5 (fun kq v11 w' => ∃ (x11_2 : Int) (x133000_2 : Bool) (x133001_2 : Int) (x133002_2 : Int), v11 = .int .i64 x11_2 ∧ Aside0 (spec_TlbFind.l0 kq a1 a2 a3 a4 x11_2 l0_0 a0_1 = some (r1, r2, r3)) ∧ Aside0 (kq ≤ kj5) ∧ Aside0 (w'.heap[gb131]? = some (.cells #[(.slice A0_0 l0_0.length c0_0), .int .i64 a0_1] 31 (0, 0))) ∧ Aside0 (w'.heap[gb132]? = some (.cells #[.bool x133000_2, .int .i64 x133001_2, .int .i64 x133002_2] 27 (0, 0))) ∧ Aside0 (Below w.heap.size w w'))
        case atStart => exact ⟨(0), (false), (0), (0), (by first | rfl | (simp; done) | (simp [*]; done)), H', ⟨Nat.le_refl _⟩, ⟨by (with_reducible repeat (first | refine blk_drewN ?_ _ | refine blk_drew ?_ | refine blk_alloc ?_ _)); exact BK131.out⟩, ⟨by (with_reducible repeat (first | refine blk_drewN ?_ _ | refine blk_drew ?_ | refine blk_alloc ?_ _)); exact BK132.out⟩, ⟨by repeat (first | (with_reducible first | exact HB.out | apply below_alloc | apply pw_below_drewN | apply below_drew1 | refine below_set ?_ GE131.out | refine below_set ?_ GE132.out) | exact HB.out)⟩⟩
        case round =>
          clear H'
          try clear c1
          try clear c2
          try clear p2
          try clear c3
          try clear c10
          try clear c10b0
          try clear c10b1
          try clear c11
          try clear c11b0
          try clear c12
          try clear c15
          try clear c15b0
          try clear c16
          try clear c19
          try clear c19b0
          try clear c20
          try clear c23
          try clear c23b0
          try clear c24
          try clear c25
          try clear c28
          try clear c31
          try clear c34
          try clear c35
          try clear hcz13_0
          try clear hcz13_1
          try clear hcz17_0
          try clear hcz17_1
          try clear hcz21_0
          try clear hcz21_1
          try clear hcz25_0
          try clear hcz25_1
          try clear hcz29_0
          try clear hcz29_1
          try clear hcz32_0
          try clear hcz32_1
          try clear hcz36_0
          try clear hcz36_1
          try clear hcz36_2
          try clear hfz13_0
          try clear hfz13_1
          try clear hfz17_0
          try clear hfz17_1
          try clear hfz21_0
          try clear hfz21_1
          try clear hfz25_0
          try clear hfz25_1
          try clear hfz29_0
          try clear hfz29_1
          try clear hfz32_0
          try clear hfz32_1
          try clear hfz36_0
          try clear hfz36_1
          try clear hfz36_2
          try clear p2
          obtain ⟨x11_2, x133000_2, x133001_2, x133002_2, rfl, HA, HK2, BK131, BK132, HB⟩ := hrel
          cases gk with
          | zero => exact absurd HA.out (by simp [spec_TlbFind.l0])
          | succ k2 =>
            have H := HA.out
            clear HA
            simp only [spec_TlbFind.l0] at H
            by_cases c37 : x11_2 < (l0_0.length : Int)
            · rw [if_pos c37] at H
              have c37b0 : decide (x11_2 < (l0_0.length : Int)) = true := decide_eq_true c37
              clear c37
              by_cases c38 : 0 ≤ x11_2
              · rw [if_pos c38] at H
                have c38b0 : decide (0 ≤ x11_2) = true := decide_eq_true c38
                clear c38
                have HC39 := Aside0.mk H
                clear H
                have hnb40 := NB131_132.out
                have hnc40 := NB132_131.out
                have hcz41_0 : wr.cell? ⟨gb131, 0, none⟩ = some (.slice A0_0 l0_0.length c0_0) := (blk_cell BK131.out 0).trans rfl
                have hcz41_1 : wr.cell? ⟨gb131, 1, none⟩ = some (.int .i64 a0_1) := (blk_cell BK131.out 1).trans rfl
                have hfz41_0 := blk_frozen BK131.out 0
                have hfz41_1 := blk_frozen BK131.out 1
                have p135 : 0 ≤ (x11_2 : Int) := of_decide_eq_true (by first | (with_reducible assumption) | assumption)
                have q135 : x11_2 < (l0_0.length : Int) := of_decide_eq_true (by first | (with_reducible assumption) | assumption)
                obtain ⟨ad135, e135, hx135_0, hx135_1, hx135_2, hx135_3, hx135_4⟩ := at_T50 HR0_0.out x11_2 p135 q135
                cases e135
                replace hx135_0 := (HB.out.cell (World.block_lt_of_cell? w _ hx135_0)).trans hx135_0
                replace hx135_1 := (HB.out.cell (World.block_lt_of_cell? w _ hx135_1)).trans hx135_1
                replace hx135_2 := (HB.out.cell (World.block_lt_of_cell? w _ hx135_2)).trans hx135_2
                replace hx135_3 := (HB.out.cell (World.block_lt_of_cell? w _ hx135_3)).trans hx135_3
                replace hx135_4 := (HB.out.cell (World.block_lt_of_cell? w _ hx135_4)).trans hx135_4
                replace p135 := eq_true p135
                replace q135 := eq_true q135
                go_upto_region 7 with (first | ((with_reducible refine gate_dst (N := 12) rfl ?_); refine box_event ?hg (N := 12) ?hd (cs := #[.int .i64 0, .int .i64 0, .int .i64 0, .int .i64 0, .bool false]) (t := 50) ?hr ?_; (case hd => rfl); (case hg => rfl); (case hr => first | (go_simp; done) | (go_simp; rfl)); intro gb136 hg w42 hbox hb; have n0_ := Aside0.mk (blk_below (g := gb131) (o := .cells #[.slice (some ad135) l0_0.length c0_0, .int .i64 a0_1] 31 (0, 0)) (by (with_reducible repeat (first | refine blk_drewN ?_ _ | refine blk_drew ?_ | refine blk_alloc ?_ _)); exact BK131.out) hb); have n1_ := Aside0.mk (blk_below (g := gb132) (o := .cells #[.bool x133000_2, .int .i64 x133001_2, .int .i64 x133002_2] 27 (0, 0)) (by (with_reducible repeat (first | refine blk_drewN ?_ _ | refine blk_drew ?_ | refine blk_alloc ?_ _)); exact BK132.out) hb); have n2_ := Aside0.mk (below_step (by repeat (first | (with_reducible first | exact HB.out | apply below_alloc | apply pw_below_drewN | apply below_drew1 | refine below_set ?_ GE131.out | refine below_set ?_ GE132.out) | exact HB.out)) hb); have n3_ := Aside0.mk (hbox); have n4_ := Aside0.mk ((by rw [hg]; exact (below_size (by repeat (first | (with_reducible first | exact HB.out | apply below_alloc | apply pw_below_drewN | apply below_drew1 | refine below_set ?_ GE131.out | refine below_set ?_ GE132.out) | exact HB.out))) : w.heap.size ≤ gb136)); have n5_ := Aside0.mk ((by rw [hg]; exact (below_size (by repeat (first | (with_reducible first | exact HB.out | apply below_alloc | apply pw_below_drewN | apply below_drew1 | refine below_set ?_ GE131.out | refine below_set ?_ GE132.out) | exact HB.out))) : w.heap.size ≤ gb136)); have n6_ := Aside0.mk ((by rw [hg]; exact Nat.ne_of_lt (blk_lt (g := gb131) (o := .cells #[.slice (some ad135) l0_0.length c0_0, .int .i64 a0_1] 31 (0, 0)) (by (with_reducible repeat (first | refine blk_drewN ?_ _ | refine blk_drew ?_ | refine blk_alloc ?_ _)); exact BK131.out)) : gb131 ≠ gb136)); have n7_ := Aside0.mk ((by rw [hg]; exact Nat.ne_of_gt (blk_lt (g := gb131) (o := .cells #[.slice (some ad135) l0_0.length c0_0, .int .i64 a0_1] 31 (0, 0)) (by (with_reducible repeat (first | refine blk_drewN ?_ _ | refine blk_drew ?_ | refine blk_alloc ?_ _)); exact BK131.out)) : gb136 ≠ gb131)); have n8_ := Aside0.mk ((by rw [hg]; exact Nat.ne_of_lt (blk_lt (g := gb132) (o := .cells #[.bool x133000_2, .int .i64 x133001_2, .int .i64 x133002_2] 27 (0, 0)) (by (with_reducible repeat (first | refine blk_drewN ?_ _ | refine blk_drew ?_ | refine blk_alloc ?_ _)); exact BK132.out)) : gb132 ≠ gb136)); have n9_ := Aside0.mk ((by rw [hg]; exact Nat.ne_of_gt (blk_lt (g := gb132) (o := .cells #[.bool x133000_2, .int .i64 x133001_2, .int .i64 x133002_2] 27 (0, 0)) (by (with_reducible repeat (first | refine blk_drewN ?_ _ | refine blk_drew ?_ | refine blk_alloc ?_ _)); exact BK132.out)) : gb136 ≠ gb132)); clear BK131; clear BK132; clear HB; have BK131 := n0_; have BK132 := n1_; have HB := n2_; have BK136 := n3_; have GW136 := n4_; have GE136 := n5_; have NB131_136 := n6_; have NB136_131 := n7_; have NB132_136 := n8_; have NB136_132 := n9_; clear n0_ n1_ n2_ n3_ n4_ n5_ n6_ n7_ n8_ n9_; clear hb hbox hg; have hnb43 := NB136_131.out; have hnc43 := NB131_136.out; have hnb44 := NB136_132.out; have hnc44 := NB132_136.out; have hcz45_0 : w42.cell? ⟨gb136, 0, none⟩ = some (.int .i64 0) := (blk_cell BK136.out 0).trans rfl; have hcz45_1 : w42.cell? ⟨gb136, 1, none⟩ = some (.int .i64 0) := (blk_cell BK136.out 1).trans rfl; have hcz45_2 : w42.cell? ⟨gb136, 2, none⟩ = some (.int .i64 0) := (blk_cell BK136.out 2).trans rfl; have hcz45_3 : w42.cell? ⟨gb136, 3, none⟩ = some (.int .i64 0) := (blk_cell BK136.out 3).trans rfl; have hcz45_4 : w42.cell? ⟨gb136, 4, none⟩ = some (.bool false) := (blk_cell BK136.out 4).trans rfl; have hfz45_0 := blk_frozen BK136.out 0; have hfz45_1 := blk_frozen BK136.out 1; have hfz45_2 := blk_frozen BK136.out 2; have hfz45_3 := blk_frozen BK136.out 3; have hfz45_4 := blk_frozen BK136.out 4))
                (try simp only [Act.put, List.setIfInBounds_toArray, List.set_cons_zero, List.set_cons_succ])
                go_cut [66] (fun v66 wc => ∃ (kq : Nat) (x66_38 : Bool), v66 = .bool x66_38 ∧ Aside0 (spec_TlbFind.j2 kq a1 a2 a3 a4 x11_2 x66_38 l0_0 a0_1 ((rd_T50 l0_0 x11_2).f0) ((rd_T50 l0_0 x11_2).f1) ((rd_T50 l0_0 x11_2).f2) ((rd_T50 l0_0 x11_2).f3) ((rd_T50 l0_0 x11_2).f4) = some (r1, r2, r3)) ∧ Aside0 (kq ≤ k2) ∧ Aside0 (wc.heap[gb131]? = some (.cells #[(.slice (some ad135) l0_0.length c0_0), .int .i64 a0_1] 31 (0, 0))) ∧ Aside0 (wc.heap[gb132]? = some (.cells #[.bool x133000_2, .int .i64 x133001_2, .int .i64 x133002_2] 27 (0, 0))) ∧ Aside0 (wc.heap[gb136]? = some (.cells #[.int .i64 ((rd_T50 l0_0 x11_2).f0), .int .i64 ((rd_T50 l0_0 x11_2).f1), .int .i64 ((rd_T50 l0_0 x11_2).f2), .int .i64 ((rd_T50 l0_0 x11_2).f3), .bool ((rd_T50 l0_0 x11_2).f4)] 50 (0, 0))) ∧ Aside0 (Below w.heap.size w wc))
                case first =>
                  have H := HC39.out
                  clear HC39
                  replace H := Option.bind_eq_some_iff.mp H
                  obtain ⟨t137, A460, H⟩ := H
                  replace H : (if t137 = true then (if ((rd_T50 l0_0 x11_2).f0) = a1 then (spec_TlbFind.j2 k2 a1 a2 a3 a4 x11_2 false l0_0 a0_1 ((rd_T50 l0_0 x11_2).f0) ((rd_T50 l0_0 x11_2).f1) ((rd_T50 l0_0 x11_2).f2) ((rd_T50 l0_0 x11_2).f3) ((rd_T50 l0_0 x11_2).f4)) else (spec_TlbFind.j2 k2 a1 a2 a3 a4 x11_2 ((Go.bits .and .i64 ((rd_T50 l0_0 x11_2).f3) 128) == 0) l0_0 a0_1 ((rd_T50 l0_0 x11_2).f0) ((rd_T50 l0_0 x11_2).f1) ((rd_T50 l0_0 x11_2).f2) ((rd_T50 l0_0 x11_2).f3) ((rd_T50 l0_0 x11_2).f4))) else (spec_TlbFind.j2 k2 a1 a2 a3 a4 x11_2 true l0_0 a0_1 ((rd_T50 l0_0 x11_2).f0) ((rd_T50 l0_0 x11_2).f1) ((rd_T50 l0_0 x11_2).f2) ((rd_T50 l0_0 x11_2).f3) ((rd_T50 l0_0 x11_2).f4))) = some (r1, r2, r3) := H
                  have A46 := Aside0.mk A460
                  clear A460
                  by_cases c47 : t137 = true
                  · subst c47
                    have H1 : (if ((rd_T50 l0_0 x11_2).f0) = a1 then (spec_TlbFind.j2 k2 a1 a2 a3 a4 x11_2 false l0_0 a0_1 ((rd_T50 l0_0 x11_2).f0) ((rd_T50 l0_0 x11_2).f1) ((rd_T50 l0_0 x11_2).f2) ((rd_T50 l0_0 x11_2).f3) ((rd_T50 l0_0 x11_2).f4)) else (spec_TlbFind.j2 k2 a1 a2 a3 a4 x11_2 ((Go.bits .and .i64 ((rd_T50 l0_0 x11_2).f3) 128) == 0) l0_0 a0_1 ((rd_T50 l0_0 x11_2).f0) ((rd_T50 l0_0 x11_2).f1) ((rd_T50 l0_0 x11_2).f2) ((rd_T50 l0_0 x11_2).f3) ((rd_T50 l0_0 x11_2).f4))) = some (r1, r2, r3) := by rw [if_pos rfl] at H; exact H
                    clear H
                    have H := H1
                    clear H1
                    by_cases c48 : ((rd_T50 l0_0 x11_2).f0) = a1
                    · rw [if_pos c48] at H
                      have c48b0 : (((rd_T50 l0_0 x11_2).f0) == a1) = true := beq_iff_eq.mpr c48
                      have c48b1 : (((rd_T50 l0_0 x11_2).f0) != a1) = false := bne_eq_false_iff_eq.mpr c48
                      clear c48
                      (first | rw [c48b0] | (simp only [i64_w, i32_w]; rw [c48b0]) | skip)
                      have H' := Aside0.mk H
                      clear H
                      have hnb49 := NB136_131.out
                      have hnc49 := NB131_136.out
                      have hnb50 := NB136_132.out
                      have hnc50 := NB132_136.out
                      have hcz51_0 : w42.cell? ⟨gb136, 0, none⟩ = some (.int .i64 0) := (blk_cell BK136.out 0).trans rfl
                      have hcz51_1 : w42.cell? ⟨gb136, 1, none⟩ = some (.int .i64 0) := (blk_cell BK136.out 1).trans rfl
                      have hcz51_2 : w42.cell? ⟨gb136, 2, none⟩ = some (.int .i64 0) := (blk_cell BK136.out 2).trans rfl
                      have hcz51_3 : w42.cell? ⟨gb136, 3, none⟩ = some (.int .i64 0) := (blk_cell BK136.out 3).trans rfl
                      have hcz51_4 : w42.cell? ⟨gb136, 4, none⟩ = some (.bool false) := (blk_cell BK136.out 4).trans rfl
                      have hfz51_0 := blk_frozen BK136.out 0
                      have hfz51_1 := blk_frozen BK136.out 1
                      have hfz51_2 := blk_frozen BK136.out 2
                      have hfz51_3 := blk_frozen BK136.out 3
                      have hfz51_4 := blk_frozen BK136.out 4
                      go_wp2_with (first | ((with_reducible refine gate_callee (f := 57) rfl ?_); refine goesL_ (some 53) rfl rfl Try.func57 (by kernel_rfl) rfl #[.agg #[.int .i64 ((rd_T50 l0_0 x11_2).f0), .int .i64 ((rd_T50 l0_0 x11_2).f1), .int .i64 ((rd_T50 l0_0 x11_2).f2), .int .i64 ((rd_T50 l0_0 x11_2).f3), .bool ((rd_T50 l0_0 x11_2).f4)], .int .i64 a2] rfl (by (try simp only [List.map_toArray, List.map_cons, List.map_nil]); first | done | rfl | (simp only [List.length_drop, List.length_take]; rfl)) ?_; (with_reducible refine (spec_l03Holds.calls ((rd_T50 l0_0 x11_2).f0) ((rd_T50 l0_0 x11_2).f1) ((rd_T50 l0_0 x11_2).f2) ((rd_T50 l0_0 x11_2).f3) ((rd_T50 l0_0 x11_2).f4) a2 true _ A46.out).mono ?_); rintro e w52 ⟨rfl, hb⟩; refine ⟨_, rfl, ?_⟩; have n0_ := Aside0.mk (blk_below (g := gb131) (o := .cells #[.slice (some ad135) l0_0.length c0_0, .int .i64 a0_1] 31 (0, 0)) (by (with_reducible repeat (first | refine blk_drewN ?_ _ | refine blk_drew ?_ | refine blk_alloc ?_ _)); refine blk_far ?_ NB131_136.out _; (with_reducible repeat (first | refine blk_drewN ?_ _ | refine blk_drew ?_ | refine blk_alloc ?_ _)); refine blk_far ?_ NB131_136.out _; (with_reducible repeat (first | refine blk_drewN ?_ _ | refine blk_drew ?_ | refine blk_alloc ?_ _)); refine blk_far ?_ NB131_136.out _; (with_reducible repeat (first | refine blk_drewN ?_ _ | refine blk_drew ?_ | refine blk_alloc ?_ _)); refine blk_far ?_ NB131_136.out _; (with_reducible repeat (first | refine blk_drewN ?_ _ | refine blk_drew ?_ | refine blk_alloc ?_ _)); refine blk_far ?_ NB131_136.out _; (with_reducible repeat (first | refine blk_drewN ?_ _ | refine blk_drew ?_ | refine blk_alloc ?_ _)); exact BK131.out) hb); have n1_ := Aside0.mk (blk_below (g := gb132) (o := .cells #[.bool x133000_2, .int .i64 x133001_2, .int .i64 x133002_2] 27 (0, 0)) (by (with_reducible repeat (first | refine blk_drewN ?_ _ | refine blk_drew ?_ | refine blk_alloc ?_ _)); refine blk_far ?_ NB132_136.out _; (with_reducible repeat (first | refine blk_drewN ?_ _ | refine blk_drew ?_ | refine blk_alloc ?_ _)); refine blk_far ?_ NB132_136.out _; (with_reducible repeat (first | refine blk_drewN ?_ _ | refine blk_drew ?_ | refine blk_alloc ?_ _)); refine blk_far ?_ NB132_136.out _; (with_reducible repeat (first | refine blk_drewN ?_ _ | refine blk_drew ?_ | refine blk_alloc ?_ _)); refine blk_far ?_ NB132_136.out _; (with_reducible repeat (first | refine blk_drewN ?_ _ | refine blk_drew ?_ | refine blk_alloc ?_ _)); refine blk_far ?_ NB132_136.out _; (with_reducible repeat (first | refine blk_drewN ?_ _ | refine blk_drew ?_ | refine blk_alloc ?_ _)); exact BK132.out) hb); have n2_ := Aside0.mk (blk_below (g := gb136) (o := .cells #[.int .i64 ((rd_T50 l0_0 x11_2).f0), .int .i64 ((rd_T50 l0_0 x11_2).f1), .int .i64 ((rd_T50 l0_0 x11_2).f2), .int .i64 ((rd_T50 l0_0 x11_2).f3), .bool ((rd_T50 l0_0 x11_2).f4)] 50 (0, 0)) (by (with_reducible repeat (first | refine blk_drewN ?_ _ | refine blk_drew ?_ | refine blk_alloc ?_ _)); refine blk_put (cs := #[.int .i64 ((rd_T50 l0_0 x11_2).f0), .int .i64 ((rd_T50 l0_0 x11_2).f1), .int .i64 ((rd_T50 l0_0 x11_2).f2), .int .i64 ((rd_T50 l0_0 x11_2).f3), .bool false]) ?_ 4 _ rfl; (with_reducible repeat (first | refine blk_drewN ?_ _ | refine blk_drew ?_ | refine blk_alloc ?_ _)); refine blk_put (cs := #[.int .i64 ((rd_T50 l0_0 x11_2).f0), .int .i64 ((rd_T50 l0_0 x11_2).f1), .int .i64 ((rd_T50 l0_0 x11_2).f2), .int .i64 0, .bool false]) ?_ 3 _ rfl; (with_reducible repeat (first | refine blk_drewN ?_ _ | refine blk_drew ?_ | refine blk_alloc ?_ _)); refine blk_put (cs := #[.int .i64 ((rd_T50 l0_0 x11_2).f0), .int .i64 ((rd_T50 l0_0 x11_2).f1), .int .i64 0, .int .i64 0, .bool false]) ?_ 2 _ rfl; (with_reducible repeat (first | refine blk_drewN ?_ _ | refine blk_drew ?_ | refine blk_alloc ?_ _)); refine blk_put (cs := #[.int .i64 ((rd_T50 l0_0 x11_2).f0), .int .i64 0, .int .i64 0, .int .i64 0, .bool false]) ?_ 1 _ rfl; (with_reducible repeat (first | refine blk_drewN ?_ _ | refine blk_drew ?_ | refine blk_alloc ?_ _)); refine blk_put (cs := #[.int .i64 0, .int .i64 0, .int .i64 0, .int .i64 0, .bool false]) ?_ 0 _ rfl; (with_reducible repeat (first | refine blk_drewN ?_ _ | refine blk_drew ?_ | refine blk_alloc ?_ _)); exact BK136.out) hb); have n3_ := Aside0.mk (below_step (by repeat (first | (with_reducible first | exact HB.out | apply below_alloc | apply pw_below_drewN | apply below_drew1 | refine below_set ?_ GE131.out | refine below_set ?_ GE132.out | refine below_set ?_ GE136.out) | exact HB.out)) hb); clear BK131; clear BK132; clear BK136; clear HB; have BK131 := n0_; have BK132 := n1_; have BK136 := n2_; have HB := n3_; clear n0_ n1_ n2_ n3_; (try clear hb); (try clear hb2); (try clear hk); (try clear hi); have hcz53_0 : w52.cell? ⟨gb136, 0, none⟩ = some (.int .i64 ((rd_T50 l0_0 x11_2).f0)) := (blk_cell BK136.out 0).trans rfl; have hcz53_1 : w52.cell? ⟨gb136, 1, none⟩ = some (.int .i64 ((rd_T50 l0_0 x11_2).f1)) := (blk_cell BK136.out 1).trans rfl; have hcz53_2 : w52.cell? ⟨gb136, 2, none⟩ = some (.int .i64 ((rd_T50 l0_0 x11_2).f2)) := (blk_cell BK136.out 2).trans rfl; have hcz53_3 : w52.cell? ⟨gb136, 3, none⟩ = some (.int .i64 ((rd_T50 l0_0 x11_2).f3)) := (blk_cell BK136.out 3).trans rfl; have hcz53_4 : w52.cell? ⟨gb136, 4, none⟩ = some (.bool ((rd_T50 l0_0 x11_2).f4)) := (blk_cell BK136.out 4).trans rfl; have hfz53_0 := blk_frozen BK136.out 0; have hfz53_1 := blk_frozen BK136.out 1; have hfz53_2 := blk_frozen BK136.out 2; have hfz53_3 := blk_frozen BK136.out 3; have hfz53_4 := blk_frozen BK136.out 4))
                      go_meet
                      case rel => exact ⟨_, (false), (by first | rfl | (simp; done) | (simp [*]; done)), H', ⟨by have := HJ5.out; have := HK2.out; first | omega | exact Nat.le_refl _⟩, ⟨by (with_reducible repeat (first | refine blk_drewN ?_ _ | refine blk_drew ?_ | refine blk_alloc ?_ _)); exact BK131.out⟩, ⟨by (with_reducible repeat (first | refine blk_drewN ?_ _ | refine blk_drew ?_ | refine blk_alloc ?_ _)); exact BK132.out⟩, ⟨by (with_reducible repeat (first | refine blk_drewN ?_ _ | refine blk_drew ?_ | refine blk_alloc ?_ _)); exact BK136.out⟩, ⟨by repeat (first | (with_reducible first | exact HB.out | apply below_alloc | apply pw_below_drewN | apply below_drew1 | refine below_set ?_ GE131.out | refine below_set ?_ GE132.out | refine below_set ?_ GE136.out) | exact HB.out)⟩⟩
                    · rw [if_neg c48] at H
                      have c48b0 : (((rd_T50 l0_0 x11_2).f0) == a1) = false := beq_eq_false_iff_ne.mpr c48
                      have c48b1 : (((rd_T50 l0_0 x11_2).f0) != a1) = true := bne_iff_ne.mpr c48
                      (first | rw [c48b0] | (simp only [i64_w, i32_w]; rw [c48b0]) | skip)
                      have H' := Aside0.mk H
                      clear H
                      have hnb54 := NB136_131.out
                      have hnc54 := NB131_136.out
                      have hnb55 := NB136_132.out
                      have hnc55 := NB132_136.out
                      have hcz56_0 : w42.cell? ⟨gb136, 0, none⟩ = some (.int .i64 0) := (blk_cell BK136.out 0).trans rfl
                      have hcz56_1 : w42.cell? ⟨gb136, 1, none⟩ = some (.int .i64 0) := (blk_cell BK136.out 1).trans rfl
                      have hcz56_2 : w42.cell? ⟨gb136, 2, none⟩ = some (.int .i64 0) := (blk_cell BK136.out 2).trans rfl
                      have hcz56_3 : w42.cell? ⟨gb136, 3, none⟩ = some (.int .i64 0) := (blk_cell BK136.out 3).trans rfl
                      have hcz56_4 : w42.cell? ⟨gb136, 4, none⟩ = some (.bool false) := (blk_cell BK136.out 4).trans rfl
                      have hfz56_0 := blk_frozen BK136.out 0
                      have hfz56_1 := blk_frozen BK136.out 1
                      have hfz56_2 := blk_frozen BK136.out 2
                      have hfz56_3 := blk_frozen BK136.out 3
                      have hfz56_4 := blk_frozen BK136.out 4
                      go_wp2_with (first | ((with_reducible refine gate_callee (f := 57) rfl ?_); refine goesL_ (some 53) rfl rfl Try.func57 (by kernel_rfl) rfl #[.agg #[.int .i64 ((rd_T50 l0_0 x11_2).f0), .int .i64 ((rd_T50 l0_0 x11_2).f1), .int .i64 ((rd_T50 l0_0 x11_2).f2), .int .i64 ((rd_T50 l0_0 x11_2).f3), .bool ((rd_T50 l0_0 x11_2).f4)], .int .i64 a2] rfl (by (try simp only [List.map_toArray, List.map_cons, List.map_nil]); first | done | rfl | (simp only [List.length_drop, List.length_take]; rfl)) ?_; (with_reducible refine (spec_l03Holds.calls ((rd_T50 l0_0 x11_2).f0) ((rd_T50 l0_0 x11_2).f1) ((rd_T50 l0_0 x11_2).f2) ((rd_T50 l0_0 x11_2).f3) ((rd_T50 l0_0 x11_2).f4) a2 true _ A46.out).mono ?_); rintro e w57 ⟨rfl, hb⟩; refine ⟨_, rfl, ?_⟩; have n0_ := Aside0.mk (blk_below (g := gb131) (o := .cells #[.slice (some ad135) l0_0.length c0_0, .int .i64 a0_1] 31 (0, 0)) (by (with_reducible repeat (first | refine blk_drewN ?_ _ | refine blk_drew ?_ | refine blk_alloc ?_ _)); refine blk_far ?_ NB131_136.out _; (with_reducible repeat (first | refine blk_drewN ?_ _ | refine blk_drew ?_ | refine blk_alloc ?_ _)); refine blk_far ?_ NB131_136.out _; (with_reducible repeat (first | refine blk_drewN ?_ _ | refine blk_drew ?_ | refine blk_alloc ?_ _)); refine blk_far ?_ NB131_136.out _; (with_reducible repeat (first | refine blk_drewN ?_ _ | refine blk_drew ?_ | refine blk_alloc ?_ _)); refine blk_far ?_ NB131_136.out _; (with_reducible repeat (first | refine blk_drewN ?_ _ | refine blk_drew ?_ | refine blk_alloc ?_ _)); refine blk_far ?_ NB131_136.out _; (with_reducible repeat (first | refine blk_drewN ?_ _ | refine blk_drew ?_ | refine blk_alloc ?_ _)); exact BK131.out) hb); have n1_ := Aside0.mk (blk_below (g := gb132) (o := .cells #[.bool x133000_2, .int .i64 x133001_2, .int .i64 x133002_2] 27 (0, 0)) (by (with_reducible repeat (first | refine blk_drewN ?_ _ | refine blk_drew ?_ | refine blk_alloc ?_ _)); refine blk_far ?_ NB132_136.out _; (with_reducible repeat (first | refine blk_drewN ?_ _ | refine blk_drew ?_ | refine blk_alloc ?_ _)); refine blk_far ?_ NB132_136.out _; (with_reducible repeat (first | refine blk_drewN ?_ _ | refine blk_drew ?_ | refine blk_alloc ?_ _)); refine blk_far ?_ NB132_136.out _; (with_reducible repeat (first | refine blk_drewN ?_ _ | refine blk_drew ?_ | refine blk_alloc ?_ _)); refine blk_far ?_ NB132_136.out _; (with_reducible repeat (first | refine blk_drewN ?_ _ | refine blk_drew ?_ | refine blk_alloc ?_ _)); refine blk_far ?_ NB132_136.out _; (with_reducible repeat (first | refine blk_drewN ?_ _ | refine blk_drew ?_ | refine blk_alloc ?_ _)); exact BK132.out) hb); have n2_ := Aside0.mk (blk_below (g := gb136) (o := .cells #[.int .i64 ((rd_T50 l0_0 x11_2).f0), .int .i64 ((rd_T50 l0_0 x11_2).f1), .int .i64 ((rd_T50 l0_0 x11_2).f2), .int .i64 ((rd_T50 l0_0 x11_2).f3), .bool ((rd_T50 l0_0 x11_2).f4)] 50 (0, 0)) (by (with_reducible repeat (first | refine blk_drewN ?_ _ | refine blk_drew ?_ | refine blk_alloc ?_ _)); refine blk_put (cs := #[.int .i64 ((rd_T50 l0_0 x11_2).f0), .int .i64 ((rd_T50 l0_0 x11_2).f1), .int .i64 ((rd_T50 l0_0 x11_2).f2), .int .i64 ((rd_T50 l0_0 x11_2).f3), .bool false]) ?_ 4 _ rfl; (with_reducible repeat (first | refine blk_drewN ?_ _ | refine blk_drew ?_ | refine blk_alloc ?_ _)); refine blk_put (cs := #[.int .i64 ((rd_T50 l0_0 x11_2).f0), .int .i64 ((rd_T50 l0_0 x11_2).f1), .int .i64 ((rd_T50 l0_0 x11_2).f2), .int .i64 0, .bool false]) ?_ 3 _ rfl; (with_reducible repeat (first | refine blk_drewN ?_ _ | refine blk_drew ?_ | refine blk_alloc ?_ _)); refine blk_put (cs := #[.int .i64 ((rd_T50 l0_0 x11_2).f0), .int .i64 ((rd_T50 l0_0 x11_2).f1), .int .i64 0, .int .i64 0, .bool false]) ?_ 2 _ rfl; (with_reducible repeat (first | refine blk_drewN ?_ _ | refine blk_drew ?_ | refine blk_alloc ?_ _)); refine blk_put (cs := #[.int .i64 ((rd_T50 l0_0 x11_2).f0), .int .i64 0, .int .i64 0, .int .i64 0, .bool false]) ?_ 1 _ rfl; (with_reducible repeat (first | refine blk_drewN ?_ _ | refine blk_drew ?_ | refine blk_alloc ?_ _)); refine blk_put (cs := #[.int .i64 0, .int .i64 0, .int .i64 0, .int .i64 0, .bool false]) ?_ 0 _ rfl; (with_reducible repeat (first | refine blk_drewN ?_ _ | refine blk_drew ?_ | refine blk_alloc ?_ _)); exact BK136.out) hb); have n3_ := Aside0.mk (below_step (by repeat (first | (with_reducible first | exact HB.out | apply below_alloc | apply pw_below_drewN | apply below_drew1 | refine below_set ?_ GE131.out | refine below_set ?_ GE132.out | refine below_set ?_ GE136.out) | exact HB.out)) hb); clear BK131; clear BK132; clear BK136; clear HB; have BK131 := n0_; have BK132 := n1_; have BK136 := n2_; have HB := n3_; clear n0_ n1_ n2_ n3_; (try clear hb); (try clear hb2); (try clear hk); (try clear hi); have hcz58_0 : w57.cell? ⟨gb136, 0, none⟩ = some (.int .i64 ((rd_T50 l0_0 x11_2).f0)) := (blk_cell BK136.out 0).trans rfl; have hcz58_1 : w57.cell? ⟨gb136, 1, none⟩ = some (.int .i64 ((rd_T50 l0_0 x11_2).f1)) := (blk_cell BK136.out 1).trans rfl; have hcz58_2 : w57.cell? ⟨gb136, 2, none⟩ = some (.int .i64 ((rd_T50 l0_0 x11_2).f2)) := (blk_cell BK136.out 2).trans rfl; have hcz58_3 : w57.cell? ⟨gb136, 3, none⟩ = some (.int .i64 ((rd_T50 l0_0 x11_2).f3)) := (blk_cell BK136.out 3).trans rfl; have hcz58_4 : w57.cell? ⟨gb136, 4, none⟩ = some (.bool ((rd_T50 l0_0 x11_2).f4)) := (blk_cell BK136.out 4).trans rfl; have hfz58_0 := blk_frozen BK136.out 0; have hfz58_1 := blk_frozen BK136.out 1; have hfz58_2 := blk_frozen BK136.out 2; have hfz58_3 := blk_frozen BK136.out 3; have hfz58_4 := blk_frozen BK136.out 4))
                      go_meet
                      case rel => exact ⟨_, (((Go.bits .and .i64 ((rd_T50 l0_0 x11_2).f3) 128) == 0)), (by first | rfl | (simp; done) | (simp [*]; done)), H', ⟨by have := HJ5.out; have := HK2.out; first | omega | exact Nat.le_refl _⟩, ⟨by (with_reducible repeat (first | refine blk_drewN ?_ _ | refine blk_drew ?_ | refine blk_alloc ?_ _)); exact BK131.out⟩, ⟨by (with_reducible repeat (first | refine blk_drewN ?_ _ | refine blk_drew ?_ | refine blk_alloc ?_ _)); exact BK132.out⟩, ⟨by (with_reducible repeat (first | refine blk_drewN ?_ _ | refine blk_drew ?_ | refine blk_alloc ?_ _)); exact BK136.out⟩, ⟨by repeat (first | (with_reducible first | exact HB.out | apply below_alloc | apply pw_below_drewN | apply below_drew1 | refine below_set ?_ GE131.out | refine below_set ?_ GE132.out | refine below_set ?_ GE136.out) | exact HB.out)⟩⟩
                  · replace c47 := Bool.eq_false_iff.mpr c47
                    subst c47
                    have H1 : (spec_TlbFind.j2 k2 a1 a2 a3 a4 x11_2 true l0_0 a0_1 ((rd_T50 l0_0 x11_2).f0) ((rd_T50 l0_0 x11_2).f1) ((rd_T50 l0_0 x11_2).f2) ((rd_T50 l0_0 x11_2).f3) ((rd_T50 l0_0 x11_2).f4)) = some (r1, r2, r3) := by rw [if_neg (show ¬ (false = true) by decide)] at H; exact H
                    clear H
                    have H := H1
                    clear H1
                    have H' := Aside0.mk H
                    clear H
                    have hnb59 := NB136_131.out
                    have hnc59 := NB131_136.out
                    have hnb60 := NB136_132.out
                    have hnc60 := NB132_136.out
                    have hcz61_0 : w42.cell? ⟨gb136, 0, none⟩ = some (.int .i64 0) := (blk_cell BK136.out 0).trans rfl
                    have hcz61_1 : w42.cell? ⟨gb136, 1, none⟩ = some (.int .i64 0) := (blk_cell BK136.out 1).trans rfl
                    have hcz61_2 : w42.cell? ⟨gb136, 2, none⟩ = some (.int .i64 0) := (blk_cell BK136.out 2).trans rfl
                    have hcz61_3 : w42.cell? ⟨gb136, 3, none⟩ = some (.int .i64 0) := (blk_cell BK136.out 3).trans rfl
                    have hcz61_4 : w42.cell? ⟨gb136, 4, none⟩ = some (.bool false) := (blk_cell BK136.out 4).trans rfl
                    have hfz61_0 := blk_frozen BK136.out 0
                    have hfz61_1 := blk_frozen BK136.out 1
                    have hfz61_2 := blk_frozen BK136.out 2
                    have hfz61_3 := blk_frozen BK136.out 3
                    have hfz61_4 := blk_frozen BK136.out 4
                    go_wp2_with (first | ((with_reducible refine gate_callee (f := 57) rfl ?_); refine goesL_ (some 53) rfl rfl Try.func57 (by kernel_rfl) rfl #[.agg #[.int .i64 ((rd_T50 l0_0 x11_2).f0), .int .i64 ((rd_T50 l0_0 x11_2).f1), .int .i64 ((rd_T50 l0_0 x11_2).f2), .int .i64 ((rd_T50 l0_0 x11_2).f3), .bool ((rd_T50 l0_0 x11_2).f4)], .int .i64 a2] rfl (by (try simp only [List.map_toArray, List.map_cons, List.map_nil]); first | done | rfl | (simp only [List.length_drop, List.length_take]; rfl)) ?_; (with_reducible refine (spec_l03Holds.calls ((rd_T50 l0_0 x11_2).f0) ((rd_T50 l0_0 x11_2).f1) ((rd_T50 l0_0 x11_2).f2) ((rd_T50 l0_0 x11_2).f3) ((rd_T50 l0_0 x11_2).f4) a2 false _ A46.out).mono ?_); rintro e w62 ⟨rfl, hb⟩; refine ⟨_, rfl, ?_⟩; have n0_ := Aside0.mk (blk_below (g := gb131) (o := .cells #[.slice (some ad135) l0_0.length c0_0, .int .i64 a0_1] 31 (0, 0)) (by (with_reducible repeat (first | refine blk_drewN ?_ _ | refine blk_drew ?_ | refine blk_alloc ?_ _)); refine blk_far ?_ NB131_136.out _; (with_reducible repeat (first | refine blk_drewN ?_ _ | refine blk_drew ?_ | refine blk_alloc ?_ _)); refine blk_far ?_ NB131_136.out _; (with_reducible repeat (first | refine blk_drewN ?_ _ | refine blk_drew ?_ | refine blk_alloc ?_ _)); refine blk_far ?_ NB131_136.out _; (with_reducible repeat (first | refine blk_drewN ?_ _ | refine blk_drew ?_ | refine blk_alloc ?_ _)); refine blk_far ?_ NB131_136.out _; (with_reducible repeat (first | refine blk_drewN ?_ _ | refine blk_drew ?_ | refine blk_alloc ?_ _)); refine blk_far ?_ NB131_136.out _; (with_reducible repeat (first | refine blk_drewN ?_ _ | refine blk_drew ?_ | refine blk_alloc ?_ _)); exact BK131.out) hb); have n1_ := Aside0.mk (blk_below (g := gb132) (o := .cells #[.bool x133000_2, .int .i64 x133001_2, .int .i64 x133002_2] 27 (0, 0)) (by (with_reducible repeat (first | refine blk_drewN ?_ _ | refine blk_drew ?_ | refine blk_alloc ?_ _)); refine blk_far ?_ NB132_136.out _; (with_reducible repeat (first | refine blk_drewN ?_ _ | refine blk_drew ?_ | refine blk_alloc ?_ _)); refine blk_far ?_ NB132_136.out _; (with_reducible repeat (first | refine blk_drewN ?_ _ | refine blk_drew ?_ | refine blk_alloc ?_ _)); refine blk_far ?_ NB132_136.out _; (with_reducible repeat (first | refine blk_drewN ?_ _ | refine blk_drew ?_ | refine blk_alloc ?_ _)); refine blk_far ?_ NB132_136.out _; (with_reducible repeat (first | refine blk_drewN ?_ _ | refine blk_drew ?_ | refine blk_alloc ?_ _)); refine blk_far ?_ NB132_136.out _; (with_reducible repeat (first | refine blk_drewN ?_ _ | refine blk_drew ?_ | refine blk_alloc ?_ _)); exact BK132.out) hb); have n2_ := Aside0.mk (blk_below (g := gb136) (o := .cells #[.int .i64 ((rd_T50 l0_0 x11_2).f0), .int .i64 ((rd_T50 l0_0 x11_2).f1), .int .i64 ((rd_T50 l0_0 x11_2).f2), .int .i64 ((rd_T50 l0_0 x11_2).f3), .bool ((rd_T50 l0_0 x11_2).f4)] 50 (0, 0)) (by (with_reducible repeat (first | refine blk_drewN ?_ _ | refine blk_drew ?_ | refine blk_alloc ?_ _)); refine blk_put (cs := #[.int .i64 ((rd_T50 l0_0 x11_2).f0), .int .i64 ((rd_T50 l0_0 x11_2).f1), .int .i64 ((rd_T50 l0_0 x11_2).f2), .int .i64 ((rd_T50 l0_0 x11_2).f3), .bool false]) ?_ 4 _ rfl; (with_reducible repeat (first | refine blk_drewN ?_ _ | refine blk_drew ?_ | refine blk_alloc ?_ _)); refine blk_put (cs := #[.int .i64 ((rd_T50 l0_0 x11_2).f0), .int .i64 ((rd_T50 l0_0 x11_2).f1), .int .i64 ((rd_T50 l0_0 x11_2).f2), .int .i64 0, .bool false]) ?_ 3 _ rfl; (with_reducible repeat (first | refine blk_drewN ?_ _ | refine blk_drew ?_ | refine blk_alloc ?_ _)); refine blk_put (cs := #[.int .i64 ((rd_T50 l0_0 x11_2).f0), .int .i64 ((rd_T50 l0_0 x11_2).f1), .int .i64 0, .int .i64 0, .bool false]) ?_ 2 _ rfl; (with_reducible repeat (first | refine blk_drewN ?_ _ | refine blk_drew ?_ | refine blk_alloc ?_ _)); refine blk_put (cs := #[.int .i64 ((rd_T50 l0_0 x11_2).f0), .int .i64 0, .int .i64 0, .int .i64 0, .bool false]) ?_ 1 _ rfl; (with_reducible repeat (first | refine blk_drewN ?_ _ | refine blk_drew ?_ | refine blk_alloc ?_ _)); refine blk_put (cs := #[.int .i64 0, .int .i64 0, .int .i64 0, .int .i64 0, .bool false]) ?_ 0 _ rfl; (with_reducible repeat (first | refine blk_drewN ?_ _ | refine blk_drew ?_ | refine blk_alloc ?_ _)); exact BK136.out) hb); have n3_ := Aside0.mk (below_step (by repeat (first | (with_reducible first | exact HB.out | apply below_alloc | apply pw_below_drewN | apply below_drew1 | refine below_set ?_ GE131.out | refine below_set ?_ GE132.out | refine below_set ?_ GE136.out) | exact HB.out)) hb); clear BK131; clear BK132; clear BK136; clear HB; have BK131 := n0_; have BK132 := n1_; have BK136 := n2_; have HB := n3_; clear n0_ n1_ n2_ n3_; (try clear hb); (try clear hb2); (try clear hk); (try clear hi)))
                    go_meet
                    case rel => exact ⟨_, (true), (by first | rfl | (simp; done) | (simp [*]; done)), H', ⟨by have := HJ5.out; have := HK2.out; first | omega | exact Nat.le_refl _⟩, ⟨by (with_reducible repeat (first | refine blk_drewN ?_ _ | refine blk_drew ?_ | refine blk_alloc ?_ _)); exact BK131.out⟩, ⟨by (with_reducible repeat (first | refine blk_drewN ?_ _ | refine blk_drew ?_ | refine blk_alloc ?_ _)); exact BK132.out⟩, ⟨by (with_reducible repeat (first | refine blk_drewN ?_ _ | refine blk_drew ?_ | refine blk_alloc ?_ _)); exact BK136.out⟩, ⟨by repeat (first | (with_reducible first | exact HB.out | apply below_alloc | apply pw_below_drewN | apply below_drew1 | refine below_set ?_ GE131.out | refine below_set ?_ GE132.out | refine below_set ?_ GE136.out) | exact HB.out)⟩⟩
                case rest =>
                  clear HC39
                  try clear c1
                  try clear p1
                  try clear q1
                  try clear hx1
                  try clear c2
                  try clear p2
                  try clear c3
                  try clear c4
                  try clear c5
                  try clear c6
                  try clear c10
                  try clear c10b0
                  try clear c10b1
                  try clear c11
                  try clear c11b0
                  try clear c12
                  try clear p13
                  try clear q13
                  try clear hx13
                  try clear c15
                  try clear c15b0
                  try clear c16
                  try clear c19
                  try clear c19b0
                  try clear c20
                  try clear c23
                  try clear c23b0
                  try clear c24
                  try clear c25
                  try clear c28
                  try clear c31
                  try clear c34
                  try clear c35
                  try clear c37
                  try clear c37b0
                  try clear c38
                  try clear c38b0
                  try clear c40
                  try clear c43
                  try clear c44
                  try clear c47
                  try clear c48
                  try clear c48b0
                  try clear c48b1
                  try clear c49
                  try clear c50
                  try clear c54
                  try clear c55
                  try clear c57
                  try clear c59
                  try clear c60
                  try clear hcz13_0
                  try clear hcz13_1
                  try clear hcz17_0
                  try clear hcz17_1
                  try clear hcz21_0
                  try clear hcz21_1
                  try clear hcz25_0
                  try clear hcz25_1
                  try clear hcz29_0
                  try clear hcz29_1
                  try clear hcz32_0
                  try clear hcz32_1
                  try clear hcz36_0
                  try clear hcz36_1
                  try clear hcz36_2
                  try clear hcz41_0
                  try clear hcz41_1
                  try clear hcz45_0
                  try clear hcz45_1
                  try clear hcz45_2
                  try clear hcz45_3
                  try clear hcz45_4
                  try clear hcz51_0
                  try clear hcz51_1
                  try clear hcz51_2
                  try clear hcz51_3
                  try clear hcz51_4
                  try clear hcz53_0
                  try clear hcz53_1
                  try clear hcz53_2
                  try clear hcz53_3
                  try clear hcz53_4
                  try clear hcz56_0
                  try clear hcz56_1
                  try clear hcz56_2
                  try clear hcz56_3
                  try clear hcz56_4
                  try clear hcz58_0
                  try clear hcz58_1
                  try clear hcz58_2
                  try clear hcz58_3
                  try clear hcz58_4
                  try clear hcz61_0
                  try clear hcz61_1
                  try clear hcz61_2
                  try clear hcz61_3
                  try clear hcz61_4
                  try clear hfz13_0
                  try clear hfz13_1
                  try clear hfz17_0
                  try clear hfz17_1
                  try clear hfz21_0
                  try clear hfz21_1
                  try clear hfz25_0
                  try clear hfz25_1
                  try clear hfz29_0
                  try clear hfz29_1
                  try clear hfz32_0
                  try clear hfz32_1
                  try clear hfz36_0
                  try clear hfz36_1
                  try clear hfz36_2
                  try clear hfz41_0
                  try clear hfz41_1
                  try clear hfz45_0
                  try clear hfz45_1
                  try clear hfz45_2
                  try clear hfz45_3
                  try clear hfz45_4
                  try clear hfz51_0
                  try clear hfz51_1
                  try clear hfz51_2
                  try clear hfz51_3
                  try clear hfz51_4
                  try clear hfz53_0
                  try clear hfz53_1
                  try clear hfz53_2
                  try clear hfz53_3
                  try clear hfz53_4
                  try clear hfz56_0
                  try clear hfz56_1
                  try clear hfz56_2
                  try clear hfz56_3
                  try clear hfz56_4
                  try clear hfz58_0
                  try clear hfz58_1
                  try clear hfz58_2
                  try clear hfz58_3
                  try clear hfz58_4
                  try clear hfz61_0
                  try clear hfz61_1
                  try clear hfz61_2
                  try clear hfz61_3
                  try clear hfz61_4
                  try clear hx135_0
                  try clear hx135_1
                  try clear hx135_2
                  try clear hx135_3
                  try clear hx135_4
                  try clear p135
                  try clear p2
                  try clear q135
                  obtain ⟨kq, x66_38, rfl, HA, HJ38, BK131, BK132, BK136, HB⟩ := hcut
                  cases kq with
                  | zero => exact absurd HA.out (by simp [spec_TlbFind.j2])
                  | succ kj38 =>
                    have H := HA.out
                    clear HA
                    simp only [spec_TlbFind.j2] at H
                    by_cases c63 : x66_38 = true
                    · subst c63
                      have H1 : (spec_TlbFind.l0 kj38 a1 a2 a3 a4 (wrap64 (x11_2 + 1)) l0_0 a0_1) = some (r1, r2, r3) := by rw [if_pos rfl] at H; exact H
                      clear H
                      have H := H1
                      clear H1
                      have H' := Aside0.mk H
                      clear H
                      go_wp2
                      go_roundg kj38
                      case measure => have := HJ5.out; have := HK2.out; have := HJ38.out; omega
                      case rel => exact ⟨(wrap64 (x11_2 + 1)), (x133000_2), (x133001_2), (x133002_2), (by first | rfl | (simp; done) | (simp [*]; done)), H', ⟨by have := HJ5.out; have := HK2.out; have := HJ38.out; omega⟩, ⟨by (with_reducible repeat (first | refine blk_drewN ?_ _ | refine blk_drew ?_ | refine blk_alloc ?_ _)); exact BK131.out⟩, ⟨by (with_reducible repeat (first | refine blk_drewN ?_ _ | refine blk_drew ?_ | refine blk_alloc ?_ _)); exact BK132.out⟩, ⟨by repeat (first | (with_reducible first | exact HB.out | apply below_alloc | apply pw_below_drewN | apply below_drew1 | refine below_set ?_ GE131.out | refine below_set ?_ GE132.out | refine below_set ?_ GE136.out) | exact HB.out)⟩⟩
                    · replace c63 := Bool.eq_false_iff.mpr c63
                      subst c63
                      have H1 : ((spec_l03May.f kj38 ((rd_T50 l0_0 x11_2).f3) a3 a4).bind fun t138 => (if t138 = true then (if a3 = 2 then (spec_TlbFind.j3 kj38 a2 x11_2 ((Go.bits .and .i64 ((rd_T50 l0_0 x11_2).f3) 64) == 0) ((rd_T50 l0_0 x11_2).f0) ((rd_T50 l0_0 x11_2).f1) ((rd_T50 l0_0 x11_2).f2) ((rd_T50 l0_0 x11_2).f3) ((rd_T50 l0_0 x11_2).f4)) else (spec_TlbFind.j3 kj38 a2 x11_2 false ((rd_T50 l0_0 x11_2).f0) ((rd_T50 l0_0 x11_2).f1) ((rd_T50 l0_0 x11_2).f2) ((rd_T50 l0_0 x11_2).f3) ((rd_T50 l0_0 x11_2).f4))) else (spec_TlbFind.j3 kj38 a2 x11_2 true ((rd_T50 l0_0 x11_2).f0) ((rd_T50 l0_0 x11_2).f1) ((rd_T50 l0_0 x11_2).f2) ((rd_T50 l0_0 x11_2).f3) ((rd_T50 l0_0 x11_2).f4)))) = some (r1, r2, r3) := by rw [if_neg (show ¬ (false = true) by decide)] at H; exact H
                      clear H
                      have H := H1
                      clear H1
                      have HC64 := Aside0.mk H
                      clear H
                      go_upto_region 8 with (fail)
                      go_cut [82] (fun v82 wc => ∃ (kq : Nat) (x82_63 : Bool), v82 = .bool x82_63 ∧ Aside0 (spec_TlbFind.j3 kq a2 x11_2 x82_63 ((rd_T50 l0_0 x11_2).f0) ((rd_T50 l0_0 x11_2).f1) ((rd_T50 l0_0 x11_2).f2) ((rd_T50 l0_0 x11_2).f3) ((rd_T50 l0_0 x11_2).f4) = some (r1, r2, r3)) ∧ Aside0 (kq ≤ kj38) ∧ Aside0 (wc.heap[gb131]? = some (.cells #[(.slice (some ad135) l0_0.length c0_0), .int .i64 a0_1] 31 (0, 0))) ∧ Aside0 (wc.heap[gb132]? = some (.cells #[.bool x133000_2, .int .i64 x133001_2, .int .i64 x133002_2] 27 (0, 0))) ∧ Aside0 (wc.heap[gb136]? = some (.cells #[.int .i64 ((rd_T50 l0_0 x11_2).f0), .int .i64 ((rd_T50 l0_0 x11_2).f1), .int .i64 ((rd_T50 l0_0 x11_2).f2), .int .i64 ((rd_T50 l0_0 x11_2).f3), .bool ((rd_T50 l0_0 x11_2).f4)] 50 (0, 0))) ∧ Aside0 (Below w.heap.size w wc))
                      case first =>
                        have H := HC64.out
                        clear HC64
                        replace H := Option.bind_eq_some_iff.mp H
                        obtain ⟨t138, A650, H⟩ := H
                        replace H : (if t138 = true then (if a3 = 2 then (spec_TlbFind.j3 kj38 a2 x11_2 ((Go.bits .and .i64 ((rd_T50 l0_0 x11_2).f3) 64) == 0) ((rd_T50 l0_0 x11_2).f0) ((rd_T50 l0_0 x11_2).f1) ((rd_T50 l0_0 x11_2).f2) ((rd_T50 l0_0 x11_2).f3) ((rd_T50 l0_0 x11_2).f4)) else (spec_TlbFind.j3 kj38 a2 x11_2 false ((rd_T50 l0_0 x11_2).f0) ((rd_T50 l0_0 x11_2).f1) ((rd_T50 l0_0 x11_2).f2) ((rd_T50 l0_0 x11_2).f3) ((rd_T50 l0_0 x11_2).f4))) else (spec_TlbFind.j3 kj38 a2 x11_2 true ((rd_T50 l0_0 x11_2).f0) ((rd_T50 l0_0 x11_2).f1) ((rd_T50 l0_0 x11_2).f2) ((rd_T50 l0_0 x11_2).f3) ((rd_T50 l0_0 x11_2).f4))) = some (r1, r2, r3) := H
                        have A65 := Aside0.mk A650
                        clear A650
                        by_cases c66 : t138 = true
                        · subst c66
                          have H1 : (if a3 = 2 then (spec_TlbFind.j3 kj38 a2 x11_2 ((Go.bits .and .i64 ((rd_T50 l0_0 x11_2).f3) 64) == 0) ((rd_T50 l0_0 x11_2).f0) ((rd_T50 l0_0 x11_2).f1) ((rd_T50 l0_0 x11_2).f2) ((rd_T50 l0_0 x11_2).f3) ((rd_T50 l0_0 x11_2).f4)) else (spec_TlbFind.j3 kj38 a2 x11_2 false ((rd_T50 l0_0 x11_2).f0) ((rd_T50 l0_0 x11_2).f1) ((rd_T50 l0_0 x11_2).f2) ((rd_T50 l0_0 x11_2).f3) ((rd_T50 l0_0 x11_2).f4))) = some (r1, r2, r3) := by rw [if_pos rfl] at H; exact H
                          clear H
                          have H := H1
                          clear H1
                          by_cases c67 : a3 = 2
                          · rw [if_pos c67] at H
                            have c67b0 : (a3 == 2) = true := beq_iff_eq.mpr c67
                            have c67b1 : (a3 != 2) = false := bne_eq_false_iff_eq.mpr c67
                            clear c67
                            (first | rw [c67b0] | (simp only [i64_w, i32_w]; rw [c67b0]) | skip)
                            have H' := Aside0.mk H
                            clear H
                            have hnb68 := NB136_131.out
                            have hnc68 := NB131_136.out
                            have hnb69 := NB136_132.out
                            have hnc69 := NB132_136.out
                            have hcz70_0 : wc.cell? ⟨gb136, 0, none⟩ = some (.int .i64 ((rd_T50 l0_0 x11_2).f0)) := (blk_cell BK136.out 0).trans rfl
                            have hcz70_1 : wc.cell? ⟨gb136, 1, none⟩ = some (.int .i64 ((rd_T50 l0_0 x11_2).f1)) := (blk_cell BK136.out 1).trans rfl
                            have hcz70_2 : wc.cell? ⟨gb136, 2, none⟩ = some (.int .i64 ((rd_T50 l0_0 x11_2).f2)) := (blk_cell BK136.out 2).trans rfl
                            have hcz70_3 : wc.cell? ⟨gb136, 3, none⟩ = some (.int .i64 ((rd_T50 l0_0 x11_2).f3)) := (blk_cell BK136.out 3).trans rfl
                            have hcz70_4 : wc.cell? ⟨gb136, 4, none⟩ = some (.bool ((rd_T50 l0_0 x11_2).f4)) := (blk_cell BK136.out 4).trans rfl
                            have hfz70_0 := blk_frozen BK136.out 0
                            have hfz70_1 := blk_frozen BK136.out 1
                            have hfz70_2 := blk_frozen BK136.out 2
                            have hfz70_3 := blk_frozen BK136.out 3
                            have hfz70_4 := blk_frozen BK136.out 4
                            go_wp2_with (first | ((with_reducible refine gate_callee (f := 58) rfl ?_); refine goesL_ (some 71) rfl rfl Try.func58 (by kernel_rfl) rfl #[.int .i64 ((rd_T50 l0_0 x11_2).f3), .int .i64 a3, .bool a4] rfl (by (try simp only [List.map_toArray, List.map_cons, List.map_nil]); first | done | rfl | (simp only [List.length_drop, List.length_take]; rfl)) ?_; (with_reducible refine (spec_l03May.calls kj38 ((rd_T50 l0_0 x11_2).f3) a3 a4 true _ A65.out).mono ?_); rintro e w' ⟨rfl, ⟨nd, rfl⟩⟩; refine ⟨_, rfl, ?_⟩))
                            go_meet
                            case rel => exact ⟨_, (((Go.bits .and .i64 ((rd_T50 l0_0 x11_2).f3) 64) == 0)), (by first | rfl | (simp; done) | (simp [*]; done)), H', ⟨by have := HJ5.out; have := HK2.out; have := HJ38.out; first | omega | exact Nat.le_refl _⟩, ⟨by (with_reducible repeat (first | refine blk_drewN ?_ _ | refine blk_drew ?_ | refine blk_alloc ?_ _)); exact BK131.out⟩, ⟨by (with_reducible repeat (first | refine blk_drewN ?_ _ | refine blk_drew ?_ | refine blk_alloc ?_ _)); exact BK132.out⟩, ⟨by (with_reducible repeat (first | refine blk_drewN ?_ _ | refine blk_drew ?_ | refine blk_alloc ?_ _)); exact BK136.out⟩, ⟨by repeat (first | (with_reducible first | exact HB.out | apply below_alloc | apply pw_below_drewN | apply below_drew1 | refine below_set ?_ GE131.out | refine below_set ?_ GE132.out | refine below_set ?_ GE136.out) | exact HB.out)⟩⟩
                          · rw [if_neg c67] at H
                            have c67b0 : (a3 == 2) = false := beq_eq_false_iff_ne.mpr c67
                            have c67b1 : (a3 != 2) = true := bne_iff_ne.mpr c67
                            (first | rw [c67b0] | (simp only [i64_w, i32_w]; rw [c67b0]) | skip)
                            have H' := Aside0.mk H
                            clear H
                            have hnb71 := NB136_131.out
                            have hnc71 := NB131_136.out
                            have hnb72 := NB136_132.out
                            have hnc72 := NB132_136.out
                            have hcz73_0 : wc.cell? ⟨gb136, 0, none⟩ = some (.int .i64 ((rd_T50 l0_0 x11_2).f0)) := (blk_cell BK136.out 0).trans rfl
                            have hcz73_1 : wc.cell? ⟨gb136, 1, none⟩ = some (.int .i64 ((rd_T50 l0_0 x11_2).f1)) := (blk_cell BK136.out 1).trans rfl
                            have hcz73_2 : wc.cell? ⟨gb136, 2, none⟩ = some (.int .i64 ((rd_T50 l0_0 x11_2).f2)) := (blk_cell BK136.out 2).trans rfl
                            have hcz73_3 : wc.cell? ⟨gb136, 3, none⟩ = some (.int .i64 ((rd_T50 l0_0 x11_2).f3)) := (blk_cell BK136.out 3).trans rfl
                            have hcz73_4 : wc.cell? ⟨gb136, 4, none⟩ = some (.bool ((rd_T50 l0_0 x11_2).f4)) := (blk_cell BK136.out 4).trans rfl
                            have hfz73_0 := blk_frozen BK136.out 0
                            have hfz73_1 := blk_frozen BK136.out 1
                            have hfz73_2 := blk_frozen BK136.out 2
                            have hfz73_3 := blk_frozen BK136.out 3
                            have hfz73_4 := blk_frozen BK136.out 4
                            go_wp2_with (first | ((with_reducible refine gate_callee (f := 58) rfl ?_); refine goesL_ (some 71) rfl rfl Try.func58 (by kernel_rfl) rfl #[.int .i64 ((rd_T50 l0_0 x11_2).f3), .int .i64 a3, .bool a4] rfl (by (try simp only [List.map_toArray, List.map_cons, List.map_nil]); first | done | rfl | (simp only [List.length_drop, List.length_take]; rfl)) ?_; (with_reducible refine (spec_l03May.calls kj38 ((rd_T50 l0_0 x11_2).f3) a3 a4 true _ A65.out).mono ?_); rintro e w' ⟨rfl, ⟨nd, rfl⟩⟩; refine ⟨_, rfl, ?_⟩))
                            go_meet
                            case rel => exact ⟨_, (false), (by first | rfl | (simp; done) | (simp [*]; done)), H', ⟨by have := HJ5.out; have := HK2.out; have := HJ38.out; first | omega | exact Nat.le_refl _⟩, ⟨by (with_reducible repeat (first | refine blk_drewN ?_ _ | refine blk_drew ?_ | refine blk_alloc ?_ _)); exact BK131.out⟩, ⟨by (with_reducible repeat (first | refine blk_drewN ?_ _ | refine blk_drew ?_ | refine blk_alloc ?_ _)); exact BK132.out⟩, ⟨by (with_reducible repeat (first | refine blk_drewN ?_ _ | refine blk_drew ?_ | refine blk_alloc ?_ _)); exact BK136.out⟩, ⟨by repeat (first | (with_reducible first | exact HB.out | apply below_alloc | apply pw_below_drewN | apply below_drew1 | refine below_set ?_ GE131.out | refine below_set ?_ GE132.out | refine below_set ?_ GE136.out) | exact HB.out)⟩⟩
                        · replace c66 := Bool.eq_false_iff.mpr c66
                          subst c66
                          have H1 : (spec_TlbFind.j3 kj38 a2 x11_2 true ((rd_T50 l0_0 x11_2).f0) ((rd_T50 l0_0 x11_2).f1) ((rd_T50 l0_0 x11_2).f2) ((rd_T50 l0_0 x11_2).f3) ((rd_T50 l0_0 x11_2).f4)) = some (r1, r2, r3) := by rw [if_neg (show ¬ (false = true) by decide)] at H; exact H
                          clear H
                          have H := H1
                          clear H1
                          have H' := Aside0.mk H
                          clear H
                          have hnb74 := NB136_131.out
                          have hnc74 := NB131_136.out
                          have hnb75 := NB136_132.out
                          have hnc75 := NB132_136.out
                          have hcz76_0 : wc.cell? ⟨gb136, 0, none⟩ = some (.int .i64 ((rd_T50 l0_0 x11_2).f0)) := (blk_cell BK136.out 0).trans rfl
                          have hcz76_1 : wc.cell? ⟨gb136, 1, none⟩ = some (.int .i64 ((rd_T50 l0_0 x11_2).f1)) := (blk_cell BK136.out 1).trans rfl
                          have hcz76_2 : wc.cell? ⟨gb136, 2, none⟩ = some (.int .i64 ((rd_T50 l0_0 x11_2).f2)) := (blk_cell BK136.out 2).trans rfl
                          have hcz76_3 : wc.cell? ⟨gb136, 3, none⟩ = some (.int .i64 ((rd_T50 l0_0 x11_2).f3)) := (blk_cell BK136.out 3).trans rfl
                          have hcz76_4 : wc.cell? ⟨gb136, 4, none⟩ = some (.bool ((rd_T50 l0_0 x11_2).f4)) := (blk_cell BK136.out 4).trans rfl
                          have hfz76_0 := blk_frozen BK136.out 0
                          have hfz76_1 := blk_frozen BK136.out 1
                          have hfz76_2 := blk_frozen BK136.out 2
                          have hfz76_3 := blk_frozen BK136.out 3
                          have hfz76_4 := blk_frozen BK136.out 4
                          go_wp2_with (first | ((with_reducible refine gate_callee (f := 58) rfl ?_); refine goesL_ (some 71) rfl rfl Try.func58 (by kernel_rfl) rfl #[.int .i64 ((rd_T50 l0_0 x11_2).f3), .int .i64 a3, .bool a4] rfl (by (try simp only [List.map_toArray, List.map_cons, List.map_nil]); first | done | rfl | (simp only [List.length_drop, List.length_take]; rfl)) ?_; (with_reducible refine (spec_l03May.calls kj38 ((rd_T50 l0_0 x11_2).f3) a3 a4 false _ A65.out).mono ?_); rintro e w' ⟨rfl, ⟨nd, rfl⟩⟩; refine ⟨_, rfl, ?_⟩))
                          go_meet
                          case rel => exact ⟨_, (true), (by first | rfl | (simp; done) | (simp [*]; done)), H', ⟨by have := HJ5.out; have := HK2.out; have := HJ38.out; first | omega | exact Nat.le_refl _⟩, ⟨by (with_reducible repeat (first | refine blk_drewN ?_ _ | refine blk_drew ?_ | refine blk_alloc ?_ _)); exact BK131.out⟩, ⟨by (with_reducible repeat (first | refine blk_drewN ?_ _ | refine blk_drew ?_ | refine blk_alloc ?_ _)); exact BK132.out⟩, ⟨by (with_reducible repeat (first | refine blk_drewN ?_ _ | refine blk_drew ?_ | refine blk_alloc ?_ _)); exact BK136.out⟩, ⟨by repeat (first | (with_reducible first | exact HB.out | apply below_alloc | apply pw_below_drewN | apply below_drew1 | refine below_set ?_ GE131.out | refine below_set ?_ GE132.out | refine below_set ?_ GE136.out) | exact HB.out)⟩⟩
                      case rest =>
                        clear HC64
                        try clear c1
                        try clear p1
                        try clear q1
                        try clear hx1
                        try clear c2
                        try clear p2
                        try clear c3
                        try clear c4
                        try clear c5
                        try clear c6
                        try clear p6
                        try clear c7
                        try clear c10
                        try clear c10b0
                        try clear c10b1
                        try clear c11
                        try clear c11b0
                        try clear c12
                        try clear p13
                        try clear q13
                        try clear hx13
                        try clear c15
                        try clear c15b0
                        try clear c16
                        try clear c19
                        try clear c19b0
                        try clear c20
                        try clear c23
                        try clear c23b0
                        try clear c24
                        try clear c25
                        try clear c28
                        try clear c31
                        try clear c34
                        try clear c35
                        try clear c37
                        try clear c37b0
                        try clear c38
                        try clear c38b0
                        try clear c40
                        try clear c43
                        try clear c44
                        try clear c47
                        try clear c48
                        try clear c48b0
                        try clear c48b1
                        try clear c49
                        try clear c50
                        try clear c54
                        try clear c55
                        try clear c57
                        try clear c58
                        try clear c59
                        try clear c60
                        try clear c63
                        try clear p64
                        try clear c66
                        try clear c67
                        try clear c67b0
                        try clear c67b1
                        try clear c68
                        try clear c69
                        try clear c71
                        try clear c72
                        try clear c74
                        try clear c75
                        try clear hcz13_0
                        try clear hcz13_1
                        try clear hcz17_0
                        try clear hcz17_1
                        try clear hcz21_0
                        try clear hcz21_1
                        try clear hcz25_0
                        try clear hcz25_1
                        try clear hcz29_0
                        try clear hcz29_1
                        try clear hcz32_0
                        try clear hcz32_1
                        try clear hcz36_0
                        try clear hcz36_1
                        try clear hcz36_2
                        try clear hcz41_0
                        try clear hcz41_1
                        try clear hcz45_0
                        try clear hcz45_1
                        try clear hcz45_2
                        try clear hcz45_3
                        try clear hcz45_4
                        try clear hcz51_0
                        try clear hcz51_1
                        try clear hcz51_2
                        try clear hcz51_3
                        try clear hcz51_4
                        try clear hcz53_0
                        try clear hcz53_1
                        try clear hcz53_2
                        try clear hcz53_3
                        try clear hcz53_4
                        try clear hcz56_0
                        try clear hcz56_1
                        try clear hcz56_2
                        try clear hcz56_3
                        try clear hcz56_4
                        try clear hcz58_0
                        try clear hcz58_1
                        try clear hcz58_2
                        try clear hcz58_3
                        try clear hcz58_4
                        try clear hcz61_0
                        try clear hcz61_1
                        try clear hcz61_2
                        try clear hcz61_3
                        try clear hcz61_4
                        try clear hcz70_0
                        try clear hcz70_1
                        try clear hcz70_2
                        try clear hcz70_3
                        try clear hcz70_4
                        try clear hcz73_0
                        try clear hcz73_1
                        try clear hcz73_2
                        try clear hcz73_3
                        try clear hcz73_4
                        try clear hcz76_0
                        try clear hcz76_1
                        try clear hcz76_2
                        try clear hcz76_3
                        try clear hcz76_4
                        try clear hfz13_0
                        try clear hfz13_1
                        try clear hfz17_0
                        try clear hfz17_1
                        try clear hfz21_0
                        try clear hfz21_1
                        try clear hfz25_0
                        try clear hfz25_1
                        try clear hfz29_0
                        try clear hfz29_1
                        try clear hfz32_0
                        try clear hfz32_1
                        try clear hfz36_0
                        try clear hfz36_1
                        try clear hfz36_2
                        try clear hfz41_0
                        try clear hfz41_1
                        try clear hfz45_0
                        try clear hfz45_1
                        try clear hfz45_2
                        try clear hfz45_3
                        try clear hfz45_4
                        try clear hfz51_0
                        try clear hfz51_1
                        try clear hfz51_2
                        try clear hfz51_3
                        try clear hfz51_4
                        try clear hfz53_0
                        try clear hfz53_1
                        try clear hfz53_2
                        try clear hfz53_3
                        try clear hfz53_4
                        try clear hfz56_0
                        try clear hfz56_1
                        try clear hfz56_2
                        try clear hfz56_3
                        try clear hfz56_4
                        try clear hfz58_0
                        try clear hfz58_1
                        try clear hfz58_2
                        try clear hfz58_3
                        try clear hfz58_4
                        try clear hfz61_0
                        try clear hfz61_1
                        try clear hfz61_2
                        try clear hfz61_3
                        try clear hfz61_4
                        try clear hfz70_0
                        try clear hfz70_1
                        try clear hfz70_2
                        try clear hfz70_3
                        try clear hfz70_4
                        try clear hfz73_0
                        try clear hfz73_1
                        try clear hfz73_2
                        try clear hfz73_3
                        try clear hfz73_4
                        try clear hfz76_0
                        try clear hfz76_1
                        try clear hfz76_2
                        try clear hfz76_3
                        try clear hfz76_4
                        try clear hx135_0
                        try clear hx135_1
                        try clear hx135_2
                        try clear hx135_3
                        try clear hx135_4
                        try clear p1
                        try clear p13
                        try clear p135
                        try clear p2
                        try clear q1
                        try clear q13
                        try clear q135
                        obtain ⟨kq, x82_63, rfl, HA, HJ63, BK131, BK132, BK136, HB⟩ := hcut
                        cases kq with
                        | zero => exact absurd HA.out (by simp [spec_TlbFind.j3])
                        | succ kj63 =>
                          have H := HA.out
                          clear HA
                          simp only [spec_TlbFind.j3] at H
                          by_cases c77 : x82_63 = true
                          · subst c77
                            have H1 : (some (false, 0, 0)) = some (r1, r2, r3) := by rw [if_pos rfl] at H; exact H
                            clear H
                            have H := H1
                            clear H1
                            simp only [Option.some.injEq, Prod.mk.injEq] at H
                            obtain ⟨rfl, rfl, rfl⟩ := H
                            have hnb78 := NB132_131.out
                            have hnc78 := NB131_132.out
                            have hnb79 := NB132_136.out
                            have hnc79 := NB136_132.out
                            have hcz80_0 : wc.cell? ⟨gb132, 0, none⟩ = some (.bool x133000_2) := (blk_cell BK132.out 0).trans rfl
                            have hcz80_1 : wc.cell? ⟨gb132, 1, none⟩ = some (.int .i64 x133001_2) := (blk_cell BK132.out 1).trans rfl
                            have hcz80_2 : wc.cell? ⟨gb132, 2, none⟩ = some (.int .i64 x133002_2) := (blk_cell BK132.out 2).trans rfl
                            have hfz80_0 := blk_frozen BK132.out 0
                            have hfz80_1 := blk_frozen BK132.out 1
                            have hfz80_2 := blk_frozen BK132.out 2
                            go_wp2
                            refine bodyPost_ret (results_cell_row rfl _ _ gb132 27 #[.bool false, .int .i64 0, .int .i64 0] (0, 0) _ rfl (by (with_reducible repeat (first | refine blk_drewN ?_ _ | refine blk_drew ?_ | refine blk_alloc ?_ _)); refine blk_put (cs := #[.bool false, .int .i64 0, .int .i64 x133002_2]) ?_ 2 _ rfl; (with_reducible repeat (first | refine blk_drewN ?_ _ | refine blk_drew ?_ | refine blk_alloc ?_ _)); refine blk_put (cs := #[.bool false, .int .i64 x133001_2, .int .i64 x133002_2]) ?_ 1 _ rfl; (with_reducible repeat (first | refine blk_drewN ?_ _ | refine blk_drew ?_ | refine blk_alloc ?_ _)); refine blk_put (cs := #[.bool x133000_2, .int .i64 x133001_2, .int .i64 x133002_2]) ?_ 0 _ rfl; (with_reducible repeat (first | refine blk_drewN ?_ _ | refine blk_drew ?_ | refine blk_alloc ?_ _)); exact BK132.out) Try.underlying27 rfl (by kernel_rfl)) rfl ?_
                            exact ⟨by first | rfl | (simp [errW_none, errW_some] <;> rfl) | (simp [*, errW_none, errW_some] <;> rfl), by repeat (first | (with_reducible first | exact HB.out | apply below_alloc | apply pw_below_drewN | apply below_drew1 | refine below_set ?_ GE131.out | refine below_set ?_ GE132.out | refine below_set ?_ GE136.out) | exact HB.out)⟩
                          · replace c77 := Bool.eq_false_iff.mpr c77
                            subst c77
                            have H1 : (if ((rd_T50 l0_0 x11_2).f4) = true then (some (true, wrap64 ((wrap64 ((wrap64 (((rd_T50 l0_0 x11_2).f2) + (Int.tmod (a2 / 256) 32))) * 256)) + (Int.tmod a2 256)), x11_2)) else (some (true, wrap64 ((wrap64 (((rd_T50 l0_0 x11_2).f2) * 256)) + (Int.tmod a2 256)), x11_2))) = some (r1, r2, r3) := by rw [if_neg (show ¬ (false = true) by decide)] at H; exact H
                            clear H
                            have H := H1
                            clear H1
                            by_cases c81 : ((rd_T50 l0_0 x11_2).f4) = true
                            · rw [if_pos c81] at H
                              have c81b0 : ((rd_T50 l0_0 x11_2).f4) = true := c81
                              clear c81
                              simp only [Option.some.injEq, Prod.mk.injEq] at H
                              obtain ⟨rfl, rfl, rfl⟩ := H
                              have hnb82 := NB136_131.out
                              have hnc82 := NB131_136.out
                              have hnb83 := NB136_132.out
                              have hnc83 := NB132_136.out
                              have hcz84_0 : wc.cell? ⟨gb136, 0, none⟩ = some (.int .i64 ((rd_T50 l0_0 x11_2).f0)) := (blk_cell BK136.out 0).trans rfl
                              have hcz84_1 : wc.cell? ⟨gb136, 1, none⟩ = some (.int .i64 ((rd_T50 l0_0 x11_2).f1)) := (blk_cell BK136.out 1).trans rfl
                              have hcz84_2 : wc.cell? ⟨gb136, 2, none⟩ = some (.int .i64 ((rd_T50 l0_0 x11_2).f2)) := (blk_cell BK136.out 2).trans rfl
                              have hcz84_3 : wc.cell? ⟨gb136, 3, none⟩ = some (.int .i64 ((rd_T50 l0_0 x11_2).f3)) := (blk_cell BK136.out 3).trans rfl
                              have hcz84_4 : wc.cell? ⟨gb136, 4, none⟩ = some (.bool ((rd_T50 l0_0 x11_2).f4)) := (blk_cell BK136.out 4).trans rfl
                              have hfz84_0 := blk_frozen BK136.out 0
                              have hfz84_1 := blk_frozen BK136.out 1
                              have hfz84_2 := blk_frozen BK136.out 2
                              have hfz84_3 := blk_frozen BK136.out 3
                              have hfz84_4 := blk_frozen BK136.out 4
                              have hnb85 := NB132_131.out
                              have hnc85 := NB131_132.out
                              have hcz86_0 : wc.cell? ⟨gb132, 0, none⟩ = some (.bool x133000_2) := (blk_cell BK132.out 0).trans rfl
                              have hcz86_1 : wc.cell? ⟨gb132, 1, none⟩ = some (.int .i64 x133001_2) := (blk_cell BK132.out 1).trans rfl
                              have hcz86_2 : wc.cell? ⟨gb132, 2, none⟩ = some (.int .i64 x133002_2) := (blk_cell BK132.out 2).trans rfl
                              have hfz86_0 := blk_frozen BK132.out 0
                              have hfz86_1 := blk_frozen BK132.out 1
                              have hfz86_2 := blk_frozen BK132.out 2
                              go_wp2
                              refine bodyPost_ret (results_cell_row rfl _ _ gb132 27 #[.bool true, .int .i64 (wrap64 ((wrap64 ((wrap64 (((rd_T50 l0_0 x11_2).f2) + (Int.tmod (a2 / 256) 32))) * 256)) + (Int.tmod a2 256))), .int .i64 x11_2] (0, 0) _ rfl (by (with_reducible repeat (first | refine blk_drewN ?_ _ | refine blk_drew ?_ | refine blk_alloc ?_ _)); refine blk_put (cs := #[.bool true, .int .i64 (wrap64 ((wrap64 ((wrap64 (((rd_T50 l0_0 x11_2).f2) + (Int.tmod (a2 / 256) 32))) * 256)) + (Int.tmod a2 256))), .int .i64 x133002_2]) ?_ 2 _ rfl; (with_reducible repeat (first | refine blk_drewN ?_ _ | refine blk_drew ?_ | refine blk_alloc ?_ _)); refine blk_put (cs := #[.bool true, .int .i64 x133001_2, .int .i64 x133002_2]) ?_ 1 _ rfl; (with_reducible repeat (first | refine blk_drewN ?_ _ | refine blk_drew ?_ | refine blk_alloc ?_ _)); refine blk_put (cs := #[.bool x133000_2, .int .i64 x133001_2, .int .i64 x133002_2]) ?_ 0 _ rfl; (with_reducible repeat (first | refine blk_drewN ?_ _ | refine blk_drew ?_ | refine blk_alloc ?_ _)); exact BK132.out) Try.underlying27 rfl (by kernel_rfl)) rfl ?_
                              exact ⟨by first | rfl | (simp [errW_none, errW_some] <;> rfl) | (simp [*, errW_none, errW_some] <;> rfl), by repeat (first | (with_reducible first | exact HB.out | apply below_alloc | apply pw_below_drewN | apply below_drew1 | refine below_set ?_ GE131.out | refine below_set ?_ GE132.out | refine below_set ?_ GE136.out) | exact HB.out)⟩
                            · rw [if_neg c81] at H
                              have c81b0 : ((rd_T50 l0_0 x11_2).f4) = false := by simpa using c81
                              clear c81
                              simp only [Option.some.injEq, Prod.mk.injEq] at H
                              obtain ⟨rfl, rfl, rfl⟩ := H
                              have hnb87 := NB136_131.out
                              have hnc87 := NB131_136.out
                              have hnb88 := NB136_132.out
                              have hnc88 := NB132_136.out
                              have hcz89_0 : wc.cell? ⟨gb136, 0, none⟩ = some (.int .i64 ((rd_T50 l0_0 x11_2).f0)) := (blk_cell BK136.out 0).trans rfl
                              have hcz89_1 : wc.cell? ⟨gb136, 1, none⟩ = some (.int .i64 ((rd_T50 l0_0 x11_2).f1)) := (blk_cell BK136.out 1).trans rfl
                              have hcz89_2 : wc.cell? ⟨gb136, 2, none⟩ = some (.int .i64 ((rd_T50 l0_0 x11_2).f2)) := (blk_cell BK136.out 2).trans rfl
                              have hcz89_3 : wc.cell? ⟨gb136, 3, none⟩ = some (.int .i64 ((rd_T50 l0_0 x11_2).f3)) := (blk_cell BK136.out 3).trans rfl
                              have hcz89_4 : wc.cell? ⟨gb136, 4, none⟩ = some (.bool ((rd_T50 l0_0 x11_2).f4)) := (blk_cell BK136.out 4).trans rfl
                              have hfz89_0 := blk_frozen BK136.out 0
                              have hfz89_1 := blk_frozen BK136.out 1
                              have hfz89_2 := blk_frozen BK136.out 2
                              have hfz89_3 := blk_frozen BK136.out 3
                              have hfz89_4 := blk_frozen BK136.out 4
                              have hnb90 := NB132_131.out
                              have hnc90 := NB131_132.out
                              have hcz91_0 : wc.cell? ⟨gb132, 0, none⟩ = some (.bool x133000_2) := (blk_cell BK132.out 0).trans rfl
                              have hcz91_1 : wc.cell? ⟨gb132, 1, none⟩ = some (.int .i64 x133001_2) := (blk_cell BK132.out 1).trans rfl
                              have hcz91_2 : wc.cell? ⟨gb132, 2, none⟩ = some (.int .i64 x133002_2) := (blk_cell BK132.out 2).trans rfl
                              have hfz91_0 := blk_frozen BK132.out 0
                              have hfz91_1 := blk_frozen BK132.out 1
                              have hfz91_2 := blk_frozen BK132.out 2
                              go_wp2
                              refine bodyPost_ret (results_cell_row rfl _ _ gb132 27 #[.bool true, .int .i64 (wrap64 ((wrap64 (((rd_T50 l0_0 x11_2).f2) * 256)) + (Int.tmod a2 256))), .int .i64 x11_2] (0, 0) _ rfl (by (with_reducible repeat (first | refine blk_drewN ?_ _ | refine blk_drew ?_ | refine blk_alloc ?_ _)); refine blk_put (cs := #[.bool true, .int .i64 (wrap64 ((wrap64 (((rd_T50 l0_0 x11_2).f2) * 256)) + (Int.tmod a2 256))), .int .i64 x133002_2]) ?_ 2 _ rfl; (with_reducible repeat (first | refine blk_drewN ?_ _ | refine blk_drew ?_ | refine blk_alloc ?_ _)); refine blk_put (cs := #[.bool true, .int .i64 x133001_2, .int .i64 x133002_2]) ?_ 1 _ rfl; (with_reducible repeat (first | refine blk_drewN ?_ _ | refine blk_drew ?_ | refine blk_alloc ?_ _)); refine blk_put (cs := #[.bool x133000_2, .int .i64 x133001_2, .int .i64 x133002_2]) ?_ 0 _ rfl; (with_reducible repeat (first | refine blk_drewN ?_ _ | refine blk_drew ?_ | refine blk_alloc ?_ _)); exact BK132.out) Try.underlying27 rfl (by kernel_rfl)) rfl ?_
                              exact ⟨by first | rfl | (simp [errW_none, errW_some] <;> rfl) | (simp [*, errW_none, errW_some] <;> rfl), by repeat (first | (with_reducible first | exact HB.out | apply below_alloc | apply pw_below_drewN | apply below_drew1 | refine below_set ?_ GE131.out | refine below_set ?_ GE132.out | refine below_set ?_ GE136.out) | exact HB.out)⟩
              · rw [if_neg c38] at H
                exact absurd H (by simp)
            · rw [if_neg c37] at H
              have c37b0 : decide (x11_2 < (l0_0.length : Int)) = false := decide_eq_false c37
              clear c37
              simp only [Option.some.injEq, Prod.mk.injEq] at H
              obtain ⟨rfl, rfl, rfl⟩ := H
              have hnb92 := NB131_132.out
              have hnc92 := NB132_131.out
              have hcz93_0 : wr.cell? ⟨gb131, 0, none⟩ = some (.slice A0_0 l0_0.length c0_0) := (blk_cell BK131.out 0).trans rfl
              have hcz93_1 : wr.cell? ⟨gb131, 1, none⟩ = some (.int .i64 a0_1) := (blk_cell BK131.out 1).trans rfl
              have hfz93_0 := blk_frozen BK131.out 0
              have hfz93_1 := blk_frozen BK131.out 1
              have hcz94_0 : wr.cell? ⟨gb132, 0, none⟩ = some (.bool x133000_2) := (blk_cell BK132.out 0).trans rfl
              have hcz94_1 : wr.cell? ⟨gb132, 1, none⟩ = some (.int .i64 x133001_2) := (blk_cell BK132.out 1).trans rfl
              have hcz94_2 : wr.cell? ⟨gb132, 2, none⟩ = some (.int .i64 x133002_2) := (blk_cell BK132.out 2).trans rfl
              have hfz94_0 := blk_frozen BK132.out 0
              have hfz94_1 := blk_frozen BK132.out 1
              have hfz94_2 := blk_frozen BK132.out 2
              go_wp2
              refine bodyPost_ret (results_cell_row rfl _ _ gb132 27 #[.bool false, .int .i64 0, .int .i64 0] (0, 0) _ rfl (by (with_reducible repeat (first | refine blk_drewN ?_ _ | refine blk_drew ?_ | refine blk_alloc ?_ _)); refine blk_put (cs := #[.bool false, .int .i64 0, .int .i64 x133002_2]) ?_ 2 _ rfl; (with_reducible repeat (first | refine blk_drewN ?_ _ | refine blk_drew ?_ | refine blk_alloc ?_ _)); refine blk_put (cs := #[.bool false, .int .i64 x133001_2, .int .i64 x133002_2]) ?_ 1 _ rfl; (with_reducible repeat (first | refine blk_drewN ?_ _ | refine blk_drew ?_ | refine blk_alloc ?_ _)); refine blk_put (cs := #[.bool x133000_2, .int .i64 x133001_2, .int .i64 x133002_2]) ?_ 0 _ rfl; (with_reducible repeat (first | refine blk_drewN ?_ _ | refine blk_drew ?_ | refine blk_alloc ?_ _)); exact BK132.out) Try.underlying27 rfl (by kernel_rfl)) rfl ?_
              exact ⟨by first | rfl | (simp [errW_none, errW_some] <;> rfl) | (simp [*, errW_none, errW_some] <;> rfl), by repeat (first | (with_reducible first | exact HB.out | apply below_alloc | apply pw_below_drewN | apply below_drew1 | refine below_set ?_ GE131.out | refine below_set ?_ GE132.out) | exact HB.out)⟩

end Go.Proofs.Ytaopkodopglgeaa.PFnExactTlbFind
