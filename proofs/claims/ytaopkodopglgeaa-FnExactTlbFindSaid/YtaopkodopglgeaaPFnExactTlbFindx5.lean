-- Printed for this claim by this session's own program.
import Derived.Test.YtaopkodopglgeaaPFnExactTlbFindx0
import Derived.Test.YtaopkodopglgeaaPFnExactTlbFindx4
namespace Go.Proofs.Ytaopkodopglgeaa.PFnExactTlbFind
open Go.RowKit Go.Proofs.YtaopkodopglgeaaW.PrintWords Go.Proofs.YtaopkodopglgeaaW.PrintLast Go.Proofs.YtaopkodopglgeaaW.PrintMore
attribute [local go_sem] max2_int min2_int max_two min_two max_three min_three max_four min_four   -- for this text's walks alone
set_option linter.unusedVariables false
set_option linter.unusedSimpArgs false

/-! ### slices_IndexFunc_TlbEntry_at_impl_TlbFind_c1: function 61 -/
def slices_IndexFunc_TlbEntry_at_impl_TlbFind_c1.l0 : Nat → List (S50) → Int → Int → Int → Int → Option (Int)
  | 0, _, _, _, _, _ => none
  | k + 1, x0, x7, x8, x49000, x50000 => if x8 < x7 then (if 0 ≤ x8 then (if x8 < (x0.length : Int) then ((impl_TlbFind_c1.f ((rd_T50 x0 x8).f0) ((rd_T50 x0 x8).f1) ((rd_T50 x0 x8).f2) ((rd_T50 x0 x8).f3) ((rd_T50 x0 x8).f4) x49000 x50000).bind fun t168 => (if t168 = true then (some x8) else (slices_IndexFunc_TlbEntry_at_impl_TlbFind_c1.l0 k x0 x7 (wrap64 (x8 + 1)) x49000 x50000))) else (none)) else (none)) else (some (-1))
def slices_IndexFunc_TlbEntry_at_impl_TlbFind_c1.f (k : Nat) (l0 : List (S50)) (a1_0 : Int) (a1_1 : Int) : Option (Int) := slices_IndexFunc_TlbEntry_at_impl_TlbFind_c1.l0 k l0 (l0.length : Int) 0 a1_0 a1_1
theorem slices_IndexFunc_TlbEntry_at_impl_TlbFind_c1.mono_l : ∀ k, (∀ y0 y1 y2 y3 y4, LeO (slices_IndexFunc_TlbEntry_at_impl_TlbFind_c1.l0 k y0 y1 y2 y3 y4) (slices_IndexFunc_TlbEntry_at_impl_TlbFind_c1.l0 (k + 1) y0 y1 y2 y3 y4))
  | 0 => fun _ _ _ _ _ r h => by simp [slices_IndexFunc_TlbEntry_at_impl_TlbFind_c1.l0] at h
  | k + 1 => by
    have ih0 := slices_IndexFunc_TlbEntry_at_impl_TlbFind_c1.mono_l k
    · intro y0 y1 y2 y3 y4
      unfold slices_IndexFunc_TlbEntry_at_impl_TlbFind_c1.l0
      repeat' first
      | (with_reducible exact ih0 _ _ _ _ _)
      | (with_reducible exact LeO.refl _)
      | (with_reducible exact LeO.none _)
      | (with_reducible refine LeO.ite ?_ ?_)
      | (with_reducible refine LeO.bind ?_ (fun _ => ?_))
      | exact ih0 _ _ _ _ _
      | exact LeO.none _
      | refine LeO.ite ?_ ?_
      | refine LeO.bind ?_ (fun _ => ?_)
theorem slices_IndexFunc_TlbEntry_at_impl_TlbFind_c1.mono : ∀ a0 a1 a2 k, LeO (slices_IndexFunc_TlbEntry_at_impl_TlbFind_c1.f k a0 a1 a2) (slices_IndexFunc_TlbEntry_at_impl_TlbFind_c1.f (k + 1) a0 a1 a2) := by
  intro a0 a1 a2 k
  have ih0 := slices_IndexFunc_TlbEntry_at_impl_TlbFind_c1.mono_l k
  unfold slices_IndexFunc_TlbEntry_at_impl_TlbFind_c1.f
  repeat' first
      | (with_reducible exact ih0 _ _ _ _ _)
      | (with_reducible exact LeO.refl _)
      | (with_reducible exact LeO.none _)
      | (with_reducible refine LeO.ite ?_ ?_)
      | (with_reducible refine LeO.bind ?_ (fun _ => ?_))
      | exact ih0 _ _ _ _ _
      | exact LeO.none _
      | refine LeO.ite ?_ ?_
      | refine LeO.bind ?_ (fun _ => ?_)
set_option maxHeartbeats 8000000 in
set_option maxRecDepth 100000 in
theorem slices_IndexFunc_TlbEntry_at_impl_TlbFind_c1.calls (k : Nat) (A0 : Option Addr) (c0 : Nat) (l0 : List (S50)) (gc1_0 : Nat) (gc1_1 : Nat) (a1_0 : Int) (a1_1 : Int) (r : Int) (w : World) (hr0 : Kd.C k50 w A0 l0.length l0) (hc0 : l0.length ≤ c0) (hb1_0 : w.heap[gc1_0]? = some (.cells #[.int .i64 a1_0] 2 (0, 0))) (hb1_1 : w.heap[gc1_1]? = some (.cells #[.int .i64 a1_1] 2 (0, 0))) (hn1_0_1_1 : gc1_0 ≠ gc1_1) (h : slices_IndexFunc_TlbEntry_at_impl_TlbFind_c1.f k l0 a1_0 a1_1 = some r) :
    Calls Try.prog 61 #[.slice A0 l0.length c0, .func (.func 62) #[] #[.pointer (some ⟨gc1_0, 0, none⟩), .pointer (some ⟨gc1_1, 0, none⟩)]] w fun e w' => e = .returned (.int .i64 r) ∧ Below w.heap.size w w' := by
  have hu50 := Try.underlying50
  have HR0 := Aside0.mk hr0
  have HC0 := Aside0.mk hc0
  clear hr0 hc0
  have BK48 := Aside0.mk hb1_0
  clear hb1_0
  have BK49 := Aside0.mk hb1_1
  clear hb1_1
  have NB48_49 := Aside0.mk hn1_0_1_1
  have NB49_48 := Aside0.mk (Ne.symm hn1_0_1_1)
  clear hn1_0_1_1
  have HB := Aside0.mk (Below.refl w.heap.size w)
  have H : (slices_IndexFunc_TlbEntry_at_impl_TlbFind_c1.l0 k l0 (l0.length : Int) 0 a1_0 a1_1) = some r := h
  clear h
  have H' := Aside0.mk H
  clear H
  go_enter Try.func61, Try.ntmps61
  go_wp2
  go_loopg [8] k (fun kq v8 w' => ∃ (x8_1 : Int), v8 = .int .i64 x8_1 ∧ Aside0 (slices_IndexFunc_TlbEntry_at_impl_TlbFind_c1.l0 kq l0 (l0.length : Int) x8_1 a1_0 a1_1 = some r) ∧ Aside0 (kq ≤ k) ∧ Aside0 (w'.heap[gc1_0]? = some (.cells #[.int .i64 a1_0] 2 (0, 0))) ∧ Aside0 (w'.heap[gc1_1]? = some (.cells #[.int .i64 a1_1] 2 (0, 0))) ∧ Aside0 (Below w.heap.size w w'))
  case atStart => exact ⟨(0), (by first | rfl | (simp; done) | (simp [*]; done)), H', ⟨Nat.le_refl _⟩, ⟨by (with_reducible repeat (first | refine blk_drewN ?_ _ | refine blk_drew ?_ | refine blk_alloc ?_ _)); exact BK48.out⟩, ⟨by (with_reducible repeat (first | refine blk_drewN ?_ _ | refine blk_drew ?_ | refine blk_alloc ?_ _)); exact BK49.out⟩, ⟨by repeat (first | (with_reducible first | exact HB.out | apply below_alloc | apply pw_below_drewN | apply below_drew1 | refine below_set ?_ GE48.out | refine below_set ?_ GE49.out) | exact HB.out)⟩⟩
  case round =>
    clear H'
    try clear c1
    try clear p2
    obtain ⟨x8_1, rfl, HA, HK1, BK48, BK49, HB⟩ := hrel
    cases gk with
    | zero => exact absurd HA.out (by simp [slices_IndexFunc_TlbEntry_at_impl_TlbFind_c1.l0])
    | succ k1 =>
      have H := HA.out
      clear HA
      simp only [slices_IndexFunc_TlbEntry_at_impl_TlbFind_c1.l0] at H
      by_cases c3 : x8_1 < (l0.length : Int)
      · rw [if_pos c3] at H
        have c3b0 : decide (x8_1 < (l0.length : Int)) = true := decide_eq_true c3
        clear c3
        by_cases c4 : 0 ≤ x8_1
        · rw [if_pos c4] at H
          have c4b0 : decide (0 ≤ x8_1) = true := decide_eq_true c4
          clear c4
          by_cases c5 : x8_1 < (l0.length : Int)
          · rw [if_pos c5] at H
            have c5b0 : decide (x8_1 < (l0.length : Int)) = true := decide_eq_true c5
            clear c5
            replace H := Option.bind_eq_some_iff.mp H
            obtain ⟨t168, A60, H⟩ := H
            replace H : (if t168 = true then (some x8_1) else (slices_IndexFunc_TlbEntry_at_impl_TlbFind_c1.l0 k1 l0 (l0.length : Int) (wrap64 (x8_1 + 1)) a1_0 a1_1)) = some r := H
            have A6 := Aside0.mk A60
            clear A60
            by_cases c7 : t168 = true
            · subst c7
              have H1 : (some x8_1) = some r := by rw [if_pos rfl] at H; exact H
              clear H
              have H := H1
              clear H1
              obtain rfl := Option.some.inj H
              have p167 : 0 ≤ (x8_1 : Int) := of_decide_eq_true (by first | (with_reducible assumption) | assumption)
              have q167 : x8_1 < (l0.length : Int) := of_decide_eq_true (by first | (with_reducible assumption) | assumption)
              obtain ⟨ad167, e167, hx167_0, hx167_1, hx167_2, hx167_3, hx167_4⟩ := at_T50 HR0.out x8_1 p167 q167
              cases e167
              replace hx167_0 := (HB.out.cell (World.block_lt_of_cell? w _ hx167_0)).trans hx167_0
              replace hx167_1 := (HB.out.cell (World.block_lt_of_cell? w _ hx167_1)).trans hx167_1
              replace hx167_2 := (HB.out.cell (World.block_lt_of_cell? w _ hx167_2)).trans hx167_2
              replace hx167_3 := (HB.out.cell (World.block_lt_of_cell? w _ hx167_3)).trans hx167_3
              replace hx167_4 := (HB.out.cell (World.block_lt_of_cell? w _ hx167_4)).trans hx167_4
              replace p167 := eq_true p167
              replace q167 := eq_true q167
              go_wp2_with (first | (go_at_call 62; (with_reducible refine (impl_TlbFind_c1.calls ((rd_T50 l0 x8_1).f0) ((rd_T50 l0 x8_1).f1) ((rd_T50 l0 x8_1).f2) ((rd_T50 l0 x8_1).f3) ((rd_T50 l0 x8_1).f4) gc1_0 gc1_1 a1_0 a1_1 true _ ?side1 ?side2 ?side3 A6.out).mono ?_); (case side1 => exact (by (with_reducible repeat (first | refine blk_drewN ?_ _ | refine blk_drew ?_ | refine blk_alloc ?_ _)); exact BK48.out)); (case side2 => exact (by (with_reducible repeat (first | refine blk_drewN ?_ _ | refine blk_drew ?_ | refine blk_alloc ?_ _)); exact BK49.out)); (case side3 => exact NB48_49.out); rintro e w8 ⟨rfl, hb⟩; have n0_ := Aside0.mk (blk_below (g := gc1_0) (o := .cells #[.int .i64 a1_0] 2 (0, 0)) (by (with_reducible repeat (first | refine blk_drewN ?_ _ | refine blk_drew ?_ | refine blk_alloc ?_ _)); exact BK48.out) hb); have n1_ := Aside0.mk (blk_below (g := gc1_1) (o := .cells #[.int .i64 a1_1] 2 (0, 0)) (by (with_reducible repeat (first | refine blk_drewN ?_ _ | refine blk_drew ?_ | refine blk_alloc ?_ _)); exact BK49.out) hb); have n2_ := Aside0.mk (below_step (by repeat (first | (with_reducible first | exact HB.out | apply below_alloc | apply pw_below_drewN | apply below_drew1 | refine below_set ?_ GE48.out | refine below_set ?_ GE49.out) | exact HB.out)) hb); clear BK48; clear BK49; clear HB; have BK48 := n0_; have BK49 := n1_; have HB := n2_; clear n0_ n1_ n2_; (try clear hb); (try clear hb2); (try clear hk); (try clear hi)))
              go_ret
              exact ⟨by first | rfl | (simp [errW_none, errW_some] <;> rfl) | (simp [*, errW_none, errW_some] <;> rfl), by repeat (first | (with_reducible first | exact HB.out | apply below_alloc | apply pw_below_drewN | apply below_drew1 | refine below_set ?_ GE48.out | refine below_set ?_ GE49.out) | exact HB.out)⟩
            · replace c7 := Bool.eq_false_iff.mpr c7
              subst c7
              have H1 : (slices_IndexFunc_TlbEntry_at_impl_TlbFind_c1.l0 k1 l0 (l0.length : Int) (wrap64 (x8_1 + 1)) a1_0 a1_1) = some r := by rw [if_neg (show ¬ (false = true) by decide)] at H; exact H
              clear H
              have H := H1
              clear H1
              have H' := Aside0.mk H
              clear H
              have p167 : 0 ≤ (x8_1 : Int) := of_decide_eq_true (by first | (with_reducible assumption) | assumption)
              have q167 : x8_1 < (l0.length : Int) := of_decide_eq_true (by first | (with_reducible assumption) | assumption)
              obtain ⟨ad167, e167, hx167_0, hx167_1, hx167_2, hx167_3, hx167_4⟩ := at_T50 HR0.out x8_1 p167 q167
              cases e167
              replace hx167_0 := (HB.out.cell (World.block_lt_of_cell? w _ hx167_0)).trans hx167_0
              replace hx167_1 := (HB.out.cell (World.block_lt_of_cell? w _ hx167_1)).trans hx167_1
              replace hx167_2 := (HB.out.cell (World.block_lt_of_cell? w _ hx167_2)).trans hx167_2
              replace hx167_3 := (HB.out.cell (World.block_lt_of_cell? w _ hx167_3)).trans hx167_3
              replace hx167_4 := (HB.out.cell (World.block_lt_of_cell? w _ hx167_4)).trans hx167_4
              replace p167 := eq_true p167
              replace q167 := eq_true q167
              go_wp2_with (first | (go_at_call 62; (with_reducible refine (impl_TlbFind_c1.calls ((rd_T50 l0 x8_1).f0) ((rd_T50 l0 x8_1).f1) ((rd_T50 l0 x8_1).f2) ((rd_T50 l0 x8_1).f3) ((rd_T50 l0 x8_1).f4) gc1_0 gc1_1 a1_0 a1_1 false _ ?side1 ?side2 ?side3 A6.out).mono ?_); (case side1 => exact (by (with_reducible repeat (first | refine blk_drewN ?_ _ | refine blk_drew ?_ | refine blk_alloc ?_ _)); exact BK48.out)); (case side2 => exact (by (with_reducible repeat (first | refine blk_drewN ?_ _ | refine blk_drew ?_ | refine blk_alloc ?_ _)); exact BK49.out)); (case side3 => exact NB48_49.out); rintro e w9 ⟨rfl, hb⟩; have n0_ := Aside0.mk (blk_below (g := gc1_0) (o := .cells #[.int .i64 a1_0] 2 (0, 0)) (by (with_reducible repeat (first | refine blk_drewN ?_ _ | refine blk_drew ?_ | refine blk_alloc ?_ _)); exact BK48.out) hb); have n1_ := Aside0.mk (blk_below (g := gc1_1) (o := .cells #[.int .i64 a1_1] 2 (0, 0)) (by (with_reducible repeat (first | refine blk_drewN ?_ _ | refine blk_drew ?_ | refine blk_alloc ?_ _)); exact BK49.out) hb); have n2_ := Aside0.mk (below_step (by repeat (first | (with_reducible first | exact HB.out | apply below_alloc | apply pw_below_drewN | apply below_drew1 | refine below_set ?_ GE48.out | refine below_set ?_ GE49.out) | exact HB.out)) hb); clear BK48; clear BK49; clear HB; have BK48 := n0_; have BK49 := n1_; have HB := n2_; clear n0_ n1_ n2_; (try clear hb); (try clear hb2); (try clear hk); (try clear hi)))
              go_roundg k1
              case measure => have := HK1.out; omega
              case rel => exact ⟨(wrap64 (x8_1 + 1)), (by first | rfl | (simp; done) | (simp [*]; done)), H', ⟨by have := HK1.out; omega⟩, ⟨by (with_reducible repeat (first | refine blk_drewN ?_ _ | refine blk_drew ?_ | refine blk_alloc ?_ _)); exact BK48.out⟩, ⟨by (with_reducible repeat (first | refine blk_drewN ?_ _ | refine blk_drew ?_ | refine blk_alloc ?_ _)); exact BK49.out⟩, ⟨by repeat (first | (with_reducible first | exact HB.out | apply below_alloc | apply pw_below_drewN | apply below_drew1 | refine below_set ?_ GE48.out | refine below_set ?_ GE49.out) | exact HB.out)⟩⟩
          · rw [if_neg c5] at H
            exact absurd H (by simp)
        · rw [if_neg c4] at H
          exact absurd H (by simp)
      · rw [if_neg c3] at H
        have c3b0 : decide (x8_1 < (l0.length : Int)) = false := decide_eq_false c3
        clear c3
        obtain rfl := Option.some.inj H
        go_wp2
        go_ret
        exact ⟨by first | rfl | (simp [errW_none, errW_some] <;> rfl) | (simp [*, errW_none, errW_some] <;> rfl), by repeat (first | (with_reducible first | exact HB.out | apply below_alloc | apply pw_below_drewN | apply below_drew1 | refine below_set ?_ GE48.out | refine below_set ?_ GE49.out) | exact HB.out)⟩

/-! ### impl_ylets: function 64 -/
def impl_ylets.j0 : Nat → Int → Int → Bool → Int → Option (Bool)
  | 0, _, _, _, _ => none
  | k + 1, x0, x1, x2, x7 => if x1 = 1 then (if (Go.bits .and .i64 x0 (Go.bits .or .i64 (Go.bits .or .i64 x7 2) 1)) = (Go.bits .or .i64 (Go.bits .or .i64 x7 2) 1) then (if x2 = true then (some true) else (if x1 = 3 then (some ((Go.bits .and .i64 x0 16) == 0)) else (some true))) else (some false)) else (if x1 = 2 then (if (Go.bits .and .i64 x0 (Go.bits .or .i64 (Go.bits .or .i64 x7 4) 1)) = (Go.bits .or .i64 (Go.bits .or .i64 x7 4) 1) then (if x2 = true then (some true) else (if x1 = 3 then (some ((Go.bits .and .i64 x0 16) == 0)) else (some true))) else (some false)) else (if x1 = 3 then (if (Go.bits .and .i64 x0 (Go.bits .or .i64 (Go.bits .or .i64 x7 8) 1)) = (Go.bits .or .i64 (Go.bits .or .i64 x7 8) 1) then (if x2 = true then (some true) else (some ((Go.bits .and .i64 x0 16) == 0))) else (some false)) else (if (Go.bits .and .i64 x0 (Go.bits .or .i64 x7 1)) = (Go.bits .or .i64 x7 1) then (if x2 = true then (some true) else (some true)) else (some false))))
def impl_ylets.f (k : Nat) (a0 : Int) (a1 : Int) (a2 : Bool) : Option (Bool) := if a2 = true then (impl_ylets.j0 k a0 a1 a2 16) else (impl_ylets.j0 k a0 a1 a2 0)
theorem impl_ylets.mono_l : ∀ k, (∀ y0 y1 y2 y3, LeO (impl_ylets.j0 k y0 y1 y2 y3) (impl_ylets.j0 (k + 1) y0 y1 y2 y3))
  | 0 => fun _ _ _ _ r h => by simp [impl_ylets.j0] at h
  | k + 1 => by
    have ih0 := impl_ylets.mono_l k
    · intro y0 y1 y2 y3
      unfold impl_ylets.j0
      repeat' first
      | (with_reducible exact ih0 _ _ _ _)
      | (with_reducible exact LeO.refl _)
      | (with_reducible exact LeO.none _)
      | (with_reducible refine LeO.ite ?_ ?_)
      | (with_reducible refine LeO.bind ?_ (fun _ => ?_))
      | exact ih0 _ _ _ _
      | exact LeO.none _
      | refine LeO.ite ?_ ?_
      | refine LeO.bind ?_ (fun _ => ?_)
theorem impl_ylets.mono : ∀ a0 a1 a2 k, LeO (impl_ylets.f k a0 a1 a2) (impl_ylets.f (k + 1) a0 a1 a2) := by
  intro a0 a1 a2 k
  have ih0 := impl_ylets.mono_l k
  unfold impl_ylets.f
  repeat' first
      | (with_reducible exact ih0 _ _ _ _)
      | (with_reducible exact LeO.refl _)
      | (with_reducible exact LeO.none _)
      | (with_reducible refine LeO.ite ?_ ?_)
      | (with_reducible refine LeO.bind ?_ (fun _ => ?_))
      | exact ih0 _ _ _ _
      | exact LeO.none _
      | refine LeO.ite ?_ ?_
      | refine LeO.bind ?_ (fun _ => ?_)
set_option maxHeartbeats 8000000 in
set_option maxRecDepth 100000 in
theorem impl_ylets.calls (k : Nat) (a0 : Int) (a1 : Int) (a2 : Bool) (r : Bool) (w : World) (h : impl_ylets.f k a0 a1 a2 = some r) :
    Calls Try.prog 64 #[.int .i64 a0, .int .i64 a1, .bool a2] w fun e w' => e = .returned (.bool r) ∧ Drawn0 w w' := by
  have H : (if a2 = true then (impl_ylets.j0 k a0 a1 a2 16) else (impl_ylets.j0 k a0 a1 a2 0)) = some r := h
  clear h
  have HC4 := Aside0.mk H
  clear H
  go_enter Try.func64, Try.ntmps64
  go_upto_if 8 with (fail)
  go_cut [7] (fun v7 wc => ∃ (kq : Nat) (x7_3 : Int), v7 = .int .i64 x7_3 ∧ Aside0 (impl_ylets.j0 kq a0 a1 a2 x7_3 = some r) ∧ Aside0 (kq ≤ k) ∧ Drawn0 w wc)
  case first =>
    have H := HC4.out
    clear HC4
    by_cases c5 : a2 = true
    · subst c5
      have H1 : (impl_ylets.j0 k a0 a1 true 16) = some r := by rw [if_pos rfl] at H; exact H
      clear H
      have H := H1
      clear H1
      have H' := Aside0.mk H
      clear H
      go_wp2
      go_meet
      case rel => exact ⟨_, (16), (by first | rfl | (simp; done) | (simp [*]; done)), H', ⟨by first | omega | exact Nat.le_refl _⟩, by repeat (first | exact Drawn0.refl _ | apply Drawn0.step)⟩
    · replace c5 := Bool.eq_false_iff.mpr c5
      subst c5
      have H1 : (impl_ylets.j0 k a0 a1 false 0) = some r := by rw [if_neg (show ¬ (false = true) by decide)] at H; exact H
      clear H
      have H := H1
      clear H1
      have H' := Aside0.mk H
      clear H
      go_wp2
      go_meet
      case rel => exact ⟨_, (0), (by first | rfl | (simp; done) | (simp [*]; done)), H', ⟨by first | omega | exact Nat.le_refl _⟩, by repeat (first | exact Drawn0.refl _ | apply Drawn0.step)⟩
  case rest =>
    clear HC4
    try clear p2
    try clear c5
    obtain ⟨kq, x7_3, rfl, HA, HJ3, ⟨mc3, rfl⟩⟩ := hcut
    cases kq with
    | zero => exact absurd HA.out (by simp [impl_ylets.j0])
    | succ kj3 =>
      have H := HA.out
      clear HA
      simp only [impl_ylets.j0] at H
      by_cases c6 : a1 = 1
      · rw [if_pos c6] at H
        have c6b0 : (a1 == 1) = true := beq_iff_eq.mpr c6
        have c6b1 : (a1 != 1) = false := bne_eq_false_iff_eq.mpr c6
        clear c6
        by_cases c7 : (Go.bits .and .i64 a0 (Go.bits .or .i64 (Go.bits .or .i64 x7_3 2) 1)) = (Go.bits .or .i64 (Go.bits .or .i64 x7_3 2) 1)
        · rw [if_pos c7] at H
          have c7b0 : ((Go.bits .and .i64 a0 (Go.bits .or .i64 (Go.bits .or .i64 x7_3 2) 1)) == (Go.bits .or .i64 (Go.bits .or .i64 x7_3 2) 1)) = true := beq_iff_eq.mpr c7
          have c7b1 : ((Go.bits .and .i64 a0 (Go.bits .or .i64 (Go.bits .or .i64 x7_3 2) 1)) != (Go.bits .or .i64 (Go.bits .or .i64 x7_3 2) 1)) = false := bne_eq_false_iff_eq.mpr c7
          clear c7
          by_cases c8 : a2 = true
          · subst c8
            have H1 : (some true) = some r := by rw [if_pos rfl] at H; exact H
            clear H
            have H := H1
            clear H1
            obtain rfl := Option.some.inj H
            go_wp2
            go_ret
            exact ⟨by first | rfl | (simp; done) | (simp [*]; done), by repeat (first | exact Drawn0.refl _ | apply Drawn0.step)⟩
          · replace c8 := Bool.eq_false_iff.mpr c8
            subst c8
            have H1 : (if a1 = 3 then (some ((Go.bits .and .i64 a0 16) == 0)) else (some true)) = some r := by rw [if_neg (show ¬ (false = true) by decide)] at H; exact H
            clear H
            have H := H1
            clear H1
            by_cases c9 : a1 = 3
            · rw [if_pos c9] at H
              have c9b0 : (a1 == 3) = true := beq_iff_eq.mpr c9
              have c9b1 : (a1 != 3) = false := bne_eq_false_iff_eq.mpr c9
              clear c9
              obtain rfl := Option.some.inj H
              go_wp2
              go_ret
              exact ⟨by first | rfl | (simp; done) | (simp [*]; done), by repeat (first | exact Drawn0.refl _ | apply Drawn0.step)⟩
            · rw [if_neg c9] at H
              have c9b0 : (a1 == 3) = false := beq_eq_false_iff_ne.mpr c9
              have c9b1 : (a1 != 3) = true := bne_iff_ne.mpr c9
              obtain rfl := Option.some.inj H
              go_wp2
              go_ret
              exact ⟨by first | rfl | (simp; done) | (simp [*]; done), by repeat (first | exact Drawn0.refl _ | apply Drawn0.step)⟩
        · rw [if_neg c7] at H
          have c7b0 : ((Go.bits .and .i64 a0 (Go.bits .or .i64 (Go.bits .or .i64 x7_3 2) 1)) == (Go.bits .or .i64 (Go.bits .or .i64 x7_3 2) 1)) = false := beq_eq_false_iff_ne.mpr c7
          have c7b1 : ((Go.bits .and .i64 a0 (Go.bits .or .i64 (Go.bits .or .i64 x7_3 2) 1)) != (Go.bits .or .i64 (Go.bits .or .i64 x7_3 2) 1)) = true := bne_iff_ne.mpr c7
          obtain rfl := Option.some.inj H
          go_wp2
          go_ret
          exact ⟨by first | rfl | (simp; done) | (simp [*]; done), by repeat (first | exact Drawn0.refl _ | apply Drawn0.step)⟩
      · rw [if_neg c6] at H
        have c6b0 : (a1 == 1) = false := beq_eq_false_iff_ne.mpr c6
        have c6b1 : (a1 != 1) = true := bne_iff_ne.mpr c6
        by_cases c10 : a1 = 2
        · rw [if_pos c10] at H
          have c10b0 : (a1 == 2) = true := beq_iff_eq.mpr c10
          have c10b1 : (a1 != 2) = false := bne_eq_false_iff_eq.mpr c10
          clear c10
          by_cases c11 : (Go.bits .and .i64 a0 (Go.bits .or .i64 (Go.bits .or .i64 x7_3 4) 1)) = (Go.bits .or .i64 (Go.bits .or .i64 x7_3 4) 1)
          · rw [if_pos c11] at H
            have c11b0 : ((Go.bits .and .i64 a0 (Go.bits .or .i64 (Go.bits .or .i64 x7_3 4) 1)) == (Go.bits .or .i64 (Go.bits .or .i64 x7_3 4) 1)) = true := beq_iff_eq.mpr c11
            have c11b1 : ((Go.bits .and .i64 a0 (Go.bits .or .i64 (Go.bits .or .i64 x7_3 4) 1)) != (Go.bits .or .i64 (Go.bits .or .i64 x7_3 4) 1)) = false := bne_eq_false_iff_eq.mpr c11
            clear c11
            by_cases c12 : a2 = true
            · subst c12
              have H1 : (some true) = some r := by rw [if_pos rfl] at H; exact H
              clear H
              have H := H1
              clear H1
              obtain rfl := Option.some.inj H
              go_wp2
              go_ret
              exact ⟨by first | rfl | (simp; done) | (simp [*]; done), by repeat (first | exact Drawn0.refl _ | apply Drawn0.step)⟩
            · replace c12 := Bool.eq_false_iff.mpr c12
              subst c12
              have H1 : (if a1 = 3 then (some ((Go.bits .and .i64 a0 16) == 0)) else (some true)) = some r := by rw [if_neg (show ¬ (false = true) by decide)] at H; exact H
              clear H
              have H := H1
              clear H1
              by_cases c13 : a1 = 3
              · rw [if_pos c13] at H
                have c13b0 : (a1 == 3) = true := beq_iff_eq.mpr c13
                have c13b1 : (a1 != 3) = false := bne_eq_false_iff_eq.mpr c13
                clear c13
                obtain rfl := Option.some.inj H
                go_wp2
                go_ret
                exact ⟨by first | rfl | (simp; done) | (simp [*]; done), by repeat (first | exact Drawn0.refl _ | apply Drawn0.step)⟩
              · rw [if_neg c13] at H
                have c13b0 : (a1 == 3) = false := beq_eq_false_iff_ne.mpr c13
                have c13b1 : (a1 != 3) = true := bne_iff_ne.mpr c13
                obtain rfl := Option.some.inj H
                go_wp2
                go_ret
                exact ⟨by first | rfl | (simp; done) | (simp [*]; done), by repeat (first | exact Drawn0.refl _ | apply Drawn0.step)⟩
          · rw [if_neg c11] at H
            have c11b0 : ((Go.bits .and .i64 a0 (Go.bits .or .i64 (Go.bits .or .i64 x7_3 4) 1)) == (Go.bits .or .i64 (Go.bits .or .i64 x7_3 4) 1)) = false := beq_eq_false_iff_ne.mpr c11
            have c11b1 : ((Go.bits .and .i64 a0 (Go.bits .or .i64 (Go.bits .or .i64 x7_3 4) 1)) != (Go.bits .or .i64 (Go.bits .or .i64 x7_3 4) 1)) = true := bne_iff_ne.mpr c11
            obtain rfl := Option.some.inj H
            go_wp2
            go_ret
            exact ⟨by first | rfl | (simp; done) | (simp [*]; done), by repeat (first | exact Drawn0.refl _ | apply Drawn0.step)⟩
        · rw [if_neg c10] at H
          have c10b0 : (a1 == 2) = false := beq_eq_false_iff_ne.mpr c10
          have c10b1 : (a1 != 2) = true := bne_iff_ne.mpr c10
          by_cases c14 : a1 = 3
          · rw [if_pos c14] at H
            have c14b0 : (a1 == 3) = true := beq_iff_eq.mpr c14
            have c14b1 : (a1 != 3) = false := bne_eq_false_iff_eq.mpr c14
            clear c14
            by_cases c15 : (Go.bits .and .i64 a0 (Go.bits .or .i64 (Go.bits .or .i64 x7_3 8) 1)) = (Go.bits .or .i64 (Go.bits .or .i64 x7_3 8) 1)
            · rw [if_pos c15] at H
              have c15b0 : ((Go.bits .and .i64 a0 (Go.bits .or .i64 (Go.bits .or .i64 x7_3 8) 1)) == (Go.bits .or .i64 (Go.bits .or .i64 x7_3 8) 1)) = true := beq_iff_eq.mpr c15
              have c15b1 : ((Go.bits .and .i64 a0 (Go.bits .or .i64 (Go.bits .or .i64 x7_3 8) 1)) != (Go.bits .or .i64 (Go.bits .or .i64 x7_3 8) 1)) = false := bne_eq_false_iff_eq.mpr c15
              clear c15
              by_cases c16 : a2 = true
              · subst c16
                have H1 : (some true) = some r := by rw [if_pos rfl] at H; exact H
                clear H
                have H := H1
                clear H1
                obtain rfl := Option.some.inj H
                go_wp2
                go_ret
                exact ⟨by first | rfl | (simp; done) | (simp [*]; done), by repeat (first | exact Drawn0.refl _ | apply Drawn0.step)⟩
              · replace c16 := Bool.eq_false_iff.mpr c16
                subst c16
                have H1 : (some ((Go.bits .and .i64 a0 16) == 0)) = some r := by rw [if_neg (show ¬ (false = true) by decide)] at H; exact H
                clear H
                have H := H1
                clear H1
                obtain rfl := Option.some.inj H
                go_wp2
                go_ret
                exact ⟨by first | rfl | (simp; done) | (simp [*]; done), by repeat (first | exact Drawn0.refl _ | apply Drawn0.step)⟩
            · rw [if_neg c15] at H
              have c15b0 : ((Go.bits .and .i64 a0 (Go.bits .or .i64 (Go.bits .or .i64 x7_3 8) 1)) == (Go.bits .or .i64 (Go.bits .or .i64 x7_3 8) 1)) = false := beq_eq_false_iff_ne.mpr c15
              have c15b1 : ((Go.bits .and .i64 a0 (Go.bits .or .i64 (Go.bits .or .i64 x7_3 8) 1)) != (Go.bits .or .i64 (Go.bits .or .i64 x7_3 8) 1)) = true := bne_iff_ne.mpr c15
              obtain rfl := Option.some.inj H
              go_wp2
              go_ret
              exact ⟨by first | rfl | (simp; done) | (simp [*]; done), by repeat (first | exact Drawn0.refl _ | apply Drawn0.step)⟩
          · rw [if_neg c14] at H
            have c14b0 : (a1 == 3) = false := beq_eq_false_iff_ne.mpr c14
            have c14b1 : (a1 != 3) = true := bne_iff_ne.mpr c14
            by_cases c17 : (Go.bits .and .i64 a0 (Go.bits .or .i64 x7_3 1)) = (Go.bits .or .i64 x7_3 1)
            · rw [if_pos c17] at H
              have c17b0 : ((Go.bits .and .i64 a0 (Go.bits .or .i64 x7_3 1)) == (Go.bits .or .i64 x7_3 1)) = true := beq_iff_eq.mpr c17
              have c17b1 : ((Go.bits .and .i64 a0 (Go.bits .or .i64 x7_3 1)) != (Go.bits .or .i64 x7_3 1)) = false := bne_eq_false_iff_eq.mpr c17
              clear c17
              by_cases c18 : a2 = true
              · subst c18
                have H1 : (some true) = some r := by rw [if_pos rfl] at H; exact H
                clear H
                have H := H1
                clear H1
                obtain rfl := Option.some.inj H
                go_wp2
                go_ret
                exact ⟨by first | rfl | (simp; done) | (simp [*]; done), by repeat (first | exact Drawn0.refl _ | apply Drawn0.step)⟩
              · replace c18 := Bool.eq_false_iff.mpr c18
                subst c18
                have H1 : (some true) = some r := by rw [if_neg (show ¬ (false = true) by decide)] at H; exact H
                clear H
                have H := H1
                clear H1
                obtain rfl := Option.some.inj H
                go_wp2
                go_ret
                exact ⟨by first | rfl | (simp; done) | (simp [*]; done), by repeat (first | exact Drawn0.refl _ | apply Drawn0.step)⟩
            · rw [if_neg c17] at H
              have c17b0 : ((Go.bits .and .i64 a0 (Go.bits .or .i64 x7_3 1)) == (Go.bits .or .i64 x7_3 1)) = false := beq_eq_false_iff_ne.mpr c17
              have c17b1 : ((Go.bits .and .i64 a0 (Go.bits .or .i64 x7_3 1)) != (Go.bits .or .i64 x7_3 1)) = true := bne_iff_ne.mpr c17
              obtain rfl := Option.some.inj H
              go_wp2
              go_ret
              exact ⟨by first | rfl | (simp; done) | (simp [*]; done), by repeat (first | exact Drawn0.refl _ | apply Drawn0.step)⟩

end Go.Proofs.Ytaopkodopglgeaa.PFnExactTlbFind
