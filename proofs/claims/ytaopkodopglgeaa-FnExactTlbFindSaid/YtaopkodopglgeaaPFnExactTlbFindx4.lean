-- Printed for this claim by this session's own program.
import Derived.Test.YtaopkodopglgeaaPFnExactTlbFindx0
namespace Go.Proofs.Ytaopkodopglgeaa.PFnExactTlbFind
open Go.RowKit Go.Proofs.YtaopkodopglgeaaW.PrintWords Go.Proofs.YtaopkodopglgeaaW.PrintLast Go.Proofs.YtaopkodopglgeaaW.PrintMore
attribute [local go_sem] max2_int min2_int max_two min_two max_three min_three max_four min_four   -- for this text's walks alone
set_option linter.unusedVariables false
set_option linter.unusedSimpArgs false

/-! ### impl_yin: function 84 -/
def impl_yin.f (a0 : Int) (a1 : Int) (a2 : Int) : Option (Bool) := if a0 ≥ a1 then (some (decide (a0 ≤ a2))) else (some false)
set_option maxHeartbeats 8000000 in
set_option maxRecDepth 100000 in
theorem impl_yin.calls (a0 : Int) (a1 : Int) (a2 : Int) (r : Bool) (w : World) (h : impl_yin.f a0 a1 a2 = some r) :
    Calls Try.prog 84 #[.int .i64 a0, .int .i64 a1, .int .i64 a2] w fun e w' => e = .returned (.bool r) ∧ Drawn0 w w' := by
  have H : (if a0 ≥ a1 then (some (decide (a0 ≤ a2))) else (some false)) = some r := h
  clear h
  by_cases c4 : a0 ≥ a1
  · rw [if_pos c4] at H
    have c4b0 : decide (a1 ≤ a0) = true := decide_eq_true c4
    clear c4
    obtain rfl := Option.some.inj H
    go_enter Try.func84, Try.ntmps84
    go_wp2
    go_ret
    exact ⟨by first | rfl | (simp; done) | (simp [*]; done), by repeat (first | exact Drawn0.refl _ | apply Drawn0.step)⟩
  · rw [if_neg c4] at H
    have c4b0 : decide (a1 ≤ a0) = false := decide_eq_false c4
    clear c4
    obtain rfl := Option.some.inj H
    go_enter Try.func84, Try.ntmps84
    go_wp2
    go_ret
    exact ⟨by first | rfl | (simp; done) | (simp [*]; done), by repeat (first | exact Drawn0.refl _ | apply Drawn0.step)⟩

/-! ### impl_ytlbEntryOk: function 85 -/
def impl_ytlbEntryOk.f (a0_0 : Int) (a0_1 : Int) (a0_2 : Int) (a0_3 : Int) (a0_4 : Bool) : Option (Bool) := (impl_yin.f a0_0 0 255).bind fun t140 => (if t140 = true then ((impl_yin.f a0_1 0 1023).bind fun t141 => (if t141 = true then ((impl_yin.f a0_2 0 1023).bind fun t142 => (if t142 = true then ((impl_yin.f a0_3 0 255).bind fun t143 => (if t143 = true then (if a0_4 = true then (if (Int.tmod a0_1 32) = 0 then (some ((Int.tmod a0_2 32) == 0)) else (some false)) else (some true)) else (some false))) else (some false))) else (some false))) else (some false))
set_option maxHeartbeats 8000000 in
set_option maxRecDepth 100000 in
theorem impl_ytlbEntryOk.calls (a0_0 : Int) (a0_1 : Int) (a0_2 : Int) (a0_3 : Int) (a0_4 : Bool) (r : Bool) (w : World) (h : impl_ytlbEntryOk.f a0_0 a0_1 a0_2 a0_3 a0_4 = some r) :
    Calls Try.prog 85 #[.agg #[.int .i64 a0_0, .int .i64 a0_1, .int .i64 a0_2, .int .i64 a0_3, .bool a0_4]] w fun e w' => e = .returned (.bool r) ∧ Below w.heap.size w w' := by
  have hu50 := Try.underlying50
  have HB := Aside0.mk (Below.refl w.heap.size w)
  have H : ((impl_yin.f a0_0 0 255).bind fun t140 => (if t140 = true then ((impl_yin.f a0_1 0 1023).bind fun t141 => (if t141 = true then ((impl_yin.f a0_2 0 1023).bind fun t142 => (if t142 = true then ((impl_yin.f a0_3 0 255).bind fun t143 => (if t143 = true then (if a0_4 = true then (if (Int.tmod a0_1 32) = 0 then (some ((Int.tmod a0_2 32) == 0)) else (some false)) else (some true)) else (some false))) else (some false))) else (some false))) else (some false))) = some r := h
  clear h
  replace H := Option.bind_eq_some_iff.mp H
  obtain ⟨t140, A20, H⟩ := H
  replace H : (if t140 = true then ((impl_yin.f a0_1 0 1023).bind fun t141 => (if t141 = true then ((impl_yin.f a0_2 0 1023).bind fun t142 => (if t142 = true then ((impl_yin.f a0_3 0 255).bind fun t143 => (if t143 = true then (if a0_4 = true then (if (Int.tmod a0_1 32) = 0 then (some ((Int.tmod a0_2 32) == 0)) else (some false)) else (some true)) else (some false))) else (some false))) else (some false))) else (some false)) = some r := H
  have A2 := Aside0.mk A20
  clear A20
  by_cases c3 : t140 = true
  · subst c3
    have H1 : ((impl_yin.f a0_1 0 1023).bind fun t141 => (if t141 = true then ((impl_yin.f a0_2 0 1023).bind fun t142 => (if t142 = true then ((impl_yin.f a0_3 0 255).bind fun t143 => (if t143 = true then (if a0_4 = true then (if (Int.tmod a0_1 32) = 0 then (some ((Int.tmod a0_2 32) == 0)) else (some false)) else (some true)) else (some false))) else (some false))) else (some false))) = some r := by rw [if_pos rfl] at H; exact H
    clear H
    have H := H1
    clear H1
    replace H := Option.bind_eq_some_iff.mp H
    obtain ⟨t141, A40, H⟩ := H
    replace H : (if t141 = true then ((impl_yin.f a0_2 0 1023).bind fun t142 => (if t142 = true then ((impl_yin.f a0_3 0 255).bind fun t143 => (if t143 = true then (if a0_4 = true then (if (Int.tmod a0_1 32) = 0 then (some ((Int.tmod a0_2 32) == 0)) else (some false)) else (some true)) else (some false))) else (some false))) else (some false)) = some r := H
    have A4 := Aside0.mk A40
    clear A40
    by_cases c5 : t141 = true
    · subst c5
      have H1 : ((impl_yin.f a0_2 0 1023).bind fun t142 => (if t142 = true then ((impl_yin.f a0_3 0 255).bind fun t143 => (if t143 = true then (if a0_4 = true then (if (Int.tmod a0_1 32) = 0 then (some ((Int.tmod a0_2 32) == 0)) else (some false)) else (some true)) else (some false))) else (some false))) = some r := by rw [if_pos rfl] at H; exact H
      clear H
      have H := H1
      clear H1
      replace H := Option.bind_eq_some_iff.mp H
      obtain ⟨t142, A60, H⟩ := H
      replace H : (if t142 = true then ((impl_yin.f a0_3 0 255).bind fun t143 => (if t143 = true then (if a0_4 = true then (if (Int.tmod a0_1 32) = 0 then (some ((Int.tmod a0_2 32) == 0)) else (some false)) else (some true)) else (some false))) else (some false)) = some r := H
      have A6 := Aside0.mk A60
      clear A60
      by_cases c7 : t142 = true
      · subst c7
        have H1 : ((impl_yin.f a0_3 0 255).bind fun t143 => (if t143 = true then (if a0_4 = true then (if (Int.tmod a0_1 32) = 0 then (some ((Int.tmod a0_2 32) == 0)) else (some false)) else (some true)) else (some false))) = some r := by rw [if_pos rfl] at H; exact H
        clear H
        have H := H1
        clear H1
        replace H := Option.bind_eq_some_iff.mp H
        obtain ⟨t143, A80, H⟩ := H
        replace H : (if t143 = true then (if a0_4 = true then (if (Int.tmod a0_1 32) = 0 then (some ((Int.tmod a0_2 32) == 0)) else (some false)) else (some true)) else (some false)) = some r := H
        have A8 := Aside0.mk A80
        clear A80
        by_cases c9 : t143 = true
        · subst c9
          have H1 : (if a0_4 = true then (if (Int.tmod a0_1 32) = 0 then (some ((Int.tmod a0_2 32) == 0)) else (some false)) else (some true)) = some r := by rw [if_pos rfl] at H; exact H
          clear H
          have H := H1
          clear H1
          by_cases c10 : a0_4 = true
          · subst c10
            have H1 : (if (Int.tmod a0_1 32) = 0 then (some ((Int.tmod a0_2 32) == 0)) else (some false)) = some r := by rw [if_pos rfl] at H; exact H
            clear H
            have H := H1
            clear H1
            by_cases c11 : (Int.tmod a0_1 32) = 0
            · rw [if_pos c11] at H
              have c11b0 : ((Int.tmod a0_1 32) == 0) = true := beq_iff_eq.mpr c11
              have c11b1 : ((Int.tmod a0_1 32) != 0) = false := bne_eq_false_iff_eq.mpr c11
              clear c11
              obtain rfl := Option.some.inj H
              go_enter Try.func85, Try.ntmps85
              go_wp2_with (first | ((with_reducible refine gate_dst (N := 1) rfl ?_); refine box_event ?hg (N := 1) ?hd (cs := #[.int .i64 a0_0, .int .i64 a0_1, .int .i64 a0_2, .int .i64 a0_3, .bool true]) (t := 50) ?hr ?_; (case hd => rfl); (case hg => rfl); (case hr => first | (go_simp; done) | (go_simp; rfl)); intro gb139 hg w12 hbox hb; have n0_ := Aside0.mk (below_step (by repeat (first | (with_reducible first | exact HB.out | apply below_alloc | apply pw_below_drewN | apply below_drew1) | exact HB.out)) hb); have n1_ := Aside0.mk (hbox); have n2_ := Aside0.mk ((by rw [hg]; exact (below_size (by repeat (first | (with_reducible first | exact HB.out | apply below_alloc | apply pw_below_drewN | apply below_drew1) | exact HB.out))) : w.heap.size ≤ gb139)); have n3_ := Aside0.mk ((by rw [hg]; exact (below_size (by repeat (first | (with_reducible first | exact HB.out | apply below_alloc | apply pw_below_drewN | apply below_drew1) | exact HB.out))) : w.heap.size ≤ gb139)); clear HB; have HB := n0_; have BK139 := n1_; have GW139 := n2_; have GE139 := n3_; clear n0_ n1_ n2_ n3_; clear hb hbox hg; have hcz13_0 : w12.cell? ⟨gb139, 0, none⟩ = some (.int .i64 a0_0) := (blk_cell BK139.out 0).trans rfl; have hcz13_1 : w12.cell? ⟨gb139, 1, none⟩ = some (.int .i64 a0_1) := (blk_cell BK139.out 1).trans rfl; have hcz13_2 : w12.cell? ⟨gb139, 2, none⟩ = some (.int .i64 a0_2) := (blk_cell BK139.out 2).trans rfl; have hcz13_3 : w12.cell? ⟨gb139, 3, none⟩ = some (.int .i64 a0_3) := (blk_cell BK139.out 3).trans rfl; have hcz13_4 : w12.cell? ⟨gb139, 4, none⟩ = some (.bool true) := (blk_cell BK139.out 4).trans rfl; have hfz13_0 := blk_frozen BK139.out 0; have hfz13_1 := blk_frozen BK139.out 1; have hfz13_2 := blk_frozen BK139.out 2; have hfz13_3 := blk_frozen BK139.out 3; have hfz13_4 := blk_frozen BK139.out 4) | ((with_reducible refine gate_callee (f := 84) rfl ?_); refine goesL_ (some 5) rfl rfl Try.func84 (by kernel_rfl) rfl #[.int .i64 a0_0, .int .i64 0, .int .i64 255] rfl (by (try simp only [List.map_toArray, List.map_cons, List.map_nil]); first | done | rfl | (simp only [List.length_drop, List.length_take]; rfl)) ?_; (with_reducible refine (impl_yin.calls a0_0 0 255 true _ A2.out).mono ?_); rintro e w' ⟨rfl, ⟨nd, rfl⟩⟩; refine ⟨_, rfl, ?_⟩) | (go_at_call 84; (with_reducible refine (impl_yin.calls a0_1 0 1023 true _ A4.out).mono ?_); rintro e w' ⟨rfl, ⟨nd, rfl⟩⟩) | (go_at_call 84; (with_reducible refine (impl_yin.calls a0_2 0 1023 true _ A6.out).mono ?_); rintro e w' ⟨rfl, ⟨nd, rfl⟩⟩) | (go_at_call 84; (with_reducible refine (impl_yin.calls a0_3 0 255 true _ A8.out).mono ?_); rintro e w' ⟨rfl, ⟨nd, rfl⟩⟩))
              go_ret
              exact ⟨by first | rfl | (simp [errW_none, errW_some] <;> rfl) | (simp [*, errW_none, errW_some] <;> rfl), by repeat (first | (with_reducible first | exact HB.out | apply below_alloc | apply pw_below_drewN | apply below_drew1 | refine below_set ?_ GE139.out) | exact HB.out)⟩
            · rw [if_neg c11] at H
              have c11b0 : ((Int.tmod a0_1 32) == 0) = false := beq_eq_false_iff_ne.mpr c11
              have c11b1 : ((Int.tmod a0_1 32) != 0) = true := bne_iff_ne.mpr c11
              obtain rfl := Option.some.inj H
              go_enter Try.func85, Try.ntmps85
              go_wp2_with (first | ((with_reducible refine gate_dst (N := 1) rfl ?_); refine box_event ?hg (N := 1) ?hd (cs := #[.int .i64 a0_0, .int .i64 a0_1, .int .i64 a0_2, .int .i64 a0_3, .bool true]) (t := 50) ?hr ?_; (case hd => rfl); (case hg => rfl); (case hr => first | (go_simp; done) | (go_simp; rfl)); intro gb139 hg w14 hbox hb; have n0_ := Aside0.mk (below_step (by repeat (first | (with_reducible first | exact HB.out | apply below_alloc | apply pw_below_drewN | apply below_drew1) | exact HB.out)) hb); have n1_ := Aside0.mk (hbox); have n2_ := Aside0.mk ((by rw [hg]; exact (below_size (by repeat (first | (with_reducible first | exact HB.out | apply below_alloc | apply pw_below_drewN | apply below_drew1) | exact HB.out))) : w.heap.size ≤ gb139)); have n3_ := Aside0.mk ((by rw [hg]; exact (below_size (by repeat (first | (with_reducible first | exact HB.out | apply below_alloc | apply pw_below_drewN | apply below_drew1) | exact HB.out))) : w.heap.size ≤ gb139)); clear HB; have HB := n0_; have BK139 := n1_; have GW139 := n2_; have GE139 := n3_; clear n0_ n1_ n2_ n3_; clear hb hbox hg; have hcz15_0 : w14.cell? ⟨gb139, 0, none⟩ = some (.int .i64 a0_0) := (blk_cell BK139.out 0).trans rfl; have hcz15_1 : w14.cell? ⟨gb139, 1, none⟩ = some (.int .i64 a0_1) := (blk_cell BK139.out 1).trans rfl; have hcz15_2 : w14.cell? ⟨gb139, 2, none⟩ = some (.int .i64 a0_2) := (blk_cell BK139.out 2).trans rfl; have hcz15_3 : w14.cell? ⟨gb139, 3, none⟩ = some (.int .i64 a0_3) := (blk_cell BK139.out 3).trans rfl; have hcz15_4 : w14.cell? ⟨gb139, 4, none⟩ = some (.bool true) := (blk_cell BK139.out 4).trans rfl; have hfz15_0 := blk_frozen BK139.out 0; have hfz15_1 := blk_frozen BK139.out 1; have hfz15_2 := blk_frozen BK139.out 2; have hfz15_3 := blk_frozen BK139.out 3; have hfz15_4 := blk_frozen BK139.out 4) | ((with_reducible refine gate_callee (f := 84) rfl ?_); refine goesL_ (some 5) rfl rfl Try.func84 (by kernel_rfl) rfl #[.int .i64 a0_0, .int .i64 0, .int .i64 255] rfl (by (try simp only [List.map_toArray, List.map_cons, List.map_nil]); first | done | rfl | (simp only [List.length_drop, List.length_take]; rfl)) ?_; (with_reducible refine (impl_yin.calls a0_0 0 255 true _ A2.out).mono ?_); rintro e w' ⟨rfl, ⟨nd, rfl⟩⟩; refine ⟨_, rfl, ?_⟩) | (go_at_call 84; (with_reducible refine (impl_yin.calls a0_1 0 1023 true _ A4.out).mono ?_); rintro e w' ⟨rfl, ⟨nd, rfl⟩⟩) | (go_at_call 84; (with_reducible refine (impl_yin.calls a0_2 0 1023 true _ A6.out).mono ?_); rintro e w' ⟨rfl, ⟨nd, rfl⟩⟩) | (go_at_call 84; (with_reducible refine (impl_yin.calls a0_3 0 255 true _ A8.out).mono ?_); rintro e w' ⟨rfl, ⟨nd, rfl⟩⟩))
              go_ret
              exact ⟨by first | rfl | (simp [errW_none, errW_some] <;> rfl) | (simp [*, errW_none, errW_some] <;> rfl), by repeat (first | (with_reducible first | exact HB.out | apply below_alloc | apply pw_below_drewN | apply below_drew1 | refine below_set ?_ GE139.out) | exact HB.out)⟩
          · replace c10 := Bool.eq_false_iff.mpr c10
            subst c10
            have H1 : (some true) = some r := by rw [if_neg (show ¬ (false = true) by decide)] at H; exact H
            clear H
            have H := H1
            clear H1
            obtain rfl := Option.some.inj H
            go_enter Try.func85, Try.ntmps85
            go_wp2_with (first | ((with_reducible refine gate_dst (N := 1) rfl ?_); refine box_event ?hg (N := 1) ?hd (cs := #[.int .i64 a0_0, .int .i64 a0_1, .int .i64 a0_2, .int .i64 a0_3, .bool false]) (t := 50) ?hr ?_; (case hd => rfl); (case hg => rfl); (case hr => first | (go_simp; done) | (go_simp; rfl)); intro gb139 hg w16 hbox hb; have n0_ := Aside0.mk (below_step (by repeat (first | (with_reducible first | exact HB.out | apply below_alloc | apply pw_below_drewN | apply below_drew1) | exact HB.out)) hb); have n1_ := Aside0.mk (hbox); have n2_ := Aside0.mk ((by rw [hg]; exact (below_size (by repeat (first | (with_reducible first | exact HB.out | apply below_alloc | apply pw_below_drewN | apply below_drew1) | exact HB.out))) : w.heap.size ≤ gb139)); have n3_ := Aside0.mk ((by rw [hg]; exact (below_size (by repeat (first | (with_reducible first | exact HB.out | apply below_alloc | apply pw_below_drewN | apply below_drew1) | exact HB.out))) : w.heap.size ≤ gb139)); clear HB; have HB := n0_; have BK139 := n1_; have GW139 := n2_; have GE139 := n3_; clear n0_ n1_ n2_ n3_; clear hb hbox hg; have hcz17_0 : w16.cell? ⟨gb139, 0, none⟩ = some (.int .i64 a0_0) := (blk_cell BK139.out 0).trans rfl; have hcz17_1 : w16.cell? ⟨gb139, 1, none⟩ = some (.int .i64 a0_1) := (blk_cell BK139.out 1).trans rfl; have hcz17_2 : w16.cell? ⟨gb139, 2, none⟩ = some (.int .i64 a0_2) := (blk_cell BK139.out 2).trans rfl; have hcz17_3 : w16.cell? ⟨gb139, 3, none⟩ = some (.int .i64 a0_3) := (blk_cell BK139.out 3).trans rfl; have hcz17_4 : w16.cell? ⟨gb139, 4, none⟩ = some (.bool false) := (blk_cell BK139.out 4).trans rfl; have hfz17_0 := blk_frozen BK139.out 0; have hfz17_1 := blk_frozen BK139.out 1; have hfz17_2 := blk_frozen BK139.out 2; have hfz17_3 := blk_frozen BK139.out 3; have hfz17_4 := blk_frozen BK139.out 4) | ((with_reducible refine gate_callee (f := 84) rfl ?_); refine goesL_ (some 5) rfl rfl Try.func84 (by kernel_rfl) rfl #[.int .i64 a0_0, .int .i64 0, .int .i64 255] rfl (by (try simp only [List.map_toArray, List.map_cons, List.map_nil]); first | done | rfl | (simp only [List.length_drop, List.length_take]; rfl)) ?_; (with_reducible refine (impl_yin.calls a0_0 0 255 true _ A2.out).mono ?_); rintro e w' ⟨rfl, ⟨nd, rfl⟩⟩; refine ⟨_, rfl, ?_⟩) | (go_at_call 84; (with_reducible refine (impl_yin.calls a0_1 0 1023 true _ A4.out).mono ?_); rintro e w' ⟨rfl, ⟨nd, rfl⟩⟩) | (go_at_call 84; (with_reducible refine (impl_yin.calls a0_2 0 1023 true _ A6.out).mono ?_); rintro e w' ⟨rfl, ⟨nd, rfl⟩⟩) | (go_at_call 84; (with_reducible refine (impl_yin.calls a0_3 0 255 true _ A8.out).mono ?_); rintro e w' ⟨rfl, ⟨nd, rfl⟩⟩))
            go_ret
            exact ⟨by first | rfl | (simp [errW_none, errW_some] <;> rfl) | (simp [*, errW_none, errW_some] <;> rfl), by repeat (first | (with_reducible first | exact HB.out | apply below_alloc | apply pw_below_drewN | apply below_drew1 | refine below_set ?_ GE139.out) | exact HB.out)⟩
        · replace c9 := Bool.eq_false_iff.mpr c9
          subst c9
          have H1 : (some false) = some r := by rw [if_neg (show ¬ (false = true) by decide)] at H; exact H
          clear H
          have H := H1
          clear H1
          obtain rfl := Option.some.inj H
          go_enter Try.func85, Try.ntmps85
          go_wp2_with (first | ((with_reducible refine gate_dst (N := 1) rfl ?_); refine box_event ?hg (N := 1) ?hd (cs := #[.int .i64 a0_0, .int .i64 a0_1, .int .i64 a0_2, .int .i64 a0_3, .bool a0_4]) (t := 50) ?hr ?_; (case hd => rfl); (case hg => rfl); (case hr => first | (go_simp; done) | (go_simp; rfl)); intro gb139 hg w18 hbox hb; have n0_ := Aside0.mk (below_step (by repeat (first | (with_reducible first | exact HB.out | apply below_alloc | apply pw_below_drewN | apply below_drew1) | exact HB.out)) hb); have n1_ := Aside0.mk (hbox); have n2_ := Aside0.mk ((by rw [hg]; exact (below_size (by repeat (first | (with_reducible first | exact HB.out | apply below_alloc | apply pw_below_drewN | apply below_drew1) | exact HB.out))) : w.heap.size ≤ gb139)); have n3_ := Aside0.mk ((by rw [hg]; exact (below_size (by repeat (first | (with_reducible first | exact HB.out | apply below_alloc | apply pw_below_drewN | apply below_drew1) | exact HB.out))) : w.heap.size ≤ gb139)); clear HB; have HB := n0_; have BK139 := n1_; have GW139 := n2_; have GE139 := n3_; clear n0_ n1_ n2_ n3_; clear hb hbox hg; have hcz19_0 : w18.cell? ⟨gb139, 0, none⟩ = some (.int .i64 a0_0) := (blk_cell BK139.out 0).trans rfl; have hcz19_1 : w18.cell? ⟨gb139, 1, none⟩ = some (.int .i64 a0_1) := (blk_cell BK139.out 1).trans rfl; have hcz19_2 : w18.cell? ⟨gb139, 2, none⟩ = some (.int .i64 a0_2) := (blk_cell BK139.out 2).trans rfl; have hcz19_3 : w18.cell? ⟨gb139, 3, none⟩ = some (.int .i64 a0_3) := (blk_cell BK139.out 3).trans rfl; have hcz19_4 : w18.cell? ⟨gb139, 4, none⟩ = some (.bool a0_4) := (blk_cell BK139.out 4).trans rfl; have hfz19_0 := blk_frozen BK139.out 0; have hfz19_1 := blk_frozen BK139.out 1; have hfz19_2 := blk_frozen BK139.out 2; have hfz19_3 := blk_frozen BK139.out 3; have hfz19_4 := blk_frozen BK139.out 4) | ((with_reducible refine gate_callee (f := 84) rfl ?_); refine goesL_ (some 5) rfl rfl Try.func84 (by kernel_rfl) rfl #[.int .i64 a0_0, .int .i64 0, .int .i64 255] rfl (by (try simp only [List.map_toArray, List.map_cons, List.map_nil]); first | done | rfl | (simp only [List.length_drop, List.length_take]; rfl)) ?_; (with_reducible refine (impl_yin.calls a0_0 0 255 true _ A2.out).mono ?_); rintro e w' ⟨rfl, ⟨nd, rfl⟩⟩; refine ⟨_, rfl, ?_⟩) | (go_at_call 84; (with_reducible refine (impl_yin.calls a0_1 0 1023 true _ A4.out).mono ?_); rintro e w' ⟨rfl, ⟨nd, rfl⟩⟩) | (go_at_call 84; (with_reducible refine (impl_yin.calls a0_2 0 1023 true _ A6.out).mono ?_); rintro e w' ⟨rfl, ⟨nd, rfl⟩⟩) | (go_at_call 84; (with_reducible refine (impl_yin.calls a0_3 0 255 false _ A8.out).mono ?_); rintro e w' ⟨rfl, ⟨nd, rfl⟩⟩))
          go_ret
          exact ⟨by first | rfl | (simp [errW_none, errW_some] <;> rfl) | (simp [*, errW_none, errW_some] <;> rfl), by repeat (first | (with_reducible first | exact HB.out | apply below_alloc | apply pw_below_drewN | apply below_drew1 | refine below_set ?_ GE139.out) | exact HB.out)⟩
      · replace c7 := Bool.eq_false_iff.mpr c7
        subst c7
        have H1 : (some false) = some r := by rw [if_neg (show ¬ (false = true) by decide)] at H; exact H
        clear H
        have H := H1
        clear H1
        obtain rfl := Option.some.inj H
        go_enter Try.func85, Try.ntmps85
        go_wp2_with (first | ((with_reducible refine gate_dst (N := 1) rfl ?_); refine box_event ?hg (N := 1) ?hd (cs := #[.int .i64 a0_0, .int .i64 a0_1, .int .i64 a0_2, .int .i64 a0_3, .bool a0_4]) (t := 50) ?hr ?_; (case hd => rfl); (case hg => rfl); (case hr => first | (go_simp; done) | (go_simp; rfl)); intro gb139 hg w20 hbox hb; have n0_ := Aside0.mk (below_step (by repeat (first | (with_reducible first | exact HB.out | apply below_alloc | apply pw_below_drewN | apply below_drew1) | exact HB.out)) hb); have n1_ := Aside0.mk (hbox); have n2_ := Aside0.mk ((by rw [hg]; exact (below_size (by repeat (first | (with_reducible first | exact HB.out | apply below_alloc | apply pw_below_drewN | apply below_drew1) | exact HB.out))) : w.heap.size ≤ gb139)); have n3_ := Aside0.mk ((by rw [hg]; exact (below_size (by repeat (first | (with_reducible first | exact HB.out | apply below_alloc | apply pw_below_drewN | apply below_drew1) | exact HB.out))) : w.heap.size ≤ gb139)); clear HB; have HB := n0_; have BK139 := n1_; have GW139 := n2_; have GE139 := n3_; clear n0_ n1_ n2_ n3_; clear hb hbox hg; have hcz21_0 : w20.cell? ⟨gb139, 0, none⟩ = some (.int .i64 a0_0) := (blk_cell BK139.out 0).trans rfl; have hcz21_1 : w20.cell? ⟨gb139, 1, none⟩ = some (.int .i64 a0_1) := (blk_cell BK139.out 1).trans rfl; have hcz21_2 : w20.cell? ⟨gb139, 2, none⟩ = some (.int .i64 a0_2) := (blk_cell BK139.out 2).trans rfl; have hcz21_3 : w20.cell? ⟨gb139, 3, none⟩ = some (.int .i64 a0_3) := (blk_cell BK139.out 3).trans rfl; have hcz21_4 : w20.cell? ⟨gb139, 4, none⟩ = some (.bool a0_4) := (blk_cell BK139.out 4).trans rfl; have hfz21_0 := blk_frozen BK139.out 0; have hfz21_1 := blk_frozen BK139.out 1; have hfz21_2 := blk_frozen BK139.out 2; have hfz21_3 := blk_frozen BK139.out 3; have hfz21_4 := blk_frozen BK139.out 4) | ((with_reducible refine gate_callee (f := 84) rfl ?_); refine goesL_ (some 5) rfl rfl Try.func84 (by kernel_rfl) rfl #[.int .i64 a0_0, .int .i64 0, .int .i64 255] rfl (by (try simp only [List.map_toArray, List.map_cons, List.map_nil]); first | done | rfl | (simp only [List.length_drop, List.length_take]; rfl)) ?_; (with_reducible refine (impl_yin.calls a0_0 0 255 true _ A2.out).mono ?_); rintro e w' ⟨rfl, ⟨nd, rfl⟩⟩; refine ⟨_, rfl, ?_⟩) | (go_at_call 84; (with_reducible refine (impl_yin.calls a0_1 0 1023 true _ A4.out).mono ?_); rintro e w' ⟨rfl, ⟨nd, rfl⟩⟩) | (go_at_call 84; (with_reducible refine (impl_yin.calls a0_2 0 1023 false _ A6.out).mono ?_); rintro e w' ⟨rfl, ⟨nd, rfl⟩⟩))
        go_ret
        exact ⟨by first | rfl | (simp [errW_none, errW_some] <;> rfl) | (simp [*, errW_none, errW_some] <;> rfl), by repeat (first | (with_reducible first | exact HB.out | apply below_alloc | apply pw_below_drewN | apply below_drew1 | refine below_set ?_ GE139.out) | exact HB.out)⟩
    · replace c5 := Bool.eq_false_iff.mpr c5
      subst c5
      have H1 : (some false) = some r := by rw [if_neg (show ¬ (false = true) by decide)] at H; exact H
      clear H
      have H := H1
      clear H1
      obtain rfl := Option.some.inj H
      go_enter Try.func85, Try.ntmps85
      go_wp2_with (first | ((with_reducible refine gate_dst (N := 1) rfl ?_); refine box_event ?hg (N := 1) ?hd (cs := #[.int .i64 a0_0, .int .i64 a0_1, .int .i64 a0_2, .int .i64 a0_3, .bool a0_4]) (t := 50) ?hr ?_; (case hd => rfl); (case hg => rfl); (case hr => first | (go_simp; done) | (go_simp; rfl)); intro gb139 hg w22 hbox hb; have n0_ := Aside0.mk (below_step (by repeat (first | (with_reducible first | exact HB.out | apply below_alloc | apply pw_below_drewN | apply below_drew1) | exact HB.out)) hb); have n1_ := Aside0.mk (hbox); have n2_ := Aside0.mk ((by rw [hg]; exact (below_size (by repeat (first | (with_reducible first | exact HB.out | apply below_alloc | apply pw_below_drewN | apply below_drew1) | exact HB.out))) : w.heap.size ≤ gb139)); have n3_ := Aside0.mk ((by rw [hg]; exact (below_size (by repeat (first | (with_reducible first | exact HB.out | apply below_alloc | apply pw_below_drewN | apply below_drew1) | exact HB.out))) : w.heap.size ≤ gb139)); clear HB; have HB := n0_; have BK139 := n1_; have GW139 := n2_; have GE139 := n3_; clear n0_ n1_ n2_ n3_; clear hb hbox hg; have hcz23_0 : w22.cell? ⟨gb139, 0, none⟩ = some (.int .i64 a0_0) := (blk_cell BK139.out 0).trans rfl; have hcz23_1 : w22.cell? ⟨gb139, 1, none⟩ = some (.int .i64 a0_1) := (blk_cell BK139.out 1).trans rfl; have hcz23_2 : w22.cell? ⟨gb139, 2, none⟩ = some (.int .i64 a0_2) := (blk_cell BK139.out 2).trans rfl; have hcz23_3 : w22.cell? ⟨gb139, 3, none⟩ = some (.int .i64 a0_3) := (blk_cell BK139.out 3).trans rfl; have hcz23_4 : w22.cell? ⟨gb139, 4, none⟩ = some (.bool a0_4) := (blk_cell BK139.out 4).trans rfl; have hfz23_0 := blk_frozen BK139.out 0; have hfz23_1 := blk_frozen BK139.out 1; have hfz23_2 := blk_frozen BK139.out 2; have hfz23_3 := blk_frozen BK139.out 3; have hfz23_4 := blk_frozen BK139.out 4) | ((with_reducible refine gate_callee (f := 84) rfl ?_); refine goesL_ (some 5) rfl rfl Try.func84 (by kernel_rfl) rfl #[.int .i64 a0_0, .int .i64 0, .int .i64 255] rfl (by (try simp only [List.map_toArray, List.map_cons, List.map_nil]); first | done | rfl | (simp only [List.length_drop, List.length_take]; rfl)) ?_; (with_reducible refine (impl_yin.calls a0_0 0 255 true _ A2.out).mono ?_); rintro e w' ⟨rfl, ⟨nd, rfl⟩⟩; refine ⟨_, rfl, ?_⟩) | (go_at_call 84; (with_reducible refine (impl_yin.calls a0_1 0 1023 false _ A4.out).mono ?_); rintro e w' ⟨rfl, ⟨nd, rfl⟩⟩))
      go_ret
      exact ⟨by first | rfl | (simp [errW_none, errW_some] <;> rfl) | (simp [*, errW_none, errW_some] <;> rfl), by repeat (first | (with_reducible first | exact HB.out | apply below_alloc | apply pw_below_drewN | apply below_drew1 | refine below_set ?_ GE139.out) | exact HB.out)⟩
  · replace c3 := Bool.eq_false_iff.mpr c3
    subst c3
    have H1 : (some false) = some r := by rw [if_neg (show ¬ (false = true) by decide)] at H; exact H
    clear H
    have H := H1
    clear H1
    obtain rfl := Option.some.inj H
    go_enter Try.func85, Try.ntmps85
    go_wp2_with (first | ((with_reducible refine gate_dst (N := 1) rfl ?_); refine box_event ?hg (N := 1) ?hd (cs := #[.int .i64 a0_0, .int .i64 a0_1, .int .i64 a0_2, .int .i64 a0_3, .bool a0_4]) (t := 50) ?hr ?_; (case hd => rfl); (case hg => rfl); (case hr => first | (go_simp; done) | (go_simp; rfl)); intro gb139 hg w24 hbox hb; have n0_ := Aside0.mk (below_step (by repeat (first | (with_reducible first | exact HB.out | apply below_alloc | apply pw_below_drewN | apply below_drew1) | exact HB.out)) hb); have n1_ := Aside0.mk (hbox); have n2_ := Aside0.mk ((by rw [hg]; exact (below_size (by repeat (first | (with_reducible first | exact HB.out | apply below_alloc | apply pw_below_drewN | apply below_drew1) | exact HB.out))) : w.heap.size ≤ gb139)); have n3_ := Aside0.mk ((by rw [hg]; exact (below_size (by repeat (first | (with_reducible first | exact HB.out | apply below_alloc | apply pw_below_drewN | apply below_drew1) | exact HB.out))) : w.heap.size ≤ gb139)); clear HB; have HB := n0_; have BK139 := n1_; have GW139 := n2_; have GE139 := n3_; clear n0_ n1_ n2_ n3_; clear hb hbox hg; have hcz25_0 : w24.cell? ⟨gb139, 0, none⟩ = some (.int .i64 a0_0) := (blk_cell BK139.out 0).trans rfl; have hcz25_1 : w24.cell? ⟨gb139, 1, none⟩ = some (.int .i64 a0_1) := (blk_cell BK139.out 1).trans rfl; have hcz25_2 : w24.cell? ⟨gb139, 2, none⟩ = some (.int .i64 a0_2) := (blk_cell BK139.out 2).trans rfl; have hcz25_3 : w24.cell? ⟨gb139, 3, none⟩ = some (.int .i64 a0_3) := (blk_cell BK139.out 3).trans rfl; have hcz25_4 : w24.cell? ⟨gb139, 4, none⟩ = some (.bool a0_4) := (blk_cell BK139.out 4).trans rfl; have hfz25_0 := blk_frozen BK139.out 0; have hfz25_1 := blk_frozen BK139.out 1; have hfz25_2 := blk_frozen BK139.out 2; have hfz25_3 := blk_frozen BK139.out 3; have hfz25_4 := blk_frozen BK139.out 4) | ((with_reducible refine gate_callee (f := 84) rfl ?_); refine goesL_ (some 5) rfl rfl Try.func84 (by kernel_rfl) rfl #[.int .i64 a0_0, .int .i64 0, .int .i64 255] rfl (by (try simp only [List.map_toArray, List.map_cons, List.map_nil]); first | done | rfl | (simp only [List.length_drop, List.length_take]; rfl)) ?_; (with_reducible refine (impl_yin.calls a0_0 0 255 false _ A2.out).mono ?_); rintro e w' ⟨rfl, ⟨nd, rfl⟩⟩; refine ⟨_, rfl, ?_⟩))
    go_ret
    exact ⟨by first | rfl | (simp [errW_none, errW_some] <;> rfl) | (simp [*, errW_none, errW_some] <;> rfl), by repeat (first | (with_reducible first | exact HB.out | apply below_alloc | apply pw_below_drewN | apply below_drew1 | refine below_set ?_ GE139.out) | exact HB.out)⟩

/-! ### impl_ysameTlb: function 88 -/
def impl_ysameTlb.f (a0_0 : Int) (a0_1 : Int) (a0_2 : Int) (a0_3 : Int) (a0_4 : Bool) (a1_0 : Int) (a1_1 : Int) (a1_2 : Int) (a1_3 : Int) (a1_4 : Bool) : Option (Bool) := if a0_0 = a1_0 then (if a0_1 = a1_1 then (some (a0_4 == a1_4)) else (some false)) else (some false)
set_option maxHeartbeats 8000000 in
set_option maxRecDepth 100000 in
theorem impl_ysameTlb.calls (a0_0 : Int) (a0_1 : Int) (a0_2 : Int) (a0_3 : Int) (a0_4 : Bool) (a1_0 : Int) (a1_1 : Int) (a1_2 : Int) (a1_3 : Int) (a1_4 : Bool) (r : Bool) (w : World) (h : impl_ysameTlb.f a0_0 a0_1 a0_2 a0_3 a0_4 a1_0 a1_1 a1_2 a1_3 a1_4 = some r) :
    Calls Try.prog 88 #[.agg #[.int .i64 a0_0, .int .i64 a0_1, .int .i64 a0_2, .int .i64 a0_3, .bool a0_4], .agg #[.int .i64 a1_0, .int .i64 a1_1, .int .i64 a1_2, .int .i64 a1_3, .bool a1_4]] w fun e w' => e = .returned (.bool r) ∧ Below w.heap.size w w' := by
  have hu50 := Try.underlying50
  have HB := Aside0.mk (Below.refl w.heap.size w)
  have H : (if a0_0 = a1_0 then (if a0_1 = a1_1 then (some (a0_4 == a1_4)) else (some false)) else (some false)) = some r := h
  clear h
  by_cases c3 : a0_0 = a1_0
  · rw [if_pos c3] at H
    have c3b0 : (a0_0 == a1_0) = true := beq_iff_eq.mpr c3
    have c3b1 : (a0_0 != a1_0) = false := bne_eq_false_iff_eq.mpr c3
    clear c3
    by_cases c4 : a0_1 = a1_1
    · rw [if_pos c4] at H
      have c4b0 : (a0_1 == a1_1) = true := beq_iff_eq.mpr c4
      have c4b1 : (a0_1 != a1_1) = false := bne_eq_false_iff_eq.mpr c4
      clear c4
      obtain rfl := Option.some.inj H
      go_enter Try.func88, Try.ntmps88
      go_wp2_with (first | ((with_reducible refine gate_dst (N := 2) rfl ?_); refine box_event ?hg (N := 2) ?hd (cs := #[.int .i64 a0_0, .int .i64 a0_1, .int .i64 a0_2, .int .i64 a0_3, .bool a0_4]) (t := 50) ?hr ?_; (case hd => rfl); (case hg => rfl); (case hr => first | (go_simp; done) | (go_simp; rfl)); intro gb144 hg w5 hbox hb; have n0_ := Aside0.mk (below_step (by repeat (first | (with_reducible first | exact HB.out | apply below_alloc | apply pw_below_drewN | apply below_drew1) | exact HB.out)) hb); have n1_ := Aside0.mk (hbox); have n2_ := Aside0.mk ((by rw [hg]; exact (below_size (by repeat (first | (with_reducible first | exact HB.out | apply below_alloc | apply pw_below_drewN | apply below_drew1) | exact HB.out))) : w.heap.size ≤ gb144)); have n3_ := Aside0.mk ((by rw [hg]; exact (below_size (by repeat (first | (with_reducible first | exact HB.out | apply below_alloc | apply pw_below_drewN | apply below_drew1) | exact HB.out))) : w.heap.size ≤ gb144)); clear HB; have HB := n0_; have BK144 := n1_; have GW144 := n2_; have GE144 := n3_; clear n0_ n1_ n2_ n3_; clear hb hbox hg) | ((with_reducible refine gate_dst (N := 3) rfl ?_); refine box_event ?hg (N := 3) ?hd (cs := #[.int .i64 a1_0, .int .i64 a1_1, .int .i64 a1_2, .int .i64 a1_3, .bool a1_4]) (t := 50) ?hr ?_; (case hd => rfl); (case hg => rfl); (case hr => first | (go_simp; done) | (go_simp; rfl)); intro gb145 hg w6 hbox hb; have n0_ := Aside0.mk (blk_below (g := gb144) (o := .cells #[.int .i64 a0_0, .int .i64 a0_1, .int .i64 a0_2, .int .i64 a0_3, .bool a0_4] 50 (0, 0)) (by (with_reducible repeat (first | refine blk_drewN ?_ _ | refine blk_drew ?_ | refine blk_alloc ?_ _)); exact BK144.out) hb); have n1_ := Aside0.mk (below_step (by repeat (first | (with_reducible first | exact HB.out | apply below_alloc | apply pw_below_drewN | apply below_drew1 | refine below_set ?_ GE144.out) | exact HB.out)) hb); have n2_ := Aside0.mk (hbox); have n3_ := Aside0.mk ((by rw [hg]; exact (below_size (by repeat (first | (with_reducible first | exact HB.out | apply below_alloc | apply pw_below_drewN | apply below_drew1 | refine below_set ?_ GE144.out) | exact HB.out))) : w.heap.size ≤ gb145)); have n4_ := Aside0.mk ((by rw [hg]; exact (below_size (by repeat (first | (with_reducible first | exact HB.out | apply below_alloc | apply pw_below_drewN | apply below_drew1 | refine below_set ?_ GE144.out) | exact HB.out))) : w.heap.size ≤ gb145)); have n5_ := Aside0.mk ((by rw [hg]; exact Nat.ne_of_lt (blk_lt (g := gb144) (o := .cells #[.int .i64 a0_0, .int .i64 a0_1, .int .i64 a0_2, .int .i64 a0_3, .bool a0_4] 50 (0, 0)) (by (with_reducible repeat (first | refine blk_drewN ?_ _ | refine blk_drew ?_ | refine blk_alloc ?_ _)); exact BK144.out)) : gb144 ≠ gb145)); have n6_ := Aside0.mk ((by rw [hg]; exact Nat.ne_of_gt (blk_lt (g := gb144) (o := .cells #[.int .i64 a0_0, .int .i64 a0_1, .int .i64 a0_2, .int .i64 a0_3, .bool a0_4] 50 (0, 0)) (by (with_reducible repeat (first | refine blk_drewN ?_ _ | refine blk_drew ?_ | refine blk_alloc ?_ _)); exact BK144.out)) : gb145 ≠ gb144)); clear BK144; clear HB; have BK144 := n0_; have HB := n1_; have BK145 := n2_; have GW145 := n3_; have GE145 := n4_; have NB144_145 := n5_; have NB145_144 := n6_; clear n0_ n1_ n2_ n3_ n4_ n5_ n6_; clear hb hbox hg; have hnb7 := NB144_145.out; have hnc7 := NB145_144.out; have hcz8_0 : w6.cell? ⟨gb144, 0, none⟩ = some (.int .i64 a0_0) := (blk_cell BK144.out 0).trans rfl; have hcz8_1 : w6.cell? ⟨gb144, 1, none⟩ = some (.int .i64 a0_1) := (blk_cell BK144.out 1).trans rfl; have hcz8_2 : w6.cell? ⟨gb144, 2, none⟩ = some (.int .i64 a0_2) := (blk_cell BK144.out 2).trans rfl; have hcz8_3 : w6.cell? ⟨gb144, 3, none⟩ = some (.int .i64 a0_3) := (blk_cell BK144.out 3).trans rfl; have hcz8_4 : w6.cell? ⟨gb144, 4, none⟩ = some (.bool a0_4) := (blk_cell BK144.out 4).trans rfl; have hfz8_0 := blk_frozen BK144.out 0; have hfz8_1 := blk_frozen BK144.out 1; have hfz8_2 := blk_frozen BK144.out 2; have hfz8_3 := blk_frozen BK144.out 3; have hfz8_4 := blk_frozen BK144.out 4; have hcz9_0 : w6.cell? ⟨gb145, 0, none⟩ = some (.int .i64 a1_0) := (blk_cell BK145.out 0).trans rfl; have hcz9_1 : w6.cell? ⟨gb145, 1, none⟩ = some (.int .i64 a1_1) := (blk_cell BK145.out 1).trans rfl; have hcz9_2 : w6.cell? ⟨gb145, 2, none⟩ = some (.int .i64 a1_2) := (blk_cell BK145.out 2).trans rfl; have hcz9_3 : w6.cell? ⟨gb145, 3, none⟩ = some (.int .i64 a1_3) := (blk_cell BK145.out 3).trans rfl; have hcz9_4 : w6.cell? ⟨gb145, 4, none⟩ = some (.bool a1_4) := (blk_cell BK145.out 4).trans rfl; have hfz9_0 := blk_frozen BK145.out 0; have hfz9_1 := blk_frozen BK145.out 1; have hfz9_2 := blk_frozen BK145.out 2; have hfz9_3 := blk_frozen BK145.out 3; have hfz9_4 := blk_frozen BK145.out 4))
      go_ret
      exact ⟨by first | rfl | (simp [errW_none, errW_some] <;> rfl) | (simp [*, errW_none, errW_some] <;> rfl), by repeat (first | (with_reducible first | exact HB.out | apply below_alloc | apply pw_below_drewN | apply below_drew1 | refine below_set ?_ GE144.out | refine below_set ?_ GE145.out) | exact HB.out)⟩
    · rw [if_neg c4] at H
      have c4b0 : (a0_1 == a1_1) = false := beq_eq_false_iff_ne.mpr c4
      have c4b1 : (a0_1 != a1_1) = true := bne_iff_ne.mpr c4
      obtain rfl := Option.some.inj H
      go_enter Try.func88, Try.ntmps88
      go_wp2_with (first | ((with_reducible refine gate_dst (N := 2) rfl ?_); refine box_event ?hg (N := 2) ?hd (cs := #[.int .i64 a0_0, .int .i64 a0_1, .int .i64 a0_2, .int .i64 a0_3, .bool a0_4]) (t := 50) ?hr ?_; (case hd => rfl); (case hg => rfl); (case hr => first | (go_simp; done) | (go_simp; rfl)); intro gb144 hg w10 hbox hb; have n0_ := Aside0.mk (below_step (by repeat (first | (with_reducible first | exact HB.out | apply below_alloc | apply pw_below_drewN | apply below_drew1) | exact HB.out)) hb); have n1_ := Aside0.mk (hbox); have n2_ := Aside0.mk ((by rw [hg]; exact (below_size (by repeat (first | (with_reducible first | exact HB.out | apply below_alloc | apply pw_below_drewN | apply below_drew1) | exact HB.out))) : w.heap.size ≤ gb144)); have n3_ := Aside0.mk ((by rw [hg]; exact (below_size (by repeat (first | (with_reducible first | exact HB.out | apply below_alloc | apply pw_below_drewN | apply below_drew1) | exact HB.out))) : w.heap.size ≤ gb144)); clear HB; have HB := n0_; have BK144 := n1_; have GW144 := n2_; have GE144 := n3_; clear n0_ n1_ n2_ n3_; clear hb hbox hg) | ((with_reducible refine gate_dst (N := 3) rfl ?_); refine box_event ?hg (N := 3) ?hd (cs := #[.int .i64 a1_0, .int .i64 a1_1, .int .i64 a1_2, .int .i64 a1_3, .bool a1_4]) (t := 50) ?hr ?_; (case hd => rfl); (case hg => rfl); (case hr => first | (go_simp; done) | (go_simp; rfl)); intro gb145 hg w11 hbox hb; have n0_ := Aside0.mk (blk_below (g := gb144) (o := .cells #[.int .i64 a0_0, .int .i64 a0_1, .int .i64 a0_2, .int .i64 a0_3, .bool a0_4] 50 (0, 0)) (by (with_reducible repeat (first | refine blk_drewN ?_ _ | refine blk_drew ?_ | refine blk_alloc ?_ _)); exact BK144.out) hb); have n1_ := Aside0.mk (below_step (by repeat (first | (with_reducible first | exact HB.out | apply below_alloc | apply pw_below_drewN | apply below_drew1 | refine below_set ?_ GE144.out) | exact HB.out)) hb); have n2_ := Aside0.mk (hbox); have n3_ := Aside0.mk ((by rw [hg]; exact (below_size (by repeat (first | (with_reducible first | exact HB.out | apply below_alloc | apply pw_below_drewN | apply below_drew1 | refine below_set ?_ GE144.out) | exact HB.out))) : w.heap.size ≤ gb145)); have n4_ := Aside0.mk ((by rw [hg]; exact (below_size (by repeat (first | (with_reducible first | exact HB.out | apply below_alloc | apply pw_below_drewN | apply below_drew1 | refine below_set ?_ GE144.out) | exact HB.out))) : w.heap.size ≤ gb145)); have n5_ := Aside0.mk ((by rw [hg]; exact Nat.ne_of_lt (blk_lt (g := gb144) (o := .cells #[.int .i64 a0_0, .int .i64 a0_1, .int .i64 a0_2, .int .i64 a0_3, .bool a0_4] 50 (0, 0)) (by (with_reducible repeat (first | refine blk_drewN ?_ _ | refine blk_drew ?_ | refine blk_alloc ?_ _)); exact BK144.out)) : gb144 ≠ gb145)); have n6_ := Aside0.mk ((by rw [hg]; exact Nat.ne_of_gt (blk_lt (g := gb144) (o := .cells #[.int .i64 a0_0, .int .i64 a0_1, .int .i64 a0_2, .int .i64 a0_3, .bool a0_4] 50 (0, 0)) (by (with_reducible repeat (first | refine blk_drewN ?_ _ | refine blk_drew ?_ | refine blk_alloc ?_ _)); exact BK144.out)) : gb145 ≠ gb144)); clear BK144; clear HB; have BK144 := n0_; have HB := n1_; have BK145 := n2_; have GW145 := n3_; have GE145 := n4_; have NB144_145 := n5_; have NB145_144 := n6_; clear n0_ n1_ n2_ n3_ n4_ n5_ n6_; clear hb hbox hg; have hnb12 := NB144_145.out; have hnc12 := NB145_144.out; have hcz13_0 : w11.cell? ⟨gb144, 0, none⟩ = some (.int .i64 a0_0) := (blk_cell BK144.out 0).trans rfl; have hcz13_1 : w11.cell? ⟨gb144, 1, none⟩ = some (.int .i64 a0_1) := (blk_cell BK144.out 1).trans rfl; have hcz13_2 : w11.cell? ⟨gb144, 2, none⟩ = some (.int .i64 a0_2) := (blk_cell BK144.out 2).trans rfl; have hcz13_3 : w11.cell? ⟨gb144, 3, none⟩ = some (.int .i64 a0_3) := (blk_cell BK144.out 3).trans rfl; have hcz13_4 : w11.cell? ⟨gb144, 4, none⟩ = some (.bool a0_4) := (blk_cell BK144.out 4).trans rfl; have hfz13_0 := blk_frozen BK144.out 0; have hfz13_1 := blk_frozen BK144.out 1; have hfz13_2 := blk_frozen BK144.out 2; have hfz13_3 := blk_frozen BK144.out 3; have hfz13_4 := blk_frozen BK144.out 4; have hcz14_0 : w11.cell? ⟨gb145, 0, none⟩ = some (.int .i64 a1_0) := (blk_cell BK145.out 0).trans rfl; have hcz14_1 : w11.cell? ⟨gb145, 1, none⟩ = some (.int .i64 a1_1) := (blk_cell BK145.out 1).trans rfl; have hcz14_2 : w11.cell? ⟨gb145, 2, none⟩ = some (.int .i64 a1_2) := (blk_cell BK145.out 2).trans rfl; have hcz14_3 : w11.cell? ⟨gb145, 3, none⟩ = some (.int .i64 a1_3) := (blk_cell BK145.out 3).trans rfl; have hcz14_4 : w11.cell? ⟨gb145, 4, none⟩ = some (.bool a1_4) := (blk_cell BK145.out 4).trans rfl; have hfz14_0 := blk_frozen BK145.out 0; have hfz14_1 := blk_frozen BK145.out 1; have hfz14_2 := blk_frozen BK145.out 2; have hfz14_3 := blk_frozen BK145.out 3; have hfz14_4 := blk_frozen BK145.out 4))
      go_ret
      exact ⟨by first | rfl | (simp [errW_none, errW_some] <;> rfl) | (simp [*, errW_none, errW_some] <;> rfl), by repeat (first | (with_reducible first | exact HB.out | apply below_alloc | apply pw_below_drewN | apply below_drew1 | refine below_set ?_ GE144.out | refine below_set ?_ GE145.out) | exact HB.out)⟩
  · rw [if_neg c3] at H
    have c3b0 : (a0_0 == a1_0) = false := beq_eq_false_iff_ne.mpr c3
    have c3b1 : (a0_0 != a1_0) = true := bne_iff_ne.mpr c3
    obtain rfl := Option.some.inj H
    go_enter Try.func88, Try.ntmps88
    go_wp2_with (first | ((with_reducible refine gate_dst (N := 2) rfl ?_); refine box_event ?hg (N := 2) ?hd (cs := #[.int .i64 a0_0, .int .i64 a0_1, .int .i64 a0_2, .int .i64 a0_3, .bool a0_4]) (t := 50) ?hr ?_; (case hd => rfl); (case hg => rfl); (case hr => first | (go_simp; done) | (go_simp; rfl)); intro gb144 hg w15 hbox hb; have n0_ := Aside0.mk (below_step (by repeat (first | (with_reducible first | exact HB.out | apply below_alloc | apply pw_below_drewN | apply below_drew1) | exact HB.out)) hb); have n1_ := Aside0.mk (hbox); have n2_ := Aside0.mk ((by rw [hg]; exact (below_size (by repeat (first | (with_reducible first | exact HB.out | apply below_alloc | apply pw_below_drewN | apply below_drew1) | exact HB.out))) : w.heap.size ≤ gb144)); have n3_ := Aside0.mk ((by rw [hg]; exact (below_size (by repeat (first | (with_reducible first | exact HB.out | apply below_alloc | apply pw_below_drewN | apply below_drew1) | exact HB.out))) : w.heap.size ≤ gb144)); clear HB; have HB := n0_; have BK144 := n1_; have GW144 := n2_; have GE144 := n3_; clear n0_ n1_ n2_ n3_; clear hb hbox hg) | ((with_reducible refine gate_dst (N := 3) rfl ?_); refine box_event ?hg (N := 3) ?hd (cs := #[.int .i64 a1_0, .int .i64 a1_1, .int .i64 a1_2, .int .i64 a1_3, .bool a1_4]) (t := 50) ?hr ?_; (case hd => rfl); (case hg => rfl); (case hr => first | (go_simp; done) | (go_simp; rfl)); intro gb145 hg w16 hbox hb; have n0_ := Aside0.mk (blk_below (g := gb144) (o := .cells #[.int .i64 a0_0, .int .i64 a0_1, .int .i64 a0_2, .int .i64 a0_3, .bool a0_4] 50 (0, 0)) (by (with_reducible repeat (first | refine blk_drewN ?_ _ | refine blk_drew ?_ | refine blk_alloc ?_ _)); exact BK144.out) hb); have n1_ := Aside0.mk (below_step (by repeat (first | (with_reducible first | exact HB.out | apply below_alloc | apply pw_below_drewN | apply below_drew1 | refine below_set ?_ GE144.out) | exact HB.out)) hb); have n2_ := Aside0.mk (hbox); have n3_ := Aside0.mk ((by rw [hg]; exact (below_size (by repeat (first | (with_reducible first | exact HB.out | apply below_alloc | apply pw_below_drewN | apply below_drew1 | refine below_set ?_ GE144.out) | exact HB.out))) : w.heap.size ≤ gb145)); have n4_ := Aside0.mk ((by rw [hg]; exact (below_size (by repeat (first | (with_reducible first | exact HB.out | apply below_alloc | apply pw_below_drewN | apply below_drew1 | refine below_set ?_ GE144.out) | exact HB.out))) : w.heap.size ≤ gb145)); have n5_ := Aside0.mk ((by rw [hg]; exact Nat.ne_of_lt (blk_lt (g := gb144) (o := .cells #[.int .i64 a0_0, .int .i64 a0_1, .int .i64 a0_2, .int .i64 a0_3, .bool a0_4] 50 (0, 0)) (by (with_reducible repeat (first | refine blk_drewN ?_ _ | refine blk_drew ?_ | refine blk_alloc ?_ _)); exact BK144.out)) : gb144 ≠ gb145)); have n6_ := Aside0.mk ((by rw [hg]; exact Nat.ne_of_gt (blk_lt (g := gb144) (o := .cells #[.int .i64 a0_0, .int .i64 a0_1, .int .i64 a0_2, .int .i64 a0_3, .bool a0_4] 50 (0, 0)) (by (with_reducible repeat (first | refine blk_drewN ?_ _ | refine blk_drew ?_ | refine blk_alloc ?_ _)); exact BK144.out)) : gb145 ≠ gb144)); clear BK144; clear HB; have BK144 := n0_; have HB := n1_; have BK145 := n2_; have GW145 := n3_; have GE145 := n4_; have NB144_145 := n5_; have NB145_144 := n6_; clear n0_ n1_ n2_ n3_ n4_ n5_ n6_; clear hb hbox hg; have hnb17 := NB144_145.out; have hnc17 := NB145_144.out; have hcz18_0 : w16.cell? ⟨gb144, 0, none⟩ = some (.int .i64 a0_0) := (blk_cell BK144.out 0).trans rfl; have hcz18_1 : w16.cell? ⟨gb144, 1, none⟩ = some (.int .i64 a0_1) := (blk_cell BK144.out 1).trans rfl; have hcz18_2 : w16.cell? ⟨gb144, 2, none⟩ = some (.int .i64 a0_2) := (blk_cell BK144.out 2).trans rfl; have hcz18_3 : w16.cell? ⟨gb144, 3, none⟩ = some (.int .i64 a0_3) := (blk_cell BK144.out 3).trans rfl; have hcz18_4 : w16.cell? ⟨gb144, 4, none⟩ = some (.bool a0_4) := (blk_cell BK144.out 4).trans rfl; have hfz18_0 := blk_frozen BK144.out 0; have hfz18_1 := blk_frozen BK144.out 1; have hfz18_2 := blk_frozen BK144.out 2; have hfz18_3 := blk_frozen BK144.out 3; have hfz18_4 := blk_frozen BK144.out 4; have hcz19_0 : w16.cell? ⟨gb145, 0, none⟩ = some (.int .i64 a1_0) := (blk_cell BK145.out 0).trans rfl; have hcz19_1 : w16.cell? ⟨gb145, 1, none⟩ = some (.int .i64 a1_1) := (blk_cell BK145.out 1).trans rfl; have hcz19_2 : w16.cell? ⟨gb145, 2, none⟩ = some (.int .i64 a1_2) := (blk_cell BK145.out 2).trans rfl; have hcz19_3 : w16.cell? ⟨gb145, 3, none⟩ = some (.int .i64 a1_3) := (blk_cell BK145.out 3).trans rfl; have hcz19_4 : w16.cell? ⟨gb145, 4, none⟩ = some (.bool a1_4) := (blk_cell BK145.out 4).trans rfl; have hfz19_0 := blk_frozen BK145.out 0; have hfz19_1 := blk_frozen BK145.out 1; have hfz19_2 := blk_frozen BK145.out 2; have hfz19_3 := blk_frozen BK145.out 3; have hfz19_4 := blk_frozen BK145.out 4))
    go_ret
    exact ⟨by first | rfl | (simp [errW_none, errW_some] <;> rfl) | (simp [*, errW_none, errW_some] <;> rfl), by repeat (first | (with_reducible first | exact HB.out | apply below_alloc | apply pw_below_drewN | apply below_drew1 | refine below_set ?_ GE144.out | refine below_set ?_ GE145.out) | exact HB.out)⟩

/-! ### impl_TlbFault_c1: function 87 -/
def impl_TlbFault_c1.f (a0_0 : Int) (a0_1 : Int) (a0_2 : Int) (a0_3 : Int) (a0_4 : Bool) (a1_0 : Int) (a1_1 : Int) (a1_2 : Int) (a1_3 : Int) (a1_4 : Bool) : Option (Bool) := (impl_ysameTlb.f a0_0 a0_1 a0_2 a0_3 a0_4 a1_0 a1_1 a1_2 a1_3 a1_4).bind fun t147 => (some t147)
set_option maxHeartbeats 8000000 in
set_option maxRecDepth 100000 in
theorem impl_TlbFault_c1.calls (a0_0 : Int) (a0_1 : Int) (a0_2 : Int) (a0_3 : Int) (a0_4 : Bool) (gc1_0 : Nat) (a1_0 : Int) (a1_1 : Int) (a1_2 : Int) (a1_3 : Int) (a1_4 : Bool) (r : Bool) (w : World) (hb1_0 : w.heap[gc1_0]? = some (.cells #[.int .i64 a1_0, .int .i64 a1_1, .int .i64 a1_2, .int .i64 a1_3, .bool a1_4] 50 (0, 0))) (h : impl_TlbFault_c1.f a0_0 a0_1 a0_2 a0_3 a0_4 a1_0 a1_1 a1_2 a1_3 a1_4 = some r) :
    Calls Try.prog 87 #[.agg #[.int .i64 a0_0, .int .i64 a0_1, .int .i64 a0_2, .int .i64 a0_3, .bool a0_4], .pointer (some ⟨gc1_0, 0, none⟩)] w fun e w' => e = .returned (.bool r) ∧ Below w.heap.size w w' := by
  have hu50 := Try.underlying50
  have BK48 := Aside0.mk hb1_0
  clear hb1_0
  have HB := Aside0.mk (Below.refl w.heap.size w)
  have H : ((impl_ysameTlb.f a0_0 a0_1 a0_2 a0_3 a0_4 a1_0 a1_1 a1_2 a1_3 a1_4).bind fun t147 => (some t147)) = some r := h
  clear h
  replace H := Option.bind_eq_some_iff.mp H
  obtain ⟨t147, A30, H⟩ := H
  replace H : (some t147) = some r := H
  have A3 := Aside0.mk A30
  clear A30
  obtain rfl := Option.some.inj H
  go_enter Try.func87, Try.ntmps87
  go_wp2_with (first | ((with_reducible refine gate_dst (N := 2) rfl ?_); refine box_event ?hg (N := 2) ?hd (cs := #[.int .i64 a0_0, .int .i64 a0_1, .int .i64 a0_2, .int .i64 a0_3, .bool a0_4]) (t := 50) ?hr ?_; (case hd => rfl); (case hg => rfl); (case hr => first | (go_simp; done) | (go_simp; rfl)); intro gb146 hg w4 hbox hb; have n0_ := Aside0.mk (blk_below (g := gc1_0) (o := .cells #[.int .i64 a1_0, .int .i64 a1_1, .int .i64 a1_2, .int .i64 a1_3, .bool a1_4] 50 (0, 0)) (by (with_reducible repeat (first | refine blk_drewN ?_ _ | refine blk_drew ?_ | refine blk_alloc ?_ _)); exact BK48.out) hb); have n1_ := Aside0.mk (below_step (by repeat (first | (with_reducible first | exact HB.out | apply below_alloc | apply pw_below_drewN | apply below_drew1 | refine below_set ?_ GE48.out) | exact HB.out)) hb); have n2_ := Aside0.mk (hbox); have n3_ := Aside0.mk ((by rw [hg]; exact (below_size (by repeat (first | (with_reducible first | exact HB.out | apply below_alloc | apply pw_below_drewN | apply below_drew1 | refine below_set ?_ GE48.out) | exact HB.out))) : w.heap.size ≤ gb146)); have n4_ := Aside0.mk ((by rw [hg]; exact (below_size (by repeat (first | (with_reducible first | exact HB.out | apply below_alloc | apply pw_below_drewN | apply below_drew1 | refine below_set ?_ GE48.out) | exact HB.out))) : w.heap.size ≤ gb146)); have n5_ := Aside0.mk ((by rw [hg]; exact Nat.ne_of_lt (blk_lt (g := gc1_0) (o := .cells #[.int .i64 a1_0, .int .i64 a1_1, .int .i64 a1_2, .int .i64 a1_3, .bool a1_4] 50 (0, 0)) (by (with_reducible repeat (first | refine blk_drewN ?_ _ | refine blk_drew ?_ | refine blk_alloc ?_ _)); exact BK48.out)) : gc1_0 ≠ gb146)); have n6_ := Aside0.mk ((by rw [hg]; exact Nat.ne_of_gt (blk_lt (g := gc1_0) (o := .cells #[.int .i64 a1_0, .int .i64 a1_1, .int .i64 a1_2, .int .i64 a1_3, .bool a1_4] 50 (0, 0)) (by (with_reducible repeat (first | refine blk_drewN ?_ _ | refine blk_drew ?_ | refine blk_alloc ?_ _)); exact BK48.out)) : gb146 ≠ gc1_0)); clear BK48; clear HB; have BK48 := n0_; have HB := n1_; have BK146 := n2_; have GW146 := n3_; have GE146 := n4_; have NB48_146 := n5_; have NB146_48 := n6_; clear n0_ n1_ n2_ n3_ n4_ n5_ n6_; clear hb hbox hg; have hnb5 := NB146_48.out; have hnc5 := NB48_146.out; have hcz6_0 : w4.cell? ⟨gb146, 0, none⟩ = some (.int .i64 a0_0) := (blk_cell BK146.out 0).trans rfl; have hcz6_1 : w4.cell? ⟨gb146, 1, none⟩ = some (.int .i64 a0_1) := (blk_cell BK146.out 1).trans rfl; have hcz6_2 : w4.cell? ⟨gb146, 2, none⟩ = some (.int .i64 a0_2) := (blk_cell BK146.out 2).trans rfl; have hcz6_3 : w4.cell? ⟨gb146, 3, none⟩ = some (.int .i64 a0_3) := (blk_cell BK146.out 3).trans rfl; have hcz6_4 : w4.cell? ⟨gb146, 4, none⟩ = some (.bool a0_4) := (blk_cell BK146.out 4).trans rfl; have hfz6_0 := blk_frozen BK146.out 0; have hfz6_1 := blk_frozen BK146.out 1; have hfz6_2 := blk_frozen BK146.out 2; have hfz6_3 := blk_frozen BK146.out 3; have hfz6_4 := blk_frozen BK146.out 4; have hcz7_0 : w4.cell? ⟨gc1_0, 0, none⟩ = some (.int .i64 a1_0) := (blk_cell BK48.out 0).trans rfl; have hcz7_1 : w4.cell? ⟨gc1_0, 1, none⟩ = some (.int .i64 a1_1) := (blk_cell BK48.out 1).trans rfl; have hcz7_2 : w4.cell? ⟨gc1_0, 2, none⟩ = some (.int .i64 a1_2) := (blk_cell BK48.out 2).trans rfl; have hcz7_3 : w4.cell? ⟨gc1_0, 3, none⟩ = some (.int .i64 a1_3) := (blk_cell BK48.out 3).trans rfl; have hcz7_4 : w4.cell? ⟨gc1_0, 4, none⟩ = some (.bool a1_4) := (blk_cell BK48.out 4).trans rfl; have hfz7_0 := blk_frozen BK48.out 0; have hfz7_1 := blk_frozen BK48.out 1; have hfz7_2 := blk_frozen BK48.out 2; have hfz7_3 := blk_frozen BK48.out 3; have hfz7_4 := blk_frozen BK48.out 4) | ((with_reducible refine gate_callee (f := 88) rfl ?_); refine goesL_ (some 6) rfl rfl Try.func88 (by kernel_rfl) rfl #[.agg #[.int .i64 a0_0, .int .i64 a0_1, .int .i64 a0_2, .int .i64 a0_3, .bool a0_4], .agg #[.int .i64 a1_0, .int .i64 a1_1, .int .i64 a1_2, .int .i64 a1_3, .bool a1_4]] rfl (by (try simp only [List.map_toArray, List.map_cons, List.map_nil]); first | done | rfl | (simp only [List.length_drop, List.length_take]; rfl)) ?_; (with_reducible refine (impl_ysameTlb.calls a0_0 a0_1 a0_2 a0_3 a0_4 a1_0 a1_1 a1_2 a1_3 a1_4 t147 _ A3.out).mono ?_); rintro e w8 ⟨rfl, hb⟩; refine ⟨_, rfl, ?_⟩; have n0_ := Aside0.mk (blk_below (g := gc1_0) (o := .cells #[.int .i64 a1_0, .int .i64 a1_1, .int .i64 a1_2, .int .i64 a1_3, .bool a1_4] 50 (0, 0)) (by (with_reducible repeat (first | refine blk_drewN ?_ _ | refine blk_drew ?_ | refine blk_alloc ?_ _)); exact BK48.out) hb); have n1_ := Aside0.mk (blk_below (g := gb146) (o := .cells #[.int .i64 a0_0, .int .i64 a0_1, .int .i64 a0_2, .int .i64 a0_3, .bool a0_4] 50 (0, 0)) (by (with_reducible repeat (first | refine blk_drewN ?_ _ | refine blk_drew ?_ | refine blk_alloc ?_ _)); exact BK146.out) hb); have n2_ := Aside0.mk (below_step (by repeat (first | (with_reducible first | exact HB.out | apply below_alloc | apply pw_below_drewN | apply below_drew1 | refine below_set ?_ GE48.out | refine below_set ?_ GE146.out) | exact HB.out)) hb); clear BK48; clear BK146; clear HB; have BK48 := n0_; have BK146 := n1_; have HB := n2_; clear n0_ n1_ n2_; (try clear hb); (try clear hb2); (try clear hk); (try clear hi)))
  go_ret
  exact ⟨by first | rfl | (simp [errW_none, errW_some] <;> rfl) | (simp [*, errW_none, errW_some] <;> rfl), by repeat (first | (with_reducible first | exact HB.out | apply below_alloc | apply pw_below_drewN | apply below_drew1 | refine below_set ?_ GE48.out | refine below_set ?_ GE146.out) | exact HB.out)⟩

/-! ### slices_IndexFunc_TlbEntry_at_impl_TlbFault_c1: function 61 -/
def slices_IndexFunc_TlbEntry_at_impl_TlbFault_c1.l0 : Nat → List (S50) → Int → Int → Int → Int → Int → Int → Bool → Option (Int)
  | 0, _, _, _, _, _, _, _, _ => none
  | k + 1, x0, x7, x8, x49000, x49001, x49002, x49003, x49004 => if x8 < x7 then (if 0 ≤ x8 then (if x8 < (x0.length : Int) then ((impl_TlbFault_c1.f ((rd_T50 x0 x8).f0) ((rd_T50 x0 x8).f1) ((rd_T50 x0 x8).f2) ((rd_T50 x0 x8).f3) ((rd_T50 x0 x8).f4) x49000 x49001 x49002 x49003 x49004).bind fun t149 => (if t149 = true then (some x8) else (slices_IndexFunc_TlbEntry_at_impl_TlbFault_c1.l0 k x0 x7 (wrap64 (x8 + 1)) x49000 x49001 x49002 x49003 x49004))) else (none)) else (none)) else (some (-1))
def slices_IndexFunc_TlbEntry_at_impl_TlbFault_c1.f (k : Nat) (l0 : List (S50)) (a1_0 : Int) (a1_1 : Int) (a1_2 : Int) (a1_3 : Int) (a1_4 : Bool) : Option (Int) := slices_IndexFunc_TlbEntry_at_impl_TlbFault_c1.l0 k l0 (l0.length : Int) 0 a1_0 a1_1 a1_2 a1_3 a1_4
theorem slices_IndexFunc_TlbEntry_at_impl_TlbFault_c1.mono_l : ∀ k, (∀ y0 y1 y2 y3 y4 y5 y6 y7, LeO (slices_IndexFunc_TlbEntry_at_impl_TlbFault_c1.l0 k y0 y1 y2 y3 y4 y5 y6 y7) (slices_IndexFunc_TlbEntry_at_impl_TlbFault_c1.l0 (k + 1) y0 y1 y2 y3 y4 y5 y6 y7))
  | 0 => fun _ _ _ _ _ _ _ _ r h => by simp [slices_IndexFunc_TlbEntry_at_impl_TlbFault_c1.l0] at h
  | k + 1 => by
    have ih0 := slices_IndexFunc_TlbEntry_at_impl_TlbFault_c1.mono_l k
    · intro y0 y1 y2 y3 y4 y5 y6 y7
      unfold slices_IndexFunc_TlbEntry_at_impl_TlbFault_c1.l0
      repeat' first
      | (with_reducible exact ih0 _ _ _ _ _ _ _ _)
      | (with_reducible exact LeO.refl _)
      | (with_reducible exact LeO.none _)
      | (with_reducible refine LeO.ite ?_ ?_)
      | (with_reducible refine LeO.bind ?_ (fun _ => ?_))
      | exact ih0 _ _ _ _ _ _ _ _
      | exact LeO.none _
      | refine LeO.ite ?_ ?_
      | refine LeO.bind ?_ (fun _ => ?_)
theorem slices_IndexFunc_TlbEntry_at_impl_TlbFault_c1.mono : ∀ a0 a1 a2 a3 a4 a5 k, LeO (slices_IndexFunc_TlbEntry_at_impl_TlbFault_c1.f k a0 a1 a2 a3 a4 a5) (slices_IndexFunc_TlbEntry_at_impl_TlbFault_c1.f (k + 1) a0 a1 a2 a3 a4 a5) := by
  intro a0 a1 a2 a3 a4 a5 k
  have ih0 := slices_IndexFunc_TlbEntry_at_impl_TlbFault_c1.mono_l k
  unfold slices_IndexFunc_TlbEntry_at_impl_TlbFault_c1.f
  repeat' first
      | (with_reducible exact ih0 _ _ _ _ _ _ _ _)
      | (with_reducible exact LeO.refl _)
      | (with_reducible exact LeO.none _)
      | (with_reducible refine LeO.ite ?_ ?_)
      | (with_reducible refine LeO.bind ?_ (fun _ => ?_))
      | exact ih0 _ _ _ _ _ _ _ _
      | exact LeO.none _
      | refine LeO.ite ?_ ?_
      | refine LeO.bind ?_ (fun _ => ?_)
set_option maxHeartbeats 8000000 in
set_option maxRecDepth 100000 in
theorem slices_IndexFunc_TlbEntry_at_impl_TlbFault_c1.calls (k : Nat) (A0 : Option Addr) (c0 : Nat) (l0 : List (S50)) (gc1_0 : Nat) (a1_0 : Int) (a1_1 : Int) (a1_2 : Int) (a1_3 : Int) (a1_4 : Bool) (r : Int) (w : World) (hr0 : Kd.C k50 w A0 l0.length l0) (hc0 : l0.length ≤ c0) (hb1_0 : w.heap[gc1_0]? = some (.cells #[.int .i64 a1_0, .int .i64 a1_1, .int .i64 a1_2, .int .i64 a1_3, .bool a1_4] 50 (0, 0))) (h : slices_IndexFunc_TlbEntry_at_impl_TlbFault_c1.f k l0 a1_0 a1_1 a1_2 a1_3 a1_4 = some r) :
    Calls Try.prog 61 #[.slice A0 l0.length c0, .func (.func 87) #[] #[.pointer (some ⟨gc1_0, 0, none⟩)]] w fun e w' => e = .returned (.int .i64 r) ∧ Below w.heap.size w w' := by
  have hu50 := Try.underlying50
  have HR0 := Aside0.mk hr0
  have HC0 := Aside0.mk hc0
  clear hr0 hc0
  have BK48 := Aside0.mk hb1_0
  clear hb1_0
  have HB := Aside0.mk (Below.refl w.heap.size w)
  have H : (slices_IndexFunc_TlbEntry_at_impl_TlbFault_c1.l0 k l0 (l0.length : Int) 0 a1_0 a1_1 a1_2 a1_3 a1_4) = some r := h
  clear h
  have H' := Aside0.mk H
  clear H
  go_enter Try.func61, Try.ntmps61
  go_wp2
  go_loopg [8] k (fun kq v8 w' => ∃ (x8_1 : Int), v8 = .int .i64 x8_1 ∧ Aside0 (slices_IndexFunc_TlbEntry_at_impl_TlbFault_c1.l0 kq l0 (l0.length : Int) x8_1 a1_0 a1_1 a1_2 a1_3 a1_4 = some r) ∧ Aside0 (kq ≤ k) ∧ Aside0 (w'.heap[gc1_0]? = some (.cells #[.int .i64 a1_0, .int .i64 a1_1, .int .i64 a1_2, .int .i64 a1_3, .bool a1_4] 50 (0, 0))) ∧ Aside0 (Below w.heap.size w w'))
  case atStart => exact ⟨(0), (by first | rfl | (simp; done) | (simp [*]; done)), H', ⟨Nat.le_refl _⟩, ⟨by (with_reducible repeat (first | refine blk_drewN ?_ _ | refine blk_drew ?_ | refine blk_alloc ?_ _)); exact BK48.out⟩, ⟨by repeat (first | (with_reducible first | exact HB.out | apply below_alloc | apply pw_below_drewN | apply below_drew1 | refine below_set ?_ GE48.out) | exact HB.out)⟩⟩
  case round =>
    clear H'
    try clear c1
    try clear p2
    obtain ⟨x8_1, rfl, HA, HK1, BK48, HB⟩ := hrel
    cases gk with
    | zero => exact absurd HA.out (by simp [slices_IndexFunc_TlbEntry_at_impl_TlbFault_c1.l0])
    | succ k1 =>
      have H := HA.out
      clear HA
      simp only [slices_IndexFunc_TlbEntry_at_impl_TlbFault_c1.l0] at H
      by_cases c3 : x8_1 < (l0.length : Int)
      · rw [if_pos c3] at H
        have c3b0 : decide (x8_1 < (l0.length : Int)) = true := decide_eq_true c3
        clear c3
        by_cases c4 : 0 ≤ x8_1
        · rw [if_pos c4] at H
          have c4b0 : decide (0 ≤ x8_1) = true := decide_eq_true c4
          clear c4
          by_cases c5 : x8_1 < (l0.length : Int)
          · rw [if_pos c5] at H
            have c5b0 : decide (x8_1 < (l0.length : Int)) = true := decide_eq_true c5
            clear c5
            replace H := Option.bind_eq_some_iff.mp H
            obtain ⟨t149, A60, H⟩ := H
            replace H : (if t149 = true then (some x8_1) else (slices_IndexFunc_TlbEntry_at_impl_TlbFault_c1.l0 k1 l0 (l0.length : Int) (wrap64 (x8_1 + 1)) a1_0 a1_1 a1_2 a1_3 a1_4)) = some r := H
            have A6 := Aside0.mk A60
            clear A60
            by_cases c7 : t149 = true
            · subst c7
              have H1 : (some x8_1) = some r := by rw [if_pos rfl] at H; exact H
              clear H
              have H := H1
              clear H1
              obtain rfl := Option.some.inj H
              have p148 : 0 ≤ (x8_1 : Int) := of_decide_eq_true (by first | (with_reducible assumption) | assumption)
              have q148 : x8_1 < (l0.length : Int) := of_decide_eq_true (by first | (with_reducible assumption) | assumption)
              obtain ⟨ad148, e148, hx148_0, hx148_1, hx148_2, hx148_3, hx148_4⟩ := at_T50 HR0.out x8_1 p148 q148
              cases e148
              replace hx148_0 := (HB.out.cell (World.block_lt_of_cell? w _ hx148_0)).trans hx148_0
              replace hx148_1 := (HB.out.cell (World.block_lt_of_cell? w _ hx148_1)).trans hx148_1
              replace hx148_2 := (HB.out.cell (World.block_lt_of_cell? w _ hx148_2)).trans hx148_2
              replace hx148_3 := (HB.out.cell (World.block_lt_of_cell? w _ hx148_3)).trans hx148_3
              replace hx148_4 := (HB.out.cell (World.block_lt_of_cell? w _ hx148_4)).trans hx148_4
              replace p148 := eq_true p148
              replace q148 := eq_true q148
              go_wp2_with (first | (go_at_call 87; (with_reducible refine (impl_TlbFault_c1.calls ((rd_T50 l0 x8_1).f0) ((rd_T50 l0 x8_1).f1) ((rd_T50 l0 x8_1).f2) ((rd_T50 l0 x8_1).f3) ((rd_T50 l0 x8_1).f4) gc1_0 a1_0 a1_1 a1_2 a1_3 a1_4 true _ ?side1 A6.out).mono ?_); (case side1 => exact (by (with_reducible repeat (first | refine blk_drewN ?_ _ | refine blk_drew ?_ | refine blk_alloc ?_ _)); exact BK48.out)); rintro e w8 ⟨rfl, hb⟩; have n0_ := Aside0.mk (blk_below (g := gc1_0) (o := .cells #[.int .i64 a1_0, .int .i64 a1_1, .int .i64 a1_2, .int .i64 a1_3, .bool a1_4] 50 (0, 0)) (by (with_reducible repeat (first | refine blk_drewN ?_ _ | refine blk_drew ?_ | refine blk_alloc ?_ _)); exact BK48.out) hb); have n1_ := Aside0.mk (below_step (by repeat (first | (with_reducible first | exact HB.out | apply below_alloc | apply pw_below_drewN | apply below_drew1 | refine below_set ?_ GE48.out) | exact HB.out)) hb); clear BK48; clear HB; have BK48 := n0_; have HB := n1_; clear n0_ n1_; (try clear hb); (try clear hb2); (try clear hk); (try clear hi)))
              go_ret
              exact ⟨by first | rfl | (simp [errW_none, errW_some] <;> rfl) | (simp [*, errW_none, errW_some] <;> rfl), by repeat (first | (with_reducible first | exact HB.out | apply below_alloc | apply pw_below_drewN | apply below_drew1 | refine below_set ?_ GE48.out) | exact HB.out)⟩
            · replace c7 := Bool.eq_false_iff.mpr c7
              subst c7
              have H1 : (slices_IndexFunc_TlbEntry_at_impl_TlbFault_c1.l0 k1 l0 (l0.length : Int) (wrap64 (x8_1 + 1)) a1_0 a1_1 a1_2 a1_3 a1_4) = some r := by rw [if_neg (show ¬ (false = true) by decide)] at H; exact H
              clear H
              have H := H1
              clear H1
              have H' := Aside0.mk H
              clear H
              have p148 : 0 ≤ (x8_1 : Int) := of_decide_eq_true (by first | (with_reducible assumption) | assumption)
              have q148 : x8_1 < (l0.length : Int) := of_decide_eq_true (by first | (with_reducible assumption) | assumption)
              obtain ⟨ad148, e148, hx148_0, hx148_1, hx148_2, hx148_3, hx148_4⟩ := at_T50 HR0.out x8_1 p148 q148
              cases e148
              replace hx148_0 := (HB.out.cell (World.block_lt_of_cell? w _ hx148_0)).trans hx148_0
              replace hx148_1 := (HB.out.cell (World.block_lt_of_cell? w _ hx148_1)).trans hx148_1
              replace hx148_2 := (HB.out.cell (World.block_lt_of_cell? w _ hx148_2)).trans hx148_2
              replace hx148_3 := (HB.out.cell (World.block_lt_of_cell? w _ hx148_3)).trans hx148_3
              replace hx148_4 := (HB.out.cell (World.block_lt_of_cell? w _ hx148_4)).trans hx148_4
              replace p148 := eq_true p148
              replace q148 := eq_true q148
              go_wp2_with (first | (go_at_call 87; (with_reducible refine (impl_TlbFault_c1.calls ((rd_T50 l0 x8_1).f0) ((rd_T50 l0 x8_1).f1) ((rd_T50 l0 x8_1).f2) ((rd_T50 l0 x8_1).f3) ((rd_T50 l0 x8_1).f4) gc1_0 a1_0 a1_1 a1_2 a1_3 a1_4 false _ ?side1 A6.out).mono ?_); (case side1 => exact (by (with_reducible repeat (first | refine blk_drewN ?_ _ | refine blk_drew ?_ | refine blk_alloc ?_ _)); exact BK48.out)); rintro e w9 ⟨rfl, hb⟩; have n0_ := Aside0.mk (blk_below (g := gc1_0) (o := .cells #[.int .i64 a1_0, .int .i64 a1_1, .int .i64 a1_2, .int .i64 a1_3, .bool a1_4] 50 (0, 0)) (by (with_reducible repeat (first | refine blk_drewN ?_ _ | refine blk_drew ?_ | refine blk_alloc ?_ _)); exact BK48.out) hb); have n1_ := Aside0.mk (below_step (by repeat (first | (with_reducible first | exact HB.out | apply below_alloc | apply pw_below_drewN | apply below_drew1 | refine below_set ?_ GE48.out) | exact HB.out)) hb); clear BK48; clear HB; have BK48 := n0_; have HB := n1_; clear n0_ n1_; (try clear hb); (try clear hb2); (try clear hk); (try clear hi)))
              go_roundg k1
              case measure => have := HK1.out; omega
              case rel => exact ⟨(wrap64 (x8_1 + 1)), (by first | rfl | (simp; done) | (simp [*]; done)), H', ⟨by have := HK1.out; omega⟩, ⟨by (with_reducible repeat (first | refine blk_drewN ?_ _ | refine blk_drew ?_ | refine blk_alloc ?_ _)); exact BK48.out⟩, ⟨by repeat (first | (with_reducible first | exact HB.out | apply below_alloc | apply pw_below_drewN | apply below_drew1 | refine below_set ?_ GE48.out) | exact HB.out)⟩⟩
          · rw [if_neg c5] at H
            exact absurd H (by simp)
        · rw [if_neg c4] at H
          exact absurd H (by simp)
      · rw [if_neg c3] at H
        have c3b0 : decide (x8_1 < (l0.length : Int)) = false := decide_eq_false c3
        clear c3
        obtain rfl := Option.some.inj H
        go_wp2
        go_ret
        exact ⟨by first | rfl | (simp [errW_none, errW_some] <;> rfl) | (simp [*, errW_none, errW_some] <;> rfl), by repeat (first | (with_reducible first | exact HB.out | apply below_alloc | apply pw_below_drewN | apply below_drew1 | refine below_set ?_ GE48.out) | exact HB.out)⟩

/-! ### slices_ContainsFunc_TlbEntry_at_impl_TlbFault_c1: function 86 -/
def slices_ContainsFunc_TlbEntry_at_impl_TlbFault_c1.f (k : Nat) (l0 : List (S50)) (a1_0 : Int) (a1_1 : Int) (a1_2 : Int) (a1_3 : Int) (a1_4 : Bool) : Option (Bool) := (slices_IndexFunc_TlbEntry_at_impl_TlbFault_c1.f k l0 a1_0 a1_1 a1_2 a1_3 a1_4).bind fun t150 => (some (decide (t150 ≥ 0)))
theorem slices_ContainsFunc_TlbEntry_at_impl_TlbFault_c1.mono : ∀ a0 a1 a2 a3 a4 a5 k, LeO (slices_ContainsFunc_TlbEntry_at_impl_TlbFault_c1.f k a0 a1 a2 a3 a4 a5) (slices_ContainsFunc_TlbEntry_at_impl_TlbFault_c1.f (k + 1) a0 a1 a2 a3 a4 a5) := by
  intro a0 a1 a2 a3 a4 a5 k
  unfold slices_ContainsFunc_TlbEntry_at_impl_TlbFault_c1.f
  repeat' first
      | (with_reducible exact slices_IndexFunc_TlbEntry_at_impl_TlbFault_c1.mono _ _ _ _ _ _ _)
      | (with_reducible exact LeO.refl _)
      | (with_reducible exact LeO.none _)
      | (with_reducible refine LeO.ite ?_ ?_)
      | (with_reducible refine LeO.bind ?_ (fun _ => ?_))
      | exact slices_IndexFunc_TlbEntry_at_impl_TlbFault_c1.mono _ _ _ _ _ _ _
      | exact LeO.none _
      | refine LeO.ite ?_ ?_
      | refine LeO.bind ?_ (fun _ => ?_)
set_option maxHeartbeats 8000000 in
set_option maxRecDepth 100000 in
theorem slices_ContainsFunc_TlbEntry_at_impl_TlbFault_c1.calls (k : Nat) (A0 : Option Addr) (c0 : Nat) (l0 : List (S50)) (gc1_0 : Nat) (a1_0 : Int) (a1_1 : Int) (a1_2 : Int) (a1_3 : Int) (a1_4 : Bool) (r : Bool) (w : World) (hr0 : Kd.C k50 w A0 l0.length l0) (hc0 : l0.length ≤ c0) (hb1_0 : w.heap[gc1_0]? = some (.cells #[.int .i64 a1_0, .int .i64 a1_1, .int .i64 a1_2, .int .i64 a1_3, .bool a1_4] 50 (0, 0))) (h : slices_ContainsFunc_TlbEntry_at_impl_TlbFault_c1.f k l0 a1_0 a1_1 a1_2 a1_3 a1_4 = some r) :
    Calls Try.prog 86 #[.slice A0 l0.length c0, .func (.func 87) #[] #[.pointer (some ⟨gc1_0, 0, none⟩)]] w fun e w' => e = .returned (.bool r) ∧ Below w.heap.size w w' := by
  have HR0 := Aside0.mk hr0
  have HC0 := Aside0.mk hc0
  clear hr0 hc0
  have BK48 := Aside0.mk hb1_0
  clear hb1_0
  have HB := Aside0.mk (Below.refl w.heap.size w)
  have H : ((slices_IndexFunc_TlbEntry_at_impl_TlbFault_c1.f k l0 a1_0 a1_1 a1_2 a1_3 a1_4).bind fun t150 => (some (decide (t150 ≥ 0)))) = some r := h
  clear h
  replace H := Option.bind_eq_some_iff.mp H
  obtain ⟨t150, A30, H⟩ := H
  replace H : (some (decide (t150 ≥ 0))) = some r := H
  have A3 := Aside0.mk A30
  clear A30
  obtain rfl := Option.some.inj H
  go_enter Try.func86, Try.ntmps86
  go_wp2_with (first | ((with_reducible refine gate_callee (f := 61) rfl ?_); refine goesL_ (some 7) rfl rfl Try.func61 (by kernel_rfl) rfl #[.slice A0 l0.length c0, .func (.func 87) #[] #[.pointer (some ⟨gc1_0, 0, none⟩)]] rfl (by (try simp only [List.map_toArray, List.map_cons, List.map_nil]); first | done | rfl | (simp only [List.length_drop, List.length_take]; rfl)) ?_; (with_reducible refine (slices_IndexFunc_TlbEntry_at_impl_TlbFault_c1.calls k _ _ l0 gc1_0 a1_0 a1_1 a1_2 a1_3 a1_4 t150 _ ?side1 ?side2 ?side3 A3.out).mono ?_); (case side1 => repeat (first | exact HR0.out | (with_reducible refine Kd.C_alloc ?_ _) | (with_reducible refine Kd.C_drewN ?_ _) | (with_reducible refine Kd.C_drew ?_))); (case side2 => exact HC0.out); (case side3 => exact (by (with_reducible repeat (first | refine blk_drewN ?_ _ | refine blk_drew ?_ | refine blk_alloc ?_ _)); exact BK48.out)); rintro e w4 ⟨rfl, hb⟩; refine ⟨_, rfl, ?_⟩; have n0_ := Aside0.mk (blk_below (g := gc1_0) (o := .cells #[.int .i64 a1_0, .int .i64 a1_1, .int .i64 a1_2, .int .i64 a1_3, .bool a1_4] 50 (0, 0)) (by (with_reducible repeat (first | refine blk_drewN ?_ _ | refine blk_drew ?_ | refine blk_alloc ?_ _)); exact BK48.out) hb); have n1_ := Aside0.mk (below_step (by repeat (first | (with_reducible first | exact HB.out | apply below_alloc | apply pw_below_drewN | apply below_drew1 | refine below_set ?_ GE48.out) | exact HB.out)) hb); clear BK48; clear HB; have BK48 := n0_; have HB := n1_; clear n0_ n1_; (try clear hb); (try clear hb2); (try clear hk); (try clear hi)))
  go_ret
  exact ⟨by first | rfl | (simp [errW_none, errW_some] <;> rfl) | (simp [*, errW_none, errW_some] <;> rfl), by repeat (first | (with_reducible first | exact HB.out | apply below_alloc | apply pw_below_drewN | apply below_drew1 | refine below_set ?_ GE48.out) | exact HB.out)⟩

/-! ### impl_TlbFault: function 24 -/
mutual
def impl_TlbFault.j0 : Nat → Bool → List (S50) → Int → Option (Int)
  | 0, _, _, _ => none
  | k + 1, x14, x152000, x152001 => if x14 = true then (some 1) else (impl_TlbFault.l0 k x152000 (x152000.length : Int) 0 x152000 x152001)
def impl_TlbFault.l0 : Nat → List (S50) → Int → Int → List (S50) → Int → Option (Int)
  | 0, _, _, _, _, _ => none
  | k + 1, x16, x17, x18, x152000, x152001 => if x18 < x17 then (if 0 ≤ x18 then (if x18 < (x16.length : Int) then ((impl_ytlbEntryOk.f ((rd_T50 x16 x18).f0) ((rd_T50 x16 x18).f1) ((rd_T50 x16 x18).f2) ((rd_T50 x16 x18).f3) ((rd_T50 x16 x18).f4)).bind fun t155 => (if t155 = true then (if x18 ≤ (x152000.length : Int) then ((slices_ContainsFunc_TlbEntry_at_impl_TlbFault_c1.f k (x152000.take (x18 : Int).toNat) ((rd_T50 x16 x18).f0) ((rd_T50 x16 x18).f1) ((rd_T50 x16 x18).f2) ((rd_T50 x16 x18).f3) ((rd_T50 x16 x18).f4)).bind fun t160 => (if t160 = true then (some 1) else (impl_TlbFault.l0 k x16 x17 (wrap64 (x18 + 1)) x152000 x152001))) else (none)) else (some 1))) else (none)) else (none)) else (some 0)
end
def impl_TlbFault.f (k : Nat) (l0_0 : List (S50)) (a0_1 : Int) : Option (Int) := if (l0_0.length : Int) > 16 then (impl_TlbFault.j0 k true l0_0 a0_1) else ((impl_yin.f a0_1 0 15).bind fun t152 => (impl_TlbFault.j0 k (!t152) l0_0 a0_1))
theorem impl_TlbFault.mono_l : ∀ k, (∀ y0 y1 y2, LeO (impl_TlbFault.j0 k y0 y1 y2) (impl_TlbFault.j0 (k + 1) y0 y1 y2)) ∧ (∀ y0 y1 y2 y3 y4, LeO (impl_TlbFault.l0 k y0 y1 y2 y3 y4) (impl_TlbFault.l0 (k + 1) y0 y1 y2 y3 y4))
  | 0 => ⟨fun _ _ _ r h => by simp [impl_TlbFault.j0] at h, fun _ _ _ _ _ r h => by simp [impl_TlbFault.l0] at h⟩
  | k + 1 => by
    obtain ⟨ih0, ih1⟩ := impl_TlbFault.mono_l k
    refine ⟨?_, ?_⟩
    · intro y0 y1 y2
      unfold impl_TlbFault.j0
      repeat' first
      | (with_reducible exact ih0 _ _ _)
      | (with_reducible exact ih1 _ _ _ _ _)
      | (with_reducible exact slices_ContainsFunc_TlbEntry_at_impl_TlbFault_c1.mono _ _ _ _ _ _ _)
      | (with_reducible exact LeO.refl _)
      | (with_reducible exact LeO.none _)
      | (with_reducible refine LeO.ite ?_ ?_)
      | (with_reducible refine LeO.bind ?_ (fun _ => ?_))
      | exact ih0 _ _ _
      | exact ih1 _ _ _ _ _
      | exact slices_ContainsFunc_TlbEntry_at_impl_TlbFault_c1.mono _ _ _ _ _ _ _
      | exact LeO.none _
      | refine LeO.ite ?_ ?_
      | refine LeO.bind ?_ (fun _ => ?_)
    · intro y0 y1 y2 y3 y4
      unfold impl_TlbFault.l0
      repeat' first
      | (with_reducible exact ih0 _ _ _)
      | (with_reducible exact ih1 _ _ _ _ _)
      | (with_reducible exact slices_ContainsFunc_TlbEntry_at_impl_TlbFault_c1.mono _ _ _ _ _ _ _)
      | (with_reducible exact LeO.refl _)
      | (with_reducible exact LeO.none _)
      | (with_reducible refine LeO.ite ?_ ?_)
      | (with_reducible refine LeO.bind ?_ (fun _ => ?_))
      | exact ih0 _ _ _
      | exact ih1 _ _ _ _ _
      | exact slices_ContainsFunc_TlbEntry_at_impl_TlbFault_c1.mono _ _ _ _ _ _ _
      | exact LeO.none _
      | refine LeO.ite ?_ ?_
      | refine LeO.bind ?_ (fun _ => ?_)
theorem impl_TlbFault.mono : ∀ a0 a1 k, LeO (impl_TlbFault.f k a0 a1) (impl_TlbFault.f (k + 1) a0 a1) := by
  intro a0 a1 k
  obtain ⟨ih0, ih1⟩ := impl_TlbFault.mono_l k
  unfold impl_TlbFault.f
  repeat' first
      | (with_reducible exact ih0 _ _ _)
      | (with_reducible exact ih1 _ _ _ _ _)
      | (with_reducible exact slices_ContainsFunc_TlbEntry_at_impl_TlbFault_c1.mono _ _ _ _ _ _ _)
      | (with_reducible exact LeO.refl _)
      | (with_reducible exact LeO.none _)
      | (with_reducible refine LeO.ite ?_ ?_)
      | (with_reducible refine LeO.bind ?_ (fun _ => ?_))
      | exact ih0 _ _ _
      | exact ih1 _ _ _ _ _
      | exact slices_ContainsFunc_TlbEntry_at_impl_TlbFault_c1.mono _ _ _ _ _ _ _
      | exact LeO.none _
      | refine LeO.ite ?_ ?_
      | refine LeO.bind ?_ (fun _ => ?_)
set_option maxHeartbeats 8000000 in
set_option maxRecDepth 100000 in
theorem impl_TlbFault.calls (k : Nat) (A0_0 : Option Addr) (c0_0 : Nat) (l0_0 : List (S50)) (a0_1 : Int) (r : Int) (w : World) (hr0_0 : Kd.C k50 w A0_0 l0_0.length l0_0) (hc0_0 : l0_0.length ≤ c0_0) (h : impl_TlbFault.f k l0_0 a0_1 = some r) :
    Calls Try.prog 24 #[.agg #[.slice A0_0 l0_0.length c0_0, .int .i64 a0_1]] w fun e w' => e = .returned (.int .i64 r) ∧ Below w.heap.size w w' := by
  have hu31 := Try.underlying31
  have hu50 := Try.underlying50
  have HR0_0 := Aside0.mk hr0_0
  have HC0_0 := Aside0.mk hc0_0
  clear hr0_0 hc0_0
  have HB := Aside0.mk (Below.refl w.heap.size w)
  have H : (if (l0_0.length : Int) > 16 then (impl_TlbFault.j0 k true l0_0 a0_1) else ((impl_yin.f a0_1 0 15).bind fun t152 => (impl_TlbFault.j0 k (!t152) l0_0 a0_1))) = some r := h
  clear h
  have HC2 := Aside0.mk H
  clear H
  go_enter Try.func24, Try.ntmps24
  go_upto_region 1 with (first | ((with_reducible refine gate_dst (N := 1) rfl ?_); refine box_event ?hg (N := 1) ?hd (cs := #[.slice A0_0 l0_0.length c0_0, .int .i64 a0_1]) (t := 31) ?hr ?_; (case hd => rfl); (case hg => rfl); (case hr => first | (go_simp; done) | (go_simp; rfl)); intro gb151 hg w3 hbox hb; have n0_ := Aside0.mk (below_step (by repeat (first | (with_reducible first | exact HB.out | apply below_alloc | apply pw_below_drewN | apply below_drew1) | exact HB.out)) hb); have n1_ := Aside0.mk (hbox); have n2_ := Aside0.mk ((by rw [hg]; exact (below_size (by repeat (first | (with_reducible first | exact HB.out | apply below_alloc | apply pw_below_drewN | apply below_drew1) | exact HB.out))) : w.heap.size ≤ gb151)); have n3_ := Aside0.mk ((by rw [hg]; exact (below_size (by repeat (first | (with_reducible first | exact HB.out | apply below_alloc | apply pw_below_drewN | apply below_drew1) | exact HB.out))) : w.heap.size ≤ gb151)); clear HB; have HB := n0_; have BK151 := n1_; have GW151 := n2_; have GE151 := n3_; clear n0_ n1_ n2_ n3_; clear hb hbox hg))
  (try simp only [Act.put, List.setIfInBounds_toArray, List.set_cons_zero, List.set_cons_succ])
  go_cut [14] (fun v14 wc => ∃ (kq : Nat) (x14_1 : Bool), v14 = .bool x14_1 ∧ Aside0 (impl_TlbFault.j0 kq x14_1 l0_0 a0_1 = some r) ∧ Aside0 (kq ≤ k) ∧ Aside0 (wc.heap[gb151]? = some (.cells #[(.slice A0_0 l0_0.length c0_0), .int .i64 a0_1] 31 (0, 0))) ∧ Aside0 (Below w.heap.size w wc))
  case first =>
    have H := HC2.out
    clear HC2
    by_cases c4 : (l0_0.length : Int) > 16
    · rw [if_pos c4] at H
      have c4b0 : decide (16 < (l0_0.length : Int)) = true := decide_eq_true c4
      have c4b1 : decide (16 < l0_0.length) = true := decide_eq_true (by omega)
      clear c4
      (first | rw [c4b0] | (simp only [i64_w, i32_w]; rw [c4b0]) | skip)
      have H' := Aside0.mk H
      clear H
      have hcz5_0 : w3.cell? ⟨gb151, 0, none⟩ = some (.slice A0_0 l0_0.length c0_0) := (blk_cell BK151.out 0).trans rfl
      have hcz5_1 : w3.cell? ⟨gb151, 1, none⟩ = some (.int .i64 a0_1) := (blk_cell BK151.out 1).trans rfl
      have hfz5_0 := blk_frozen BK151.out 0
      have hfz5_1 := blk_frozen BK151.out 1
      go_wp2
      go_meet
      case rel => exact ⟨_, (true), (by first | rfl | (simp; done) | (simp [*]; done)), H', ⟨by first | omega | exact Nat.le_refl _⟩, ⟨by (with_reducible repeat (first | refine blk_drewN ?_ _ | refine blk_drew ?_ | refine blk_alloc ?_ _)); exact BK151.out⟩, ⟨by repeat (first | (with_reducible first | exact HB.out | apply below_alloc | apply pw_below_drewN | apply below_drew1 | refine below_set ?_ GE151.out) | exact HB.out)⟩⟩
    · rw [if_neg c4] at H
      have c4b0 : decide (16 < (l0_0.length : Int)) = false := decide_eq_false c4
      have c4b1 : decide (16 < l0_0.length) = false := decide_eq_false (by omega)
      clear c4
      (first | rw [c4b0] | (simp only [i64_w, i32_w]; rw [c4b0]) | skip)
      replace H := Option.bind_eq_some_iff.mp H
      obtain ⟨t152, A60, H⟩ := H
      replace H : (impl_TlbFault.j0 k (!t152) l0_0 a0_1) = some r := H
      have A6 := Aside0.mk A60
      clear A60
      have H' := Aside0.mk H
      clear H
      have hcz7_0 : w3.cell? ⟨gb151, 0, none⟩ = some (.slice A0_0 l0_0.length c0_0) := (blk_cell BK151.out 0).trans rfl
      have hcz7_1 : w3.cell? ⟨gb151, 1, none⟩ = some (.int .i64 a0_1) := (blk_cell BK151.out 1).trans rfl
      have hfz7_0 := blk_frozen BK151.out 0
      have hfz7_1 := blk_frozen BK151.out 1
      go_wp2_with (first | (go_at_call 84; (with_reducible refine (impl_yin.calls a0_1 0 15 t152 _ A6.out).mono ?_); rintro e w' ⟨rfl, ⟨nd, rfl⟩⟩))
      go_meet
      case rel => exact ⟨_, (!t152), (by first | rfl | (simp; done) | (simp [*]; done)), H', ⟨by first | omega | exact Nat.le_refl _⟩, ⟨by (with_reducible repeat (first | refine blk_drewN ?_ _ | refine blk_drew ?_ | refine blk_alloc ?_ _)); exact BK151.out⟩, ⟨by repeat (first | (with_reducible first | exact HB.out | apply below_alloc | apply pw_below_drewN | apply below_drew1 | refine below_set ?_ GE151.out) | exact HB.out)⟩⟩
  case rest =>
    clear HC2
    try clear c2
    try clear p2
    try clear c4
    try clear c4b0
    try clear c4b1
    try clear hcz5_0
    try clear hcz5_1
    try clear hcz7_0
    try clear hcz7_1
    try clear hfz5_0
    try clear hfz5_1
    try clear hfz7_0
    try clear hfz7_1
    obtain ⟨kq, x14_1, rfl, HA, HJ1, BK151, HB⟩ := hcut
    cases kq with
    | zero => exact absurd HA.out (by simp [impl_TlbFault.j0])
    | succ kj1 =>
      have H := HA.out
      clear HA
      simp only [impl_TlbFault.j0] at H
      by_cases c8 : x14_1 = true
      · subst c8
        have H1 : (some 1) = some r := by rw [if_pos rfl] at H; exact H
        clear H
        have H := H1
        clear H1
        obtain rfl := Option.some.inj H
        go_wp2
        go_ret
        exact ⟨by first | rfl | (simp [errW_none, errW_some] <;> rfl) | (simp [*, errW_none, errW_some] <;> rfl), by repeat (first | (with_reducible first | exact HB.out | apply below_alloc | apply pw_below_drewN | apply below_drew1 | refine below_set ?_ GE151.out) | exact HB.out)⟩
      · replace c8 := Bool.eq_false_iff.mpr c8
        subst c8
        have H1 : (impl_TlbFault.l0 kj1 l0_0 (l0_0.length : Int) 0 l0_0 a0_1) = some r := by rw [if_neg (show ¬ (false = true) by decide)] at H; exact H
        clear H
        have H := H1
        clear H1
        have H' := Aside0.mk H
        clear H
        have hcz9_0 : wc.cell? ⟨gb151, 0, none⟩ = some (.slice A0_0 l0_0.length c0_0) := (blk_cell BK151.out 0).trans rfl
        have hcz9_1 : wc.cell? ⟨gb151, 1, none⟩ = some (.int .i64 a0_1) := (blk_cell BK151.out 1).trans rfl
        have hfz9_0 := blk_frozen BK151.out 0
        have hfz9_1 := blk_frozen BK151.out 1
        go_wp2
        go_loopg [18] kj1 (fun kq v18 w' => ∃ (x18_2 : Int), v18 = .int .i64 x18_2 ∧ Aside0 (impl_TlbFault.l0 kq l0_0 (l0_0.length : Int) x18_2 l0_0 a0_1 = some r) ∧ Aside0 (kq ≤ kj1) ∧ Aside0 (w'.heap[gb151]? = some (.cells #[(.slice A0_0 l0_0.length c0_0), .int .i64 a0_1] 31 (0, 0))) ∧ Aside0 (Below w.heap.size w w'))
        case atStart => exact ⟨(0), (by first | rfl | (simp; done) | (simp [*]; done)), H', ⟨Nat.le_refl _⟩, ⟨by (with_reducible repeat (first | refine blk_drewN ?_ _ | refine blk_drew ?_ | refine blk_alloc ?_ _)); exact BK151.out⟩, ⟨by repeat (first | (with_reducible first | exact HB.out | apply below_alloc | apply pw_below_drewN | apply below_drew1 | refine below_set ?_ GE151.out) | exact HB.out)⟩⟩
        case round =>
          clear H'
          try clear c2
          try clear p2
          try clear c4
          try clear c4b0
          try clear c4b1
          try clear c8
          try clear hcz5_0
          try clear hcz5_1
          try clear hcz7_0
          try clear hcz7_1
          try clear hcz9_0
          try clear hcz9_1
          try clear hfz5_0
          try clear hfz5_1
          try clear hfz7_0
          try clear hfz7_1
          try clear hfz9_0
          try clear hfz9_1
          try clear p2
          obtain ⟨x18_2, rfl, HA, HK2, BK151, HB⟩ := hrel
          cases gk with
          | zero => exact absurd HA.out (by simp [impl_TlbFault.l0])
          | succ k2 =>
            have H := HA.out
            clear HA
            simp only [impl_TlbFault.l0] at H
            by_cases c10 : x18_2 < (l0_0.length : Int)
            · rw [if_pos c10] at H
              have c10b0 : decide (x18_2 < (l0_0.length : Int)) = true := decide_eq_true c10
              clear c10
              by_cases c11 : 0 ≤ x18_2
              · rw [if_pos c11] at H
                have c11b0 : decide (0 ≤ x18_2) = true := decide_eq_true c11
                clear c11
                by_cases c12 : x18_2 < (l0_0.length : Int)
                · rw [if_pos c12] at H
                  have c12b0 : decide (x18_2 < (l0_0.length : Int)) = true := decide_eq_true c12
                  clear c12
                  replace H := Option.bind_eq_some_iff.mp H
                  obtain ⟨t155, A130, H⟩ := H
                  replace H : (if t155 = true then (if x18_2 ≤ (l0_0.length : Int) then ((slices_ContainsFunc_TlbEntry_at_impl_TlbFault_c1.f k2 (l0_0.take (x18_2 : Int).toNat) ((rd_T50 l0_0 x18_2).f0) ((rd_T50 l0_0 x18_2).f1) ((rd_T50 l0_0 x18_2).f2) ((rd_T50 l0_0 x18_2).f3) ((rd_T50 l0_0 x18_2).f4)).bind fun t160 => (if t160 = true then (some 1) else (impl_TlbFault.l0 k2 l0_0 (l0_0.length : Int) (wrap64 (x18_2 + 1)) l0_0 a0_1))) else (none)) else (some 1)) = some r := H
                  have A13 := Aside0.mk A130
                  clear A130
                  by_cases c14 : t155 = true
                  · subst c14
                    have H1 : (if x18_2 ≤ (l0_0.length : Int) then ((slices_ContainsFunc_TlbEntry_at_impl_TlbFault_c1.f k2 (l0_0.take (x18_2 : Int).toNat) ((rd_T50 l0_0 x18_2).f0) ((rd_T50 l0_0 x18_2).f1) ((rd_T50 l0_0 x18_2).f2) ((rd_T50 l0_0 x18_2).f3) ((rd_T50 l0_0 x18_2).f4)).bind fun t160 => (if t160 = true then (some 1) else (impl_TlbFault.l0 k2 l0_0 (l0_0.length : Int) (wrap64 (x18_2 + 1)) l0_0 a0_1))) else (none)) = some r := by rw [if_pos rfl] at H; exact H
                    clear H
                    have H := H1
                    clear H1
                    have c15b0 := eq_true (of_decide_eq_true (by first | (with_reducible assumption) | assumption) : 0 ≤ x18_2)
                    by_cases c16 : x18_2 ≤ (l0_0.length : Int)
                    · rw [if_pos c16] at H
                      have c16b0 := eq_true c16
                      have c16b1 : decide (x18_2 ≤ (l0_0.length : Int)) = true := decide_eq_true c16
                      clear c16
                      obtain ⟨y156, hy156⟩ : ∃ y_ : List (S50), y_ = (l0_0.take (x18_2 : Int).toNat) := ⟨_, rfl⟩
                      replace H : ((slices_ContainsFunc_TlbEntry_at_impl_TlbFault_c1.f k2 y156 ((rd_T50 l0_0 x18_2).f0) ((rd_T50 l0_0 x18_2).f1) ((rd_T50 l0_0 x18_2).f2) ((rd_T50 l0_0 x18_2).f3) ((rd_T50 l0_0 x18_2).f4)).bind fun t160 => (if t160 = true then (some 1) else (impl_TlbFault.l0 k2 l0_0 (l0_0.length : Int) (wrap64 (x18_2 + 1)) l0_0 a0_1))) = some r := by first | (rw [hy156]; with_reducible exact H) | (have H2_ := (Option.bind_some _ _).symm.trans H; rw [hy156]; with_reducible exact H2_) | (have H2_ := (Option.bind_some _ _).symm.trans H; with_reducible exact H2_) | with_reducible exact H | (rw [hy156]; exact H) | exact H
                      have Ny156 := Aside0.mk hy156
                      clear hy156
                      replace H := Option.bind_eq_some_iff.mp H
                      obtain ⟨t160, A170, H⟩ := H
                      replace H : (if t160 = true then (some 1) else (impl_TlbFault.l0 k2 l0_0 (l0_0.length : Int) (wrap64 (x18_2 + 1)) l0_0 a0_1)) = some r := H
                      have A17 := Aside0.mk A170
                      clear A170
                      by_cases c18 : t160 = true
                      · subst c18
                        have H1 : (some 1) = some r := by rw [if_pos rfl] at H; exact H
                        clear H
                        have H := H1
                        clear H1
                        obtain rfl := Option.some.inj H
                        have p153 : 0 ≤ (x18_2 : Int) := of_decide_eq_true (by first | (with_reducible assumption) | assumption)
                        have q153 : x18_2 < (l0_0.length : Int) := of_decide_eq_true (by first | (with_reducible assumption) | assumption)
                        obtain ⟨ad153, e153, hx153_0, hx153_1, hx153_2, hx153_3, hx153_4⟩ := at_T50 HR0_0.out x18_2 p153 q153
                        cases e153
                        replace hx153_0 := (HB.out.cell (World.block_lt_of_cell? w _ hx153_0)).trans hx153_0
                        replace hx153_1 := (HB.out.cell (World.block_lt_of_cell? w _ hx153_1)).trans hx153_1
                        replace hx153_2 := (HB.out.cell (World.block_lt_of_cell? w _ hx153_2)).trans hx153_2
                        replace hx153_3 := (HB.out.cell (World.block_lt_of_cell? w _ hx153_3)).trans hx153_3
                        replace hx153_4 := (HB.out.cell (World.block_lt_of_cell? w _ hx153_4)).trans hx153_4
                        replace p153 := eq_true p153
                        replace q153 := eq_true q153
                        go_wp2_with (first | ((with_reducible refine gate_dst (N := 4) rfl ?_); refine box_event ?hg (N := 4) ?hd (cs := #[.int .i64 0, .int .i64 0, .int .i64 0, .int .i64 0, .bool false]) (t := 50) ?hr ?_; (case hd => rfl); (case hg => rfl); (case hr => first | (go_simp; done) | (go_simp; rfl)); intro gb154 hg w19 hbox hb; have n0_ := Aside0.mk (blk_below (g := gb151) (o := .cells #[.slice (some ad153) l0_0.length c0_0, .int .i64 a0_1] 31 (0, 0)) (by (with_reducible repeat (first | refine blk_drewN ?_ _ | refine blk_drew ?_ | refine blk_alloc ?_ _)); exact BK151.out) hb); have n1_ := Aside0.mk (below_step (by repeat (first | (with_reducible first | exact HB.out | apply below_alloc | apply pw_below_drewN | apply below_drew1 | refine below_set ?_ GE151.out) | exact HB.out)) hb); have n2_ := Aside0.mk (hbox); have n3_ := Aside0.mk ((by rw [hg]; exact (below_size (by repeat (first | (with_reducible first | exact HB.out | apply below_alloc | apply pw_below_drewN | apply below_drew1 | refine below_set ?_ GE151.out) | exact HB.out))) : w.heap.size ≤ gb154)); have n4_ := Aside0.mk ((by rw [hg]; exact (below_size (by repeat (first | (with_reducible first | exact HB.out | apply below_alloc | apply pw_below_drewN | apply below_drew1 | refine below_set ?_ GE151.out) | exact HB.out))) : w.heap.size ≤ gb154)); have n5_ := Aside0.mk ((by rw [hg]; exact Nat.ne_of_lt (blk_lt (g := gb151) (o := .cells #[.slice (some ad153) l0_0.length c0_0, .int .i64 a0_1] 31 (0, 0)) (by (with_reducible repeat (first | refine blk_drewN ?_ _ | refine blk_drew ?_ | refine blk_alloc ?_ _)); exact BK151.out)) : gb151 ≠ gb154)); have n6_ := Aside0.mk ((by rw [hg]; exact Nat.ne_of_gt (blk_lt (g := gb151) (o := .cells #[.slice (some ad153) l0_0.length c0_0, .int .i64 a0_1] 31 (0, 0)) (by (with_reducible repeat (first | refine blk_drewN ?_ _ | refine blk_drew ?_ | refine blk_alloc ?_ _)); exact BK151.out)) : gb154 ≠ gb151)); clear BK151; clear HB; have BK151 := n0_; have HB := n1_; have BK154 := n2_; have GW154 := n3_; have GE154 := n4_; have NB151_154 := n5_; have NB154_151 := n6_; clear n0_ n1_ n2_ n3_ n4_ n5_ n6_; clear hb hbox hg; have hnb20 := NB154_151.out; have hnc20 := NB151_154.out; have hcz21_0 : w19.cell? ⟨gb154, 0, none⟩ = some (.int .i64 0) := (blk_cell BK154.out 0).trans rfl; have hcz21_1 : w19.cell? ⟨gb154, 1, none⟩ = some (.int .i64 0) := (blk_cell BK154.out 1).trans rfl; have hcz21_2 : w19.cell? ⟨gb154, 2, none⟩ = some (.int .i64 0) := (blk_cell BK154.out 2).trans rfl; have hcz21_3 : w19.cell? ⟨gb154, 3, none⟩ = some (.int .i64 0) := (blk_cell BK154.out 3).trans rfl; have hcz21_4 : w19.cell? ⟨gb154, 4, none⟩ = some (.bool false) := (blk_cell BK154.out 4).trans rfl; have hfz21_0 := blk_frozen BK154.out 0; have hfz21_1 := blk_frozen BK154.out 1; have hfz21_2 := blk_frozen BK154.out 2; have hfz21_3 := blk_frozen BK154.out 3; have hfz21_4 := blk_frozen BK154.out 4) | ((with_reducible refine gate_callee (f := 85) rfl ?_); refine goesL_ (some 24) rfl rfl Try.func85 (by kernel_rfl) rfl #[.agg #[.int .i64 ((rd_T50 l0_0 x18_2).f0), .int .i64 ((rd_T50 l0_0 x18_2).f1), .int .i64 ((rd_T50 l0_0 x18_2).f2), .int .i64 ((rd_T50 l0_0 x18_2).f3), .bool ((rd_T50 l0_0 x18_2).f4)]] rfl (by (try simp only [List.map_toArray, List.map_cons, List.map_nil]); first | done | rfl | (simp only [List.length_drop, List.length_take]; rfl)) ?_; (with_reducible refine (impl_ytlbEntryOk.calls ((rd_T50 l0_0 x18_2).f0) ((rd_T50 l0_0 x18_2).f1) ((rd_T50 l0_0 x18_2).f2) ((rd_T50 l0_0 x18_2).f3) ((rd_T50 l0_0 x18_2).f4) true _ A13.out).mono ?_); rintro e w22 ⟨rfl, hb⟩; refine ⟨_, rfl, ?_⟩; have n0_ := Aside0.mk (blk_below (g := gb151) (o := .cells #[.slice (some ad153) l0_0.length c0_0, .int .i64 a0_1] 31 (0, 0)) (by (with_reducible repeat (first | refine blk_drewN ?_ _ | refine blk_drew ?_ | refine blk_alloc ?_ _)); refine blk_far ?_ NB151_154.out _; (with_reducible repeat (first | refine blk_drewN ?_ _ | refine blk_drew ?_ | refine blk_alloc ?_ _)); refine blk_far ?_ NB151_154.out _; (with_reducible repeat (first | refine blk_drewN ?_ _ | refine blk_drew ?_ | refine blk_alloc ?_ _)); refine blk_far ?_ NB151_154.out _; (with_reducible repeat (first | refine blk_drewN ?_ _ | refine blk_drew ?_ | refine blk_alloc ?_ _)); refine blk_far ?_ NB151_154.out _; (with_reducible repeat (first | refine blk_drewN ?_ _ | refine blk_drew ?_ | refine blk_alloc ?_ _)); refine blk_far ?_ NB151_154.out _; (with_reducible repeat (first | refine blk_drewN ?_ _ | refine blk_drew ?_ | refine blk_alloc ?_ _)); exact BK151.out) hb); have n1_ := Aside0.mk (blk_below (g := gb154) (o := .cells #[.int .i64 ((rd_T50 l0_0 x18_2).f0), .int .i64 ((rd_T50 l0_0 x18_2).f1), .int .i64 ((rd_T50 l0_0 x18_2).f2), .int .i64 ((rd_T50 l0_0 x18_2).f3), .bool ((rd_T50 l0_0 x18_2).f4)] 50 (0, 0)) (by (with_reducible repeat (first | refine blk_drewN ?_ _ | refine blk_drew ?_ | refine blk_alloc ?_ _)); refine blk_put (cs := #[.int .i64 ((rd_T50 l0_0 x18_2).f0), .int .i64 ((rd_T50 l0_0 x18_2).f1), .int .i64 ((rd_T50 l0_0 x18_2).f2), .int .i64 ((rd_T50 l0_0 x18_2).f3), .bool false]) ?_ 4 _ rfl; (with_reducible repeat (first | refine blk_drewN ?_ _ | refine blk_drew ?_ | refine blk_alloc ?_ _)); refine blk_put (cs := #[.int .i64 ((rd_T50 l0_0 x18_2).f0), .int .i64 ((rd_T50 l0_0 x18_2).f1), .int .i64 ((rd_T50 l0_0 x18_2).f2), .int .i64 0, .bool false]) ?_ 3 _ rfl; (with_reducible repeat (first | refine blk_drewN ?_ _ | refine blk_drew ?_ | refine blk_alloc ?_ _)); refine blk_put (cs := #[.int .i64 ((rd_T50 l0_0 x18_2).f0), .int .i64 ((rd_T50 l0_0 x18_2).f1), .int .i64 0, .int .i64 0, .bool false]) ?_ 2 _ rfl; (with_reducible repeat (first | refine blk_drewN ?_ _ | refine blk_drew ?_ | refine blk_alloc ?_ _)); refine blk_put (cs := #[.int .i64 ((rd_T50 l0_0 x18_2).f0), .int .i64 0, .int .i64 0, .int .i64 0, .bool false]) ?_ 1 _ rfl; (with_reducible repeat (first | refine blk_drewN ?_ _ | refine blk_drew ?_ | refine blk_alloc ?_ _)); refine blk_put (cs := #[.int .i64 0, .int .i64 0, .int .i64 0, .int .i64 0, .bool false]) ?_ 0 _ rfl; (with_reducible repeat (first | refine blk_drewN ?_ _ | refine blk_drew ?_ | refine blk_alloc ?_ _)); exact BK154.out) hb); have n2_ := Aside0.mk (below_step (by repeat (first | (with_reducible first | exact HB.out | apply below_alloc | apply pw_below_drewN | apply below_drew1 | refine below_set ?_ GE151.out | refine below_set ?_ GE154.out) | exact HB.out)) hb); clear BK151; clear BK154; clear HB; have BK151 := n0_; have BK154 := n1_; have HB := n2_; clear n0_ n1_ n2_; (try clear hb); (try clear hb2); (try clear hk); (try clear hi); have hcz23_0 : w22.cell? ⟨gb151, 0, none⟩ = some (.slice (some ad153) l0_0.length c0_0) := (blk_cell BK151.out 0).trans rfl; have hcz23_1 : w22.cell? ⟨gb151, 1, none⟩ = some (.int .i64 a0_1) := (blk_cell BK151.out 1).trans rfl; have hfz23_0 := blk_frozen BK151.out 0; have hfz23_1 := blk_frozen BK151.out 1; have q24 : (x18_2 : Int) ≤ ((l0_0.length : Int) : Int) := of_decide_eq_true (by first | (with_reducible assumption) | assumption); obtain ⟨i024, hi024, _, hsz24, _⟩ := info_parts info50; have hroom24 : l0_0.length ≤ c0_0 := HC0_0.out; have hC24 : Kd.C k50 _ (some ad153) l0_0.length l0_0 := HR0_0.out; have hcut24 := cut_to (P := Try.prog) 29 50 .i64 Try.underlying29 hi024 (some ad153) l0_0.length c0_0 x18_2 (of_decide_eq_true (by first | (with_reducible assumption) | assumption)) q24 hroom24; have hr24 := Kd.C_take (m := (x18_2 : Int).toNat) hC24 (by omega); have hy24 : y156.length = (x18_2 : Int).toNat := (by rw [Ny156.out, List.length_take]; omega); rw [← Ny156.out] at hr24; rw [← hy24] at hcut24; have HR159 := Aside0.mk hr24; have HC159 := Aside0.mk (show y156.length ≤ c0_0 from by omega); clear hr24 hC24 hroom24 hi024 hsz24; have KY24 := Aside0.mk hy24; clear hy24; replace q24 := eq_true q24) | (go_at_call 86; (with_reducible refine (slices_ContainsFunc_TlbEntry_at_impl_TlbFault_c1.calls k2 _ _ y156 gb154 ((rd_T50 l0_0 x18_2).f0) ((rd_T50 l0_0 x18_2).f1) ((rd_T50 l0_0 x18_2).f2) ((rd_T50 l0_0 x18_2).f3) ((rd_T50 l0_0 x18_2).f4) true _ ?side1 ?side2 ?side3 A17.out).mono ?_); (case side1 => repeat (first | exact (Kd.C_below HR159.out HB.out) | (with_reducible refine Kd.C_alloc ?_ _) | (with_reducible refine Kd.C_drewN ?_ _) | (with_reducible refine Kd.C_drew ?_))); (case side2 => exact HC159.out); (case side3 => exact (by (with_reducible repeat (first | refine blk_drewN ?_ _ | refine blk_drew ?_ | refine blk_alloc ?_ _)); exact BK154.out)); rintro e w25 ⟨rfl, hb⟩; have n0_ := Aside0.mk (blk_below (g := gb151) (o := .cells #[.slice (some ad153) l0_0.length c0_0, .int .i64 a0_1] 31 (0, 0)) (by (with_reducible repeat (first | refine blk_drewN ?_ _ | refine blk_drew ?_ | refine blk_alloc ?_ _)); exact BK151.out) hb); have n1_ := Aside0.mk (blk_below (g := gb154) (o := .cells #[.int .i64 ((rd_T50 l0_0 x18_2).f0), .int .i64 ((rd_T50 l0_0 x18_2).f1), .int .i64 ((rd_T50 l0_0 x18_2).f2), .int .i64 ((rd_T50 l0_0 x18_2).f3), .bool ((rd_T50 l0_0 x18_2).f4)] 50 (0, 0)) (by (with_reducible repeat (first | refine blk_drewN ?_ _ | refine blk_drew ?_ | refine blk_alloc ?_ _)); exact BK154.out) hb); have n2_ := Aside0.mk (below_step (by repeat (first | (with_reducible first | exact HB.out | apply below_alloc | apply pw_below_drewN | apply below_drew1 | refine below_set ?_ GE151.out | refine below_set ?_ GE154.out) | exact HB.out)) hb); clear BK151; clear BK154; clear HB; have BK151 := n0_; have BK154 := n1_; have HB := n2_; clear n0_ n1_ n2_; (try clear hb); (try clear hb2); (try clear hk); (try clear hi)))
                        go_ret
                        exact ⟨by first | rfl | (simp [errW_none, errW_some] <;> rfl) | (simp [*, errW_none, errW_some] <;> rfl), by repeat (first | (with_reducible first | exact HB.out | apply below_alloc | apply pw_below_drewN | apply below_drew1 | refine below_set ?_ GE151.out | refine below_set ?_ GE154.out) | exact HB.out)⟩
                      · replace c18 := Bool.eq_false_iff.mpr c18
                        subst c18
                        have H1 : (impl_TlbFault.l0 k2 l0_0 (l0_0.length : Int) (wrap64 (x18_2 + 1)) l0_0 a0_1) = some r := by rw [if_neg (show ¬ (false = true) by decide)] at H; exact H
                        clear H
                        have H := H1
                        clear H1
                        have H' := Aside0.mk H
                        clear H
                        have p153 : 0 ≤ (x18_2 : Int) := of_decide_eq_true (by first | (with_reducible assumption) | assumption)
                        have q153 : x18_2 < (l0_0.length : Int) := of_decide_eq_true (by first | (with_reducible assumption) | assumption)
                        obtain ⟨ad153, e153, hx153_0, hx153_1, hx153_2, hx153_3, hx153_4⟩ := at_T50 HR0_0.out x18_2 p153 q153
                        cases e153
                        replace hx153_0 := (HB.out.cell (World.block_lt_of_cell? w _ hx153_0)).trans hx153_0
                        replace hx153_1 := (HB.out.cell (World.block_lt_of_cell? w _ hx153_1)).trans hx153_1
                        replace hx153_2 := (HB.out.cell (World.block_lt_of_cell? w _ hx153_2)).trans hx153_2
                        replace hx153_3 := (HB.out.cell (World.block_lt_of_cell? w _ hx153_3)).trans hx153_3
                        replace hx153_4 := (HB.out.cell (World.block_lt_of_cell? w _ hx153_4)).trans hx153_4
                        replace p153 := eq_true p153
                        replace q153 := eq_true q153
                        go_wp2_with (first | ((with_reducible refine gate_dst (N := 4) rfl ?_); refine box_event ?hg (N := 4) ?hd (cs := #[.int .i64 0, .int .i64 0, .int .i64 0, .int .i64 0, .bool false]) (t := 50) ?hr ?_; (case hd => rfl); (case hg => rfl); (case hr => first | (go_simp; done) | (go_simp; rfl)); intro gb154 hg w26 hbox hb; have n0_ := Aside0.mk (blk_below (g := gb151) (o := .cells #[.slice (some ad153) l0_0.length c0_0, .int .i64 a0_1] 31 (0, 0)) (by (with_reducible repeat (first | refine blk_drewN ?_ _ | refine blk_drew ?_ | refine blk_alloc ?_ _)); exact BK151.out) hb); have n1_ := Aside0.mk (below_step (by repeat (first | (with_reducible first | exact HB.out | apply below_alloc | apply pw_below_drewN | apply below_drew1 | refine below_set ?_ GE151.out) | exact HB.out)) hb); have n2_ := Aside0.mk (hbox); have n3_ := Aside0.mk ((by rw [hg]; exact (below_size (by repeat (first | (with_reducible first | exact HB.out | apply below_alloc | apply pw_below_drewN | apply below_drew1 | refine below_set ?_ GE151.out) | exact HB.out))) : w.heap.size ≤ gb154)); have n4_ := Aside0.mk ((by rw [hg]; exact (below_size (by repeat (first | (with_reducible first | exact HB.out | apply below_alloc | apply pw_below_drewN | apply below_drew1 | refine below_set ?_ GE151.out) | exact HB.out))) : w.heap.size ≤ gb154)); have n5_ := Aside0.mk ((by rw [hg]; exact Nat.ne_of_lt (blk_lt (g := gb151) (o := .cells #[.slice (some ad153) l0_0.length c0_0, .int .i64 a0_1] 31 (0, 0)) (by (with_reducible repeat (first | refine blk_drewN ?_ _ | refine blk_drew ?_ | refine blk_alloc ?_ _)); exact BK151.out)) : gb151 ≠ gb154)); have n6_ := Aside0.mk ((by rw [hg]; exact Nat.ne_of_gt (blk_lt (g := gb151) (o := .cells #[.slice (some ad153) l0_0.length c0_0, .int .i64 a0_1] 31 (0, 0)) (by (with_reducible repeat (first | refine blk_drewN ?_ _ | refine blk_drew ?_ | refine blk_alloc ?_ _)); exact BK151.out)) : gb154 ≠ gb151)); clear BK151; clear HB; have BK151 := n0_; have HB := n1_; have BK154 := n2_; have GW154 := n3_; have GE154 := n4_; have NB151_154 := n5_; have NB154_151 := n6_; clear n0_ n1_ n2_ n3_ n4_ n5_ n6_; clear hb hbox hg; have hnb27 := NB154_151.out; have hnc27 := NB151_154.out; have hcz28_0 : w26.cell? ⟨gb154, 0, none⟩ = some (.int .i64 0) := (blk_cell BK154.out 0).trans rfl; have hcz28_1 : w26.cell? ⟨gb154, 1, none⟩ = some (.int .i64 0) := (blk_cell BK154.out 1).trans rfl; have hcz28_2 : w26.cell? ⟨gb154, 2, none⟩ = some (.int .i64 0) := (blk_cell BK154.out 2).trans rfl; have hcz28_3 : w26.cell? ⟨gb154, 3, none⟩ = some (.int .i64 0) := (blk_cell BK154.out 3).trans rfl; have hcz28_4 : w26.cell? ⟨gb154, 4, none⟩ = some (.bool false) := (blk_cell BK154.out 4).trans rfl; have hfz28_0 := blk_frozen BK154.out 0; have hfz28_1 := blk_frozen BK154.out 1; have hfz28_2 := blk_frozen BK154.out 2; have hfz28_3 := blk_frozen BK154.out 3; have hfz28_4 := blk_frozen BK154.out 4) | ((with_reducible refine gate_callee (f := 85) rfl ?_); refine goesL_ (some 24) rfl rfl Try.func85 (by kernel_rfl) rfl #[.agg #[.int .i64 ((rd_T50 l0_0 x18_2).f0), .int .i64 ((rd_T50 l0_0 x18_2).f1), .int .i64 ((rd_T50 l0_0 x18_2).f2), .int .i64 ((rd_T50 l0_0 x18_2).f3), .bool ((rd_T50 l0_0 x18_2).f4)]] rfl (by (try simp only [List.map_toArray, List.map_cons, List.map_nil]); first | done | rfl | (simp only [List.length_drop, List.length_take]; rfl)) ?_; (with_reducible refine (impl_ytlbEntryOk.calls ((rd_T50 l0_0 x18_2).f0) ((rd_T50 l0_0 x18_2).f1) ((rd_T50 l0_0 x18_2).f2) ((rd_T50 l0_0 x18_2).f3) ((rd_T50 l0_0 x18_2).f4) true _ A13.out).mono ?_); rintro e w29 ⟨rfl, hb⟩; refine ⟨_, rfl, ?_⟩; have n0_ := Aside0.mk (blk_below (g := gb151) (o := .cells #[.slice (some ad153) l0_0.length c0_0, .int .i64 a0_1] 31 (0, 0)) (by (with_reducible repeat (first | refine blk_drewN ?_ _ | refine blk_drew ?_ | refine blk_alloc ?_ _)); refine blk_far ?_ NB151_154.out _; (with_reducible repeat (first | refine blk_drewN ?_ _ | refine blk_drew ?_ | refine blk_alloc ?_ _)); refine blk_far ?_ NB151_154.out _; (with_reducible repeat (first | refine blk_drewN ?_ _ | refine blk_drew ?_ | refine blk_alloc ?_ _)); refine blk_far ?_ NB151_154.out _; (with_reducible repeat (first | refine blk_drewN ?_ _ | refine blk_drew ?_ | refine blk_alloc ?_ _)); refine blk_far ?_ NB151_154.out _; (with_reducible repeat (first | refine blk_drewN ?_ _ | refine blk_drew ?_ | refine blk_alloc ?_ _)); refine blk_far ?_ NB151_154.out _; (with_reducible repeat (first | refine blk_drewN ?_ _ | refine blk_drew ?_ | refine blk_alloc ?_ _)); exact BK151.out) hb); have n1_ := Aside0.mk (blk_below (g := gb154) (o := .cells #[.int .i64 ((rd_T50 l0_0 x18_2).f0), .int .i64 ((rd_T50 l0_0 x18_2).f1), .int .i64 ((rd_T50 l0_0 x18_2).f2), .int .i64 ((rd_T50 l0_0 x18_2).f3), .bool ((rd_T50 l0_0 x18_2).f4)] 50 (0, 0)) (by (with_reducible repeat (first | refine blk_drewN ?_ _ | refine blk_drew ?_ | refine blk_alloc ?_ _)); refine blk_put (cs := #[.int .i64 ((rd_T50 l0_0 x18_2).f0), .int .i64 ((rd_T50 l0_0 x18_2).f1), .int .i64 ((rd_T50 l0_0 x18_2).f2), .int .i64 ((rd_T50 l0_0 x18_2).f3), .bool false]) ?_ 4 _ rfl; (with_reducible repeat (first | refine blk_drewN ?_ _ | refine blk_drew ?_ | refine blk_alloc ?_ _)); refine blk_put (cs := #[.int .i64 ((rd_T50 l0_0 x18_2).f0), .int .i64 ((rd_T50 l0_0 x18_2).f1), .int .i64 ((rd_T50 l0_0 x18_2).f2), .int .i64 0, .bool false]) ?_ 3 _ rfl; (with_reducible repeat (first | refine blk_drewN ?_ _ | refine blk_drew ?_ | refine blk_alloc ?_ _)); refine blk_put (cs := #[.int .i64 ((rd_T50 l0_0 x18_2).f0), .int .i64 ((rd_T50 l0_0 x18_2).f1), .int .i64 0, .int .i64 0, .bool false]) ?_ 2 _ rfl; (with_reducible repeat (first | refine blk_drewN ?_ _ | refine blk_drew ?_ | refine blk_alloc ?_ _)); refine blk_put (cs := #[.int .i64 ((rd_T50 l0_0 x18_2).f0), .int .i64 0, .int .i64 0, .int .i64 0, .bool false]) ?_ 1 _ rfl; (with_reducible repeat (first | refine blk_drewN ?_ _ | refine blk_drew ?_ | refine blk_alloc ?_ _)); refine blk_put (cs := #[.int .i64 0, .int .i64 0, .int .i64 0, .int .i64 0, .bool false]) ?_ 0 _ rfl; (with_reducible repeat (first | refine blk_drewN ?_ _ | refine blk_drew ?_ | refine blk_alloc ?_ _)); exact BK154.out) hb); have n2_ := Aside0.mk (below_step (by repeat (first | (with_reducible first | exact HB.out | apply below_alloc | apply pw_below_drewN | apply below_drew1 | refine below_set ?_ GE151.out | refine below_set ?_ GE154.out) | exact HB.out)) hb); clear BK151; clear BK154; clear HB; have BK151 := n0_; have BK154 := n1_; have HB := n2_; clear n0_ n1_ n2_; (try clear hb); (try clear hb2); (try clear hk); (try clear hi); have hcz30_0 : w29.cell? ⟨gb151, 0, none⟩ = some (.slice (some ad153) l0_0.length c0_0) := (blk_cell BK151.out 0).trans rfl; have hcz30_1 : w29.cell? ⟨gb151, 1, none⟩ = some (.int .i64 a0_1) := (blk_cell BK151.out 1).trans rfl; have hfz30_0 := blk_frozen BK151.out 0; have hfz30_1 := blk_frozen BK151.out 1; have q31 : (x18_2 : Int) ≤ ((l0_0.length : Int) : Int) := of_decide_eq_true (by first | (with_reducible assumption) | assumption); obtain ⟨i031, hi031, _, hsz31, _⟩ := info_parts info50; have hroom31 : l0_0.length ≤ c0_0 := HC0_0.out; have hC31 : Kd.C k50 _ (some ad153) l0_0.length l0_0 := HR0_0.out; have hcut31 := cut_to (P := Try.prog) 29 50 .i64 Try.underlying29 hi031 (some ad153) l0_0.length c0_0 x18_2 (of_decide_eq_true (by first | (with_reducible assumption) | assumption)) q31 hroom31; have hr31 := Kd.C_take (m := (x18_2 : Int).toNat) hC31 (by omega); have hy31 : y156.length = (x18_2 : Int).toNat := (by rw [Ny156.out, List.length_take]; omega); rw [← Ny156.out] at hr31; rw [← hy31] at hcut31; have HR159 := Aside0.mk hr31; have HC159 := Aside0.mk (show y156.length ≤ c0_0 from by omega); clear hr31 hC31 hroom31 hi031 hsz31; have KY31 := Aside0.mk hy31; clear hy31; replace q31 := eq_true q31) | (go_at_call 86; (with_reducible refine (slices_ContainsFunc_TlbEntry_at_impl_TlbFault_c1.calls k2 _ _ y156 gb154 ((rd_T50 l0_0 x18_2).f0) ((rd_T50 l0_0 x18_2).f1) ((rd_T50 l0_0 x18_2).f2) ((rd_T50 l0_0 x18_2).f3) ((rd_T50 l0_0 x18_2).f4) false _ ?side1 ?side2 ?side3 A17.out).mono ?_); (case side1 => repeat (first | exact (Kd.C_below HR159.out HB.out) | (with_reducible refine Kd.C_alloc ?_ _) | (with_reducible refine Kd.C_drewN ?_ _) | (with_reducible refine Kd.C_drew ?_))); (case side2 => exact HC159.out); (case side3 => exact (by (with_reducible repeat (first | refine blk_drewN ?_ _ | refine blk_drew ?_ | refine blk_alloc ?_ _)); exact BK154.out)); rintro e w32 ⟨rfl, hb⟩; have n0_ := Aside0.mk (blk_below (g := gb151) (o := .cells #[.slice (some ad153) l0_0.length c0_0, .int .i64 a0_1] 31 (0, 0)) (by (with_reducible repeat (first | refine blk_drewN ?_ _ | refine blk_drew ?_ | refine blk_alloc ?_ _)); exact BK151.out) hb); have n1_ := Aside0.mk (blk_below (g := gb154) (o := .cells #[.int .i64 ((rd_T50 l0_0 x18_2).f0), .int .i64 ((rd_T50 l0_0 x18_2).f1), .int .i64 ((rd_T50 l0_0 x18_2).f2), .int .i64 ((rd_T50 l0_0 x18_2).f3), .bool ((rd_T50 l0_0 x18_2).f4)] 50 (0, 0)) (by (with_reducible repeat (first | refine blk_drewN ?_ _ | refine blk_drew ?_ | refine blk_alloc ?_ _)); exact BK154.out) hb); have n2_ := Aside0.mk (below_step (by repeat (first | (with_reducible first | exact HB.out | apply below_alloc | apply pw_below_drewN | apply below_drew1 | refine below_set ?_ GE151.out | refine below_set ?_ GE154.out) | exact HB.out)) hb); clear BK151; clear BK154; clear HB; have BK151 := n0_; have BK154 := n1_; have HB := n2_; clear n0_ n1_ n2_; (try clear hb); (try clear hb2); (try clear hk); (try clear hi)))
                        go_roundg k2
                        case measure => have := HJ1.out; have := HK2.out; omega
                        case rel => exact ⟨(wrap64 (x18_2 + 1)), (by first | rfl | (simp; done) | (simp [*]; done)), H', ⟨by have := HJ1.out; have := HK2.out; omega⟩, ⟨by (with_reducible repeat (first | refine blk_drewN ?_ _ | refine blk_drew ?_ | refine blk_alloc ?_ _)); exact BK151.out⟩, ⟨by repeat (first | (with_reducible first | exact HB.out | apply below_alloc | apply pw_below_drewN | apply below_drew1 | refine below_set ?_ GE151.out | refine below_set ?_ GE154.out) | exact HB.out)⟩⟩
                    · rw [if_neg c16] at H
                      exact absurd H (by simp)
                  · replace c14 := Bool.eq_false_iff.mpr c14
                    subst c14
                    have H1 : (some 1) = some r := by rw [if_neg (show ¬ (false = true) by decide)] at H; exact H
                    clear H
                    have H := H1
                    clear H1
                    obtain rfl := Option.some.inj H
                    have p153 : 0 ≤ (x18_2 : Int) := of_decide_eq_true (by first | (with_reducible assumption) | assumption)
                    have q153 : x18_2 < (l0_0.length : Int) := of_decide_eq_true (by first | (with_reducible assumption) | assumption)
                    obtain ⟨ad153, e153, hx153_0, hx153_1, hx153_2, hx153_3, hx153_4⟩ := at_T50 HR0_0.out x18_2 p153 q153
                    cases e153
                    replace hx153_0 := (HB.out.cell (World.block_lt_of_cell? w _ hx153_0)).trans hx153_0
                    replace hx153_1 := (HB.out.cell (World.block_lt_of_cell? w _ hx153_1)).trans hx153_1
                    replace hx153_2 := (HB.out.cell (World.block_lt_of_cell? w _ hx153_2)).trans hx153_2
                    replace hx153_3 := (HB.out.cell (World.block_lt_of_cell? w _ hx153_3)).trans hx153_3
                    replace hx153_4 := (HB.out.cell (World.block_lt_of_cell? w _ hx153_4)).trans hx153_4
                    replace p153 := eq_true p153
                    replace q153 := eq_true q153
                    go_wp2_with (first | ((with_reducible refine gate_dst (N := 4) rfl ?_); refine box_event ?hg (N := 4) ?hd (cs := #[.int .i64 0, .int .i64 0, .int .i64 0, .int .i64 0, .bool false]) (t := 50) ?hr ?_; (case hd => rfl); (case hg => rfl); (case hr => first | (go_simp; done) | (go_simp; rfl)); intro gb154 hg w33 hbox hb; have n0_ := Aside0.mk (blk_below (g := gb151) (o := .cells #[.slice (some ad153) l0_0.length c0_0, .int .i64 a0_1] 31 (0, 0)) (by (with_reducible repeat (first | refine blk_drewN ?_ _ | refine blk_drew ?_ | refine blk_alloc ?_ _)); exact BK151.out) hb); have n1_ := Aside0.mk (below_step (by repeat (first | (with_reducible first | exact HB.out | apply below_alloc | apply pw_below_drewN | apply below_drew1 | refine below_set ?_ GE151.out) | exact HB.out)) hb); have n2_ := Aside0.mk (hbox); have n3_ := Aside0.mk ((by rw [hg]; exact (below_size (by repeat (first | (with_reducible first | exact HB.out | apply below_alloc | apply pw_below_drewN | apply below_drew1 | refine below_set ?_ GE151.out) | exact HB.out))) : w.heap.size ≤ gb154)); have n4_ := Aside0.mk ((by rw [hg]; exact (below_size (by repeat (first | (with_reducible first | exact HB.out | apply below_alloc | apply pw_below_drewN | apply below_drew1 | refine below_set ?_ GE151.out) | exact HB.out))) : w.heap.size ≤ gb154)); have n5_ := Aside0.mk ((by rw [hg]; exact Nat.ne_of_lt (blk_lt (g := gb151) (o := .cells #[.slice (some ad153) l0_0.length c0_0, .int .i64 a0_1] 31 (0, 0)) (by (with_reducible repeat (first | refine blk_drewN ?_ _ | refine blk_drew ?_ | refine blk_alloc ?_ _)); exact BK151.out)) : gb151 ≠ gb154)); have n6_ := Aside0.mk ((by rw [hg]; exact Nat.ne_of_gt (blk_lt (g := gb151) (o := .cells #[.slice (some ad153) l0_0.length c0_0, .int .i64 a0_1] 31 (0, 0)) (by (with_reducible repeat (first | refine blk_drewN ?_ _ | refine blk_drew ?_ | refine blk_alloc ?_ _)); exact BK151.out)) : gb154 ≠ gb151)); clear BK151; clear HB; have BK151 := n0_; have HB := n1_; have BK154 := n2_; have GW154 := n3_; have GE154 := n4_; have NB151_154 := n5_; have NB154_151 := n6_; clear n0_ n1_ n2_ n3_ n4_ n5_ n6_; clear hb hbox hg; have hnb34 := NB154_151.out; have hnc34 := NB151_154.out; have hcz35_0 : w33.cell? ⟨gb154, 0, none⟩ = some (.int .i64 0) := (blk_cell BK154.out 0).trans rfl; have hcz35_1 : w33.cell? ⟨gb154, 1, none⟩ = some (.int .i64 0) := (blk_cell BK154.out 1).trans rfl; have hcz35_2 : w33.cell? ⟨gb154, 2, none⟩ = some (.int .i64 0) := (blk_cell BK154.out 2).trans rfl; have hcz35_3 : w33.cell? ⟨gb154, 3, none⟩ = some (.int .i64 0) := (blk_cell BK154.out 3).trans rfl; have hcz35_4 : w33.cell? ⟨gb154, 4, none⟩ = some (.bool false) := (blk_cell BK154.out 4).trans rfl; have hfz35_0 := blk_frozen BK154.out 0; have hfz35_1 := blk_frozen BK154.out 1; have hfz35_2 := blk_frozen BK154.out 2; have hfz35_3 := blk_frozen BK154.out 3; have hfz35_4 := blk_frozen BK154.out 4) | ((with_reducible refine gate_callee (f := 85) rfl ?_); refine goesL_ (some 24) rfl rfl Try.func85 (by kernel_rfl) rfl #[.agg #[.int .i64 ((rd_T50 l0_0 x18_2).f0), .int .i64 ((rd_T50 l0_0 x18_2).f1), .int .i64 ((rd_T50 l0_0 x18_2).f2), .int .i64 ((rd_T50 l0_0 x18_2).f3), .bool ((rd_T50 l0_0 x18_2).f4)]] rfl (by (try simp only [List.map_toArray, List.map_cons, List.map_nil]); first | done | rfl | (simp only [List.length_drop, List.length_take]; rfl)) ?_; (with_reducible refine (impl_ytlbEntryOk.calls ((rd_T50 l0_0 x18_2).f0) ((rd_T50 l0_0 x18_2).f1) ((rd_T50 l0_0 x18_2).f2) ((rd_T50 l0_0 x18_2).f3) ((rd_T50 l0_0 x18_2).f4) false _ A13.out).mono ?_); rintro e w36 ⟨rfl, hb⟩; refine ⟨_, rfl, ?_⟩; have n0_ := Aside0.mk (blk_below (g := gb151) (o := .cells #[.slice (some ad153) l0_0.length c0_0, .int .i64 a0_1] 31 (0, 0)) (by (with_reducible repeat (first | refine blk_drewN ?_ _ | refine blk_drew ?_ | refine blk_alloc ?_ _)); refine blk_far ?_ NB151_154.out _; (with_reducible repeat (first | refine blk_drewN ?_ _ | refine blk_drew ?_ | refine blk_alloc ?_ _)); refine blk_far ?_ NB151_154.out _; (with_reducible repeat (first | refine blk_drewN ?_ _ | refine blk_drew ?_ | refine blk_alloc ?_ _)); refine blk_far ?_ NB151_154.out _; (with_reducible repeat (first | refine blk_drewN ?_ _ | refine blk_drew ?_ | refine blk_alloc ?_ _)); refine blk_far ?_ NB151_154.out _; (with_reducible repeat (first | refine blk_drewN ?_ _ | refine blk_drew ?_ | refine blk_alloc ?_ _)); refine blk_far ?_ NB151_154.out _; (with_reducible repeat (first | refine blk_drewN ?_ _ | refine blk_drew ?_ | refine blk_alloc ?_ _)); exact BK151.out) hb); have n1_ := Aside0.mk (blk_below (g := gb154) (o := .cells #[.int .i64 ((rd_T50 l0_0 x18_2).f0), .int .i64 ((rd_T50 l0_0 x18_2).f1), .int .i64 ((rd_T50 l0_0 x18_2).f2), .int .i64 ((rd_T50 l0_0 x18_2).f3), .bool ((rd_T50 l0_0 x18_2).f4)] 50 (0, 0)) (by (with_reducible repeat (first | refine blk_drewN ?_ _ | refine blk_drew ?_ | refine blk_alloc ?_ _)); refine blk_put (cs := #[.int .i64 ((rd_T50 l0_0 x18_2).f0), .int .i64 ((rd_T50 l0_0 x18_2).f1), .int .i64 ((rd_T50 l0_0 x18_2).f2), .int .i64 ((rd_T50 l0_0 x18_2).f3), .bool false]) ?_ 4 _ rfl; (with_reducible repeat (first | refine blk_drewN ?_ _ | refine blk_drew ?_ | refine blk_alloc ?_ _)); refine blk_put (cs := #[.int .i64 ((rd_T50 l0_0 x18_2).f0), .int .i64 ((rd_T50 l0_0 x18_2).f1), .int .i64 ((rd_T50 l0_0 x18_2).f2), .int .i64 0, .bool false]) ?_ 3 _ rfl; (with_reducible repeat (first | refine blk_drewN ?_ _ | refine blk_drew ?_ | refine blk_alloc ?_ _)); refine blk_put (cs := #[.int .i64 ((rd_T50 l0_0 x18_2).f0), .int .i64 ((rd_T50 l0_0 x18_2).f1), .int .i64 0, .int .i64 0, .bool false]) ?_ 2 _ rfl; (with_reducible repeat (first | refine blk_drewN ?_ _ | refine blk_drew ?_ | refine blk_alloc ?_ _)); refine blk_put (cs := #[.int .i64 ((rd_T50 l0_0 x18_2).f0), .int .i64 0, .int .i64 0, .int .i64 0, .bool false]) ?_ 1 _ rfl; (with_reducible repeat (first | refine blk_drewN ?_ _ | refine blk_drew ?_ | refine blk_alloc ?_ _)); refine blk_put (cs := #[.int .i64 0, .int .i64 0, .int .i64 0, .int .i64 0, .bool false]) ?_ 0 _ rfl; (with_reducible repeat (first | refine blk_drewN ?_ _ | refine blk_drew ?_ | refine blk_alloc ?_ _)); exact BK154.out) hb); have n2_ := Aside0.mk (below_step (by repeat (first | (with_reducible first | exact HB.out | apply below_alloc | apply pw_below_drewN | apply below_drew1 | refine below_set ?_ GE151.out | refine below_set ?_ GE154.out) | exact HB.out)) hb); clear BK151; clear BK154; clear HB; have BK151 := n0_; have BK154 := n1_; have HB := n2_; clear n0_ n1_ n2_; (try clear hb); (try clear hb2); (try clear hk); (try clear hi)))
                    go_ret
                    exact ⟨by first | rfl | (simp [errW_none, errW_some] <;> rfl) | (simp [*, errW_none, errW_some] <;> rfl), by repeat (first | (with_reducible first | exact HB.out | apply below_alloc | apply pw_below_drewN | apply below_drew1 | refine below_set ?_ GE151.out | refine below_set ?_ GE154.out) | exact HB.out)⟩
                · rw [if_neg c12] at H
                  exact absurd H (by simp)
              · rw [if_neg c11] at H
                exact absurd H (by simp)
            · rw [if_neg c10] at H
              have c10b0 : decide (x18_2 < (l0_0.length : Int)) = false := decide_eq_false c10
              clear c10
              obtain rfl := Option.some.inj H
              go_wp2
              go_ret
              exact ⟨by first | rfl | (simp [errW_none, errW_some] <;> rfl) | (simp [*, errW_none, errW_some] <;> rfl), by repeat (first | (with_reducible first | exact HB.out | apply below_alloc | apply pw_below_drewN | apply below_drew1 | refine below_set ?_ GE151.out) | exact HB.out)⟩

/-! ### impl_ywalkOk: function 60 -/
def impl_ywalkOk.f (a0 : Int) (a1 : Int) (a2 : Int) : Option (Bool) := (impl_yin.f a0 0 255).bind fun t161 => (if t161 = true then ((impl_yin.f a1 0 262143).bind fun t162 => (if t162 = true then ((impl_yin.f a2 1 3).bind fun t163 => (some t163)) else (some false))) else (some false))
set_option maxHeartbeats 8000000 in
set_option maxRecDepth 100000 in
theorem impl_ywalkOk.calls (a0 : Int) (a1 : Int) (a2 : Int) (r : Bool) (w : World) (h : impl_ywalkOk.f a0 a1 a2 = some r) :
    Calls Try.prog 60 #[.int .i64 a0, .int .i64 a1, .int .i64 a2] w fun e w' => e = .returned (.bool r) ∧ Drawn0 w w' := by
  have H : ((impl_yin.f a0 0 255).bind fun t161 => (if t161 = true then ((impl_yin.f a1 0 262143).bind fun t162 => (if t162 = true then ((impl_yin.f a2 1 3).bind fun t163 => (some t163)) else (some false))) else (some false))) = some r := h
  clear h
  replace H := Option.bind_eq_some_iff.mp H
  obtain ⟨t161, A40, H⟩ := H
  replace H : (if t161 = true then ((impl_yin.f a1 0 262143).bind fun t162 => (if t162 = true then ((impl_yin.f a2 1 3).bind fun t163 => (some t163)) else (some false))) else (some false)) = some r := H
  have A4 := Aside0.mk A40
  clear A40
  by_cases c5 : t161 = true
  · subst c5
    have H1 : ((impl_yin.f a1 0 262143).bind fun t162 => (if t162 = true then ((impl_yin.f a2 1 3).bind fun t163 => (some t163)) else (some false))) = some r := by rw [if_pos rfl] at H; exact H
    clear H
    have H := H1
    clear H1
    replace H := Option.bind_eq_some_iff.mp H
    obtain ⟨t162, A60, H⟩ := H
    replace H : (if t162 = true then ((impl_yin.f a2 1 3).bind fun t163 => (some t163)) else (some false)) = some r := H
    have A6 := Aside0.mk A60
    clear A60
    by_cases c7 : t162 = true
    · subst c7
      have H1 : ((impl_yin.f a2 1 3).bind fun t163 => (some t163)) = some r := by rw [if_pos rfl] at H; exact H
      clear H
      have H := H1
      clear H1
      replace H := Option.bind_eq_some_iff.mp H
      obtain ⟨t163, A80, H⟩ := H
      replace H : (some t163) = some r := H
      have A8 := Aside0.mk A80
      clear A80
      obtain rfl := Option.some.inj H
      go_enter Try.func60, Try.ntmps60
      go_wp2_with (first | ((with_reducible refine gate_callee (f := 84) rfl ?_); refine goesL_ (some 8) rfl rfl Try.func84 (by kernel_rfl) rfl #[.int .i64 a0, .int .i64 0, .int .i64 255] rfl (by (try simp only [List.map_toArray, List.map_cons, List.map_nil]); first | done | rfl | (simp only [List.length_drop, List.length_take]; rfl)) ?_; (with_reducible refine (impl_yin.calls a0 0 255 true _ A4.out).mono ?_); rintro e w' ⟨rfl, ⟨nd, rfl⟩⟩; refine ⟨_, rfl, ?_⟩) | (go_at_call 84; (with_reducible refine (impl_yin.calls a1 0 262143 true _ A6.out).mono ?_); rintro e w' ⟨rfl, ⟨nd, rfl⟩⟩) | (go_at_call 84; (with_reducible refine (impl_yin.calls a2 1 3 t163 _ A8.out).mono ?_); rintro e w' ⟨rfl, ⟨nd, rfl⟩⟩))
      go_ret
      exact ⟨by first | rfl | (simp; done) | (simp [*]; done), by repeat (first | exact Drawn0.refl _ | apply Drawn0.step)⟩
    · replace c7 := Bool.eq_false_iff.mpr c7
      subst c7
      have H1 : (some false) = some r := by rw [if_neg (show ¬ (false = true) by decide)] at H; exact H
      clear H
      have H := H1
      clear H1
      obtain rfl := Option.some.inj H
      go_enter Try.func60, Try.ntmps60
      go_wp2_with (first | ((with_reducible refine gate_callee (f := 84) rfl ?_); refine goesL_ (some 8) rfl rfl Try.func84 (by kernel_rfl) rfl #[.int .i64 a0, .int .i64 0, .int .i64 255] rfl (by (try simp only [List.map_toArray, List.map_cons, List.map_nil]); first | done | rfl | (simp only [List.length_drop, List.length_take]; rfl)) ?_; (with_reducible refine (impl_yin.calls a0 0 255 true _ A4.out).mono ?_); rintro e w' ⟨rfl, ⟨nd, rfl⟩⟩; refine ⟨_, rfl, ?_⟩) | (go_at_call 84; (with_reducible refine (impl_yin.calls a1 0 262143 false _ A6.out).mono ?_); rintro e w' ⟨rfl, ⟨nd, rfl⟩⟩))
      go_ret
      exact ⟨by first | rfl | (simp; done) | (simp [*]; done), by repeat (first | exact Drawn0.refl _ | apply Drawn0.step)⟩
  · replace c5 := Bool.eq_false_iff.mpr c5
    subst c5
    have H1 : (some false) = some r := by rw [if_neg (show ¬ (false = true) by decide)] at H; exact H
    clear H
    have H := H1
    clear H1
    obtain rfl := Option.some.inj H
    go_enter Try.func60, Try.ntmps60
    go_wp2_with (first | ((with_reducible refine gate_callee (f := 84) rfl ?_); refine goesL_ (some 8) rfl rfl Try.func84 (by kernel_rfl) rfl #[.int .i64 a0, .int .i64 0, .int .i64 255] rfl (by (try simp only [List.map_toArray, List.map_cons, List.map_nil]); first | done | rfl | (simp only [List.length_drop, List.length_take]; rfl)) ?_; (with_reducible refine (impl_yin.calls a0 0 255 false _ A4.out).mono ?_); rintro e w' ⟨rfl, ⟨nd, rfl⟩⟩; refine ⟨_, rfl, ?_⟩))
    go_ret
    exact ⟨by first | rfl | (simp; done) | (simp [*]; done), by repeat (first | exact Drawn0.refl _ | apply Drawn0.step)⟩

/-! ### impl_TlbEntry_yholds: function 63 -/
def impl_TlbEntry_yholds.f (a0_0 : Int) (a0_1 : Int) (a0_2 : Int) (a0_3 : Int) (a0_4 : Bool) (a1 : Int) : Option (Bool) := if a0_4 = true then (some ((a0_1 / 32) == (a1 / 8192))) else (some (a0_1 == (a1 / 256)))
set_option maxHeartbeats 8000000 in
set_option maxRecDepth 100000 in
theorem impl_TlbEntry_yholds.calls (a0_0 : Int) (a0_1 : Int) (a0_2 : Int) (a0_3 : Int) (a0_4 : Bool) (a1 : Int) (r : Bool) (w : World) (h : impl_TlbEntry_yholds.f a0_0 a0_1 a0_2 a0_3 a0_4 a1 = some r) :
    Calls Try.prog 63 #[.agg #[.int .i64 a0_0, .int .i64 a0_1, .int .i64 a0_2, .int .i64 a0_3, .bool a0_4], .int .i64 a1] w fun e w' => e = .returned (.bool r) ∧ Below w.heap.size w w' := by
  have hu50 := Try.underlying50
  have HB := Aside0.mk (Below.refl w.heap.size w)
  have H : (if a0_4 = true then (some ((a0_1 / 32) == (a1 / 8192))) else (some (a0_1 == (a1 / 256)))) = some r := h
  clear h
  by_cases c3 : a0_4 = true
  · subst c3
    have H1 : (some ((a0_1 / 32) == (a1 / 8192))) = some r := by rw [if_pos rfl] at H; exact H
    clear H
    have H := H1
    clear H1
    obtain rfl := Option.some.inj H
    go_enter Try.func63, Try.ntmps63
    go_wp2_with (first | ((with_reducible refine gate_dst (N := 2) rfl ?_); refine box_event ?hg (N := 2) ?hd (cs := #[.int .i64 a0_0, .int .i64 a0_1, .int .i64 a0_2, .int .i64 a0_3, .bool true]) (t := 50) ?hr ?_; (case hd => rfl); (case hg => rfl); (case hr => first | (go_simp; done) | (go_simp; rfl)); intro gb164 hg w4 hbox hb; have n0_ := Aside0.mk (below_step (by repeat (first | (with_reducible first | exact HB.out | apply below_alloc | apply pw_below_drewN | apply below_drew1) | exact HB.out)) hb); have n1_ := Aside0.mk (hbox); have n2_ := Aside0.mk ((by rw [hg]; exact (below_size (by repeat (first | (with_reducible first | exact HB.out | apply below_alloc | apply pw_below_drewN | apply below_drew1) | exact HB.out))) : w.heap.size ≤ gb164)); have n3_ := Aside0.mk ((by rw [hg]; exact (below_size (by repeat (first | (with_reducible first | exact HB.out | apply below_alloc | apply pw_below_drewN | apply below_drew1) | exact HB.out))) : w.heap.size ≤ gb164)); clear HB; have HB := n0_; have BK164 := n1_; have GW164 := n2_; have GE164 := n3_; clear n0_ n1_ n2_ n3_; clear hb hbox hg; have hcz5_0 : w4.cell? ⟨gb164, 0, none⟩ = some (.int .i64 a0_0) := (blk_cell BK164.out 0).trans rfl; have hcz5_1 : w4.cell? ⟨gb164, 1, none⟩ = some (.int .i64 a0_1) := (blk_cell BK164.out 1).trans rfl; have hcz5_2 : w4.cell? ⟨gb164, 2, none⟩ = some (.int .i64 a0_2) := (blk_cell BK164.out 2).trans rfl; have hcz5_3 : w4.cell? ⟨gb164, 3, none⟩ = some (.int .i64 a0_3) := (blk_cell BK164.out 3).trans rfl; have hcz5_4 : w4.cell? ⟨gb164, 4, none⟩ = some (.bool true) := (blk_cell BK164.out 4).trans rfl; have hfz5_0 := blk_frozen BK164.out 0; have hfz5_1 := blk_frozen BK164.out 1; have hfz5_2 := blk_frozen BK164.out 2; have hfz5_3 := blk_frozen BK164.out 3; have hfz5_4 := blk_frozen BK164.out 4))
    go_ret
    exact ⟨by first | rfl | (simp [errW_none, errW_some] <;> rfl) | (simp [*, errW_none, errW_some] <;> rfl), by repeat (first | (with_reducible first | exact HB.out | apply below_alloc | apply pw_below_drewN | apply below_drew1 | refine below_set ?_ GE164.out) | exact HB.out)⟩
  · replace c3 := Bool.eq_false_iff.mpr c3
    subst c3
    have H1 : (some (a0_1 == (a1 / 256))) = some r := by rw [if_neg (show ¬ (false = true) by decide)] at H; exact H
    clear H
    have H := H1
    clear H1
    obtain rfl := Option.some.inj H
    go_enter Try.func63, Try.ntmps63
    go_wp2_with (first | ((with_reducible refine gate_dst (N := 2) rfl ?_); refine box_event ?hg (N := 2) ?hd (cs := #[.int .i64 a0_0, .int .i64 a0_1, .int .i64 a0_2, .int .i64 a0_3, .bool false]) (t := 50) ?hr ?_; (case hd => rfl); (case hg => rfl); (case hr => first | (go_simp; done) | (go_simp; rfl)); intro gb164 hg w6 hbox hb; have n0_ := Aside0.mk (below_step (by repeat (first | (with_reducible first | exact HB.out | apply below_alloc | apply pw_below_drewN | apply below_drew1) | exact HB.out)) hb); have n1_ := Aside0.mk (hbox); have n2_ := Aside0.mk ((by rw [hg]; exact (below_size (by repeat (first | (with_reducible first | exact HB.out | apply below_alloc | apply pw_below_drewN | apply below_drew1) | exact HB.out))) : w.heap.size ≤ gb164)); have n3_ := Aside0.mk ((by rw [hg]; exact (below_size (by repeat (first | (with_reducible first | exact HB.out | apply below_alloc | apply pw_below_drewN | apply below_drew1) | exact HB.out))) : w.heap.size ≤ gb164)); clear HB; have HB := n0_; have BK164 := n1_; have GW164 := n2_; have GE164 := n3_; clear n0_ n1_ n2_ n3_; clear hb hbox hg; have hcz7_0 : w6.cell? ⟨gb164, 0, none⟩ = some (.int .i64 a0_0) := (blk_cell BK164.out 0).trans rfl; have hcz7_1 : w6.cell? ⟨gb164, 1, none⟩ = some (.int .i64 a0_1) := (blk_cell BK164.out 1).trans rfl; have hcz7_2 : w6.cell? ⟨gb164, 2, none⟩ = some (.int .i64 a0_2) := (blk_cell BK164.out 2).trans rfl; have hcz7_3 : w6.cell? ⟨gb164, 3, none⟩ = some (.int .i64 a0_3) := (blk_cell BK164.out 3).trans rfl; have hcz7_4 : w6.cell? ⟨gb164, 4, none⟩ = some (.bool false) := (blk_cell BK164.out 4).trans rfl; have hfz7_0 := blk_frozen BK164.out 0; have hfz7_1 := blk_frozen BK164.out 1; have hfz7_2 := blk_frozen BK164.out 2; have hfz7_3 := blk_frozen BK164.out 3; have hfz7_4 := blk_frozen BK164.out 4))
    go_ret
    exact ⟨by first | rfl | (simp [errW_none, errW_some] <;> rfl) | (simp [*, errW_none, errW_some] <;> rfl), by repeat (first | (with_reducible first | exact HB.out | apply below_alloc | apply pw_below_drewN | apply below_drew1 | refine below_set ?_ GE164.out) | exact HB.out)⟩

/-! ### impl_TlbFind_c1: function 62 -/
def impl_TlbFind_c1.f (a0_0 : Int) (a0_1 : Int) (a0_2 : Int) (a0_3 : Int) (a0_4 : Bool) (a1_0 : Int) (a1_1 : Int) : Option (Bool) := (impl_TlbEntry_yholds.f a0_0 a0_1 a0_2 a0_3 a0_4 a1_0).bind fun t166 => (if t166 = true then (if a0_0 = a1_1 then (some true) else (some ((Go.bits .and .i64 a0_3 128) != 0))) else (some false))
set_option maxHeartbeats 8000000 in
set_option maxRecDepth 100000 in
theorem impl_TlbFind_c1.calls (a0_0 : Int) (a0_1 : Int) (a0_2 : Int) (a0_3 : Int) (a0_4 : Bool) (gc1_0 : Nat) (gc1_1 : Nat) (a1_0 : Int) (a1_1 : Int) (r : Bool) (w : World) (hb1_0 : w.heap[gc1_0]? = some (.cells #[.int .i64 a1_0] 2 (0, 0))) (hb1_1 : w.heap[gc1_1]? = some (.cells #[.int .i64 a1_1] 2 (0, 0))) (hn1_0_1_1 : gc1_0 ≠ gc1_1) (h : impl_TlbFind_c1.f a0_0 a0_1 a0_2 a0_3 a0_4 a1_0 a1_1 = some r) :
    Calls Try.prog 62 #[.agg #[.int .i64 a0_0, .int .i64 a0_1, .int .i64 a0_2, .int .i64 a0_3, .bool a0_4], .pointer (some ⟨gc1_0, 0, none⟩), .pointer (some ⟨gc1_1, 0, none⟩)] w fun e w' => e = .returned (.bool r) ∧ Below w.heap.size w w' := by
  have hu50 := Try.underlying50
  have BK48 := Aside0.mk hb1_0
  clear hb1_0
  have BK49 := Aside0.mk hb1_1
  clear hb1_1
  have NB48_49 := Aside0.mk hn1_0_1_1
  have NB49_48 := Aside0.mk (Ne.symm hn1_0_1_1)
  clear hn1_0_1_1
  have HB := Aside0.mk (Below.refl w.heap.size w)
  have H : ((impl_TlbEntry_yholds.f a0_0 a0_1 a0_2 a0_3 a0_4 a1_0).bind fun t166 => (if t166 = true then (if a0_0 = a1_1 then (some true) else (some ((Go.bits .and .i64 a0_3 128) != 0))) else (some false))) = some r := h
  clear h
  replace H := Option.bind_eq_some_iff.mp H
  obtain ⟨t166, A30, H⟩ := H
  replace H : (if t166 = true then (if a0_0 = a1_1 then (some true) else (some ((Go.bits .and .i64 a0_3 128) != 0))) else (some false)) = some r := H
  have A3 := Aside0.mk A30
  clear A30
  by_cases c4 : t166 = true
  · subst c4
    have H1 : (if a0_0 = a1_1 then (some true) else (some ((Go.bits .and .i64 a0_3 128) != 0))) = some r := by rw [if_pos rfl] at H; exact H
    clear H
    have H := H1
    clear H1
    by_cases c5 : a0_0 = a1_1
    · rw [if_pos c5] at H
      have c5b0 : (a0_0 == a1_1) = true := beq_iff_eq.mpr c5
      have c5b1 : (a0_0 != a1_1) = false := bne_eq_false_iff_eq.mpr c5
      clear c5
      obtain rfl := Option.some.inj H
      go_enter Try.func62, Try.ntmps62
      go_wp2_with (first | ((with_reducible refine gate_dst (N := 3) rfl ?_); refine box_event ?hg (N := 3) ?hd (cs := #[.int .i64 a0_0, .int .i64 a0_1, .int .i64 a0_2, .int .i64 a0_3, .bool a0_4]) (t := 50) ?hr ?_; (case hd => rfl); (case hg => rfl); (case hr => first | (go_simp; done) | (go_simp; rfl)); intro gb165 hg w6 hbox hb; have n0_ := Aside0.mk (blk_below (g := gc1_0) (o := .cells #[.int .i64 a1_0] 2 (0, 0)) (by (with_reducible repeat (first | refine blk_drewN ?_ _ | refine blk_drew ?_ | refine blk_alloc ?_ _)); exact BK48.out) hb); have n1_ := Aside0.mk (blk_below (g := gc1_1) (o := .cells #[.int .i64 a1_1] 2 (0, 0)) (by (with_reducible repeat (first | refine blk_drewN ?_ _ | refine blk_drew ?_ | refine blk_alloc ?_ _)); exact BK49.out) hb); have n2_ := Aside0.mk (below_step (by repeat (first | (with_reducible first | exact HB.out | apply below_alloc | apply pw_below_drewN | apply below_drew1 | refine below_set ?_ GE48.out | refine below_set ?_ GE49.out) | exact HB.out)) hb); have n3_ := Aside0.mk (hbox); have n4_ := Aside0.mk ((by rw [hg]; exact (below_size (by repeat (first | (with_reducible first | exact HB.out | apply below_alloc | apply pw_below_drewN | apply below_drew1 | refine below_set ?_ GE48.out | refine below_set ?_ GE49.out) | exact HB.out))) : w.heap.size ≤ gb165)); have n5_ := Aside0.mk ((by rw [hg]; exact (below_size (by repeat (first | (with_reducible first | exact HB.out | apply below_alloc | apply pw_below_drewN | apply below_drew1 | refine below_set ?_ GE48.out | refine below_set ?_ GE49.out) | exact HB.out))) : w.heap.size ≤ gb165)); have n6_ := Aside0.mk ((by rw [hg]; exact Nat.ne_of_lt (blk_lt (g := gc1_0) (o := .cells #[.int .i64 a1_0] 2 (0, 0)) (by (with_reducible repeat (first | refine blk_drewN ?_ _ | refine blk_drew ?_ | refine blk_alloc ?_ _)); exact BK48.out)) : gc1_0 ≠ gb165)); have n7_ := Aside0.mk ((by rw [hg]; exact Nat.ne_of_gt (blk_lt (g := gc1_0) (o := .cells #[.int .i64 a1_0] 2 (0, 0)) (by (with_reducible repeat (first | refine blk_drewN ?_ _ | refine blk_drew ?_ | refine blk_alloc ?_ _)); exact BK48.out)) : gb165 ≠ gc1_0)); have n8_ := Aside0.mk ((by rw [hg]; exact Nat.ne_of_lt (blk_lt (g := gc1_1) (o := .cells #[.int .i64 a1_1] 2 (0, 0)) (by (with_reducible repeat (first | refine blk_drewN ?_ _ | refine blk_drew ?_ | refine blk_alloc ?_ _)); exact BK49.out)) : gc1_1 ≠ gb165)); have n9_ := Aside0.mk ((by rw [hg]; exact Nat.ne_of_gt (blk_lt (g := gc1_1) (o := .cells #[.int .i64 a1_1] 2 (0, 0)) (by (with_reducible repeat (first | refine blk_drewN ?_ _ | refine blk_drew ?_ | refine blk_alloc ?_ _)); exact BK49.out)) : gb165 ≠ gc1_1)); clear BK48; clear BK49; clear HB; have BK48 := n0_; have BK49 := n1_; have HB := n2_; have BK165 := n3_; have GW165 := n4_; have GE165 := n5_; have NB48_165 := n6_; have NB165_48 := n7_; have NB49_165 := n8_; have NB165_49 := n9_; clear n0_ n1_ n2_ n3_ n4_ n5_ n6_ n7_ n8_ n9_; clear hb hbox hg; have hnb7 := NB165_48.out; have hnc7 := NB48_165.out; have hnb8 := NB165_49.out; have hnc8 := NB49_165.out; have hcz9_0 : w6.cell? ⟨gb165, 0, none⟩ = some (.int .i64 a0_0) := (blk_cell BK165.out 0).trans rfl; have hcz9_1 : w6.cell? ⟨gb165, 1, none⟩ = some (.int .i64 a0_1) := (blk_cell BK165.out 1).trans rfl; have hcz9_2 : w6.cell? ⟨gb165, 2, none⟩ = some (.int .i64 a0_2) := (blk_cell BK165.out 2).trans rfl; have hcz9_3 : w6.cell? ⟨gb165, 3, none⟩ = some (.int .i64 a0_3) := (blk_cell BK165.out 3).trans rfl; have hcz9_4 : w6.cell? ⟨gb165, 4, none⟩ = some (.bool a0_4) := (blk_cell BK165.out 4).trans rfl; have hfz9_0 := blk_frozen BK165.out 0; have hfz9_1 := blk_frozen BK165.out 1; have hfz9_2 := blk_frozen BK165.out 2; have hfz9_3 := blk_frozen BK165.out 3; have hfz9_4 := blk_frozen BK165.out 4; have hnb10 := NB48_49.out; have hnc10 := NB49_48.out; have hcz11_0 : w6.cell? ⟨gc1_0, 0, none⟩ = some (.int .i64 a1_0) := (blk_cell BK48.out 0).trans rfl; have hfz11_0 := blk_frozen BK48.out 0) | ((with_reducible refine gate_callee (f := 63) rfl ?_); refine goesL_ (some 7) rfl rfl Try.func63 (by kernel_rfl) rfl #[.agg #[.int .i64 a0_0, .int .i64 a0_1, .int .i64 a0_2, .int .i64 a0_3, .bool a0_4], .int .i64 a1_0] rfl (by (try simp only [List.map_toArray, List.map_cons, List.map_nil]); first | done | rfl | (simp only [List.length_drop, List.length_take]; rfl)) ?_; (with_reducible refine (impl_TlbEntry_yholds.calls a0_0 a0_1 a0_2 a0_3 a0_4 a1_0 true _ A3.out).mono ?_); rintro e w12 ⟨rfl, hb⟩; refine ⟨_, rfl, ?_⟩; have n0_ := Aside0.mk (blk_below (g := gc1_0) (o := .cells #[.int .i64 a1_0] 2 (0, 0)) (by (with_reducible repeat (first | refine blk_drewN ?_ _ | refine blk_drew ?_ | refine blk_alloc ?_ _)); exact BK48.out) hb); have n1_ := Aside0.mk (blk_below (g := gc1_1) (o := .cells #[.int .i64 a1_1] 2 (0, 0)) (by (with_reducible repeat (first | refine blk_drewN ?_ _ | refine blk_drew ?_ | refine blk_alloc ?_ _)); exact BK49.out) hb); have n2_ := Aside0.mk (blk_below (g := gb165) (o := .cells #[.int .i64 a0_0, .int .i64 a0_1, .int .i64 a0_2, .int .i64 a0_3, .bool a0_4] 50 (0, 0)) (by (with_reducible repeat (first | refine blk_drewN ?_ _ | refine blk_drew ?_ | refine blk_alloc ?_ _)); exact BK165.out) hb); have n3_ := Aside0.mk (below_step (by repeat (first | (with_reducible first | exact HB.out | apply below_alloc | apply pw_below_drewN | apply below_drew1 | refine below_set ?_ GE48.out | refine below_set ?_ GE49.out | refine below_set ?_ GE165.out) | exact HB.out)) hb); clear BK48; clear BK49; clear BK165; clear HB; have BK48 := n0_; have BK49 := n1_; have BK165 := n2_; have HB := n3_; clear n0_ n1_ n2_ n3_; (try clear hb); (try clear hb2); (try clear hk); (try clear hi); have hcz13_0 : w12.cell? ⟨gb165, 0, none⟩ = some (.int .i64 a0_0) := (blk_cell BK165.out 0).trans rfl; have hcz13_1 : w12.cell? ⟨gb165, 1, none⟩ = some (.int .i64 a0_1) := (blk_cell BK165.out 1).trans rfl; have hcz13_2 : w12.cell? ⟨gb165, 2, none⟩ = some (.int .i64 a0_2) := (blk_cell BK165.out 2).trans rfl; have hcz13_3 : w12.cell? ⟨gb165, 3, none⟩ = some (.int .i64 a0_3) := (blk_cell BK165.out 3).trans rfl; have hcz13_4 : w12.cell? ⟨gb165, 4, none⟩ = some (.bool a0_4) := (blk_cell BK165.out 4).trans rfl; have hfz13_0 := blk_frozen BK165.out 0; have hfz13_1 := blk_frozen BK165.out 1; have hfz13_2 := blk_frozen BK165.out 2; have hfz13_3 := blk_frozen BK165.out 3; have hfz13_4 := blk_frozen BK165.out 4; have hcz14_0 : w12.cell? ⟨gc1_1, 0, none⟩ = some (.int .i64 a1_1) := (blk_cell BK49.out 0).trans rfl; have hfz14_0 := blk_frozen BK49.out 0))
      go_ret
      exact ⟨by first | rfl | (simp [errW_none, errW_some] <;> rfl) | (simp [*, errW_none, errW_some] <;> rfl), by repeat (first | (with_reducible first | exact HB.out | apply below_alloc | apply pw_below_drewN | apply below_drew1 | refine below_set ?_ GE48.out | refine below_set ?_ GE49.out | refine below_set ?_ GE165.out) | exact HB.out)⟩
    · rw [if_neg c5] at H
      have c5b0 : (a0_0 == a1_1) = false := beq_eq_false_iff_ne.mpr c5
      have c5b1 : (a0_0 != a1_1) = true := bne_iff_ne.mpr c5
      obtain rfl := Option.some.inj H
      go_enter Try.func62, Try.ntmps62
      go_wp2_with (first | ((with_reducible refine gate_dst (N := 3) rfl ?_); refine box_event ?hg (N := 3) ?hd (cs := #[.int .i64 a0_0, .int .i64 a0_1, .int .i64 a0_2, .int .i64 a0_3, .bool a0_4]) (t := 50) ?hr ?_; (case hd => rfl); (case hg => rfl); (case hr => first | (go_simp; done) | (go_simp; rfl)); intro gb165 hg w15 hbox hb; have n0_ := Aside0.mk (blk_below (g := gc1_0) (o := .cells #[.int .i64 a1_0] 2 (0, 0)) (by (with_reducible repeat (first | refine blk_drewN ?_ _ | refine blk_drew ?_ | refine blk_alloc ?_ _)); exact BK48.out) hb); have n1_ := Aside0.mk (blk_below (g := gc1_1) (o := .cells #[.int .i64 a1_1] 2 (0, 0)) (by (with_reducible repeat (first | refine blk_drewN ?_ _ | refine blk_drew ?_ | refine blk_alloc ?_ _)); exact BK49.out) hb); have n2_ := Aside0.mk (below_step (by repeat (first | (with_reducible first | exact HB.out | apply below_alloc | apply pw_below_drewN | apply below_drew1 | refine below_set ?_ GE48.out | refine below_set ?_ GE49.out) | exact HB.out)) hb); have n3_ := Aside0.mk (hbox); have n4_ := Aside0.mk ((by rw [hg]; exact (below_size (by repeat (first | (with_reducible first | exact HB.out | apply below_alloc | apply pw_below_drewN | apply below_drew1 | refine below_set ?_ GE48.out | refine below_set ?_ GE49.out) | exact HB.out))) : w.heap.size ≤ gb165)); have n5_ := Aside0.mk ((by rw [hg]; exact (below_size (by repeat (first | (with_reducible first | exact HB.out | apply below_alloc | apply pw_below_drewN | apply below_drew1 | refine below_set ?_ GE48.out | refine below_set ?_ GE49.out) | exact HB.out))) : w.heap.size ≤ gb165)); have n6_ := Aside0.mk ((by rw [hg]; exact Nat.ne_of_lt (blk_lt (g := gc1_0) (o := .cells #[.int .i64 a1_0] 2 (0, 0)) (by (with_reducible repeat (first | refine blk_drewN ?_ _ | refine blk_drew ?_ | refine blk_alloc ?_ _)); exact BK48.out)) : gc1_0 ≠ gb165)); have n7_ := Aside0.mk ((by rw [hg]; exact Nat.ne_of_gt (blk_lt (g := gc1_0) (o := .cells #[.int .i64 a1_0] 2 (0, 0)) (by (with_reducible repeat (first | refine blk_drewN ?_ _ | refine blk_drew ?_ | refine blk_alloc ?_ _)); exact BK48.out)) : gb165 ≠ gc1_0)); have n8_ := Aside0.mk ((by rw [hg]; exact Nat.ne_of_lt (blk_lt (g := gc1_1) (o := .cells #[.int .i64 a1_1] 2 (0, 0)) (by (with_reducible repeat (first | refine blk_drewN ?_ _ | refine blk_drew ?_ | refine blk_alloc ?_ _)); exact BK49.out)) : gc1_1 ≠ gb165)); have n9_ := Aside0.mk ((by rw [hg]; exact Nat.ne_of_gt (blk_lt (g := gc1_1) (o := .cells #[.int .i64 a1_1] 2 (0, 0)) (by (with_reducible repeat (first | refine blk_drewN ?_ _ | refine blk_drew ?_ | refine blk_alloc ?_ _)); exact BK49.out)) : gb165 ≠ gc1_1)); clear BK48; clear BK49; clear HB; have BK48 := n0_; have BK49 := n1_; have HB := n2_; have BK165 := n3_; have GW165 := n4_; have GE165 := n5_; have NB48_165 := n6_; have NB165_48 := n7_; have NB49_165 := n8_; have NB165_49 := n9_; clear n0_ n1_ n2_ n3_ n4_ n5_ n6_ n7_ n8_ n9_; clear hb hbox hg; have hnb16 := NB165_48.out; have hnc16 := NB48_165.out; have hnb17 := NB165_49.out; have hnc17 := NB49_165.out; have hcz18_0 : w15.cell? ⟨gb165, 0, none⟩ = some (.int .i64 a0_0) := (blk_cell BK165.out 0).trans rfl; have hcz18_1 : w15.cell? ⟨gb165, 1, none⟩ = some (.int .i64 a0_1) := (blk_cell BK165.out 1).trans rfl; have hcz18_2 : w15.cell? ⟨gb165, 2, none⟩ = some (.int .i64 a0_2) := (blk_cell BK165.out 2).trans rfl; have hcz18_3 : w15.cell? ⟨gb165, 3, none⟩ = some (.int .i64 a0_3) := (blk_cell BK165.out 3).trans rfl; have hcz18_4 : w15.cell? ⟨gb165, 4, none⟩ = some (.bool a0_4) := (blk_cell BK165.out 4).trans rfl; have hfz18_0 := blk_frozen BK165.out 0; have hfz18_1 := blk_frozen BK165.out 1; have hfz18_2 := blk_frozen BK165.out 2; have hfz18_3 := blk_frozen BK165.out 3; have hfz18_4 := blk_frozen BK165.out 4; have hnb19 := NB48_49.out; have hnc19 := NB49_48.out; have hcz20_0 : w15.cell? ⟨gc1_0, 0, none⟩ = some (.int .i64 a1_0) := (blk_cell BK48.out 0).trans rfl; have hfz20_0 := blk_frozen BK48.out 0) | ((with_reducible refine gate_callee (f := 63) rfl ?_); refine goesL_ (some 7) rfl rfl Try.func63 (by kernel_rfl) rfl #[.agg #[.int .i64 a0_0, .int .i64 a0_1, .int .i64 a0_2, .int .i64 a0_3, .bool a0_4], .int .i64 a1_0] rfl (by (try simp only [List.map_toArray, List.map_cons, List.map_nil]); first | done | rfl | (simp only [List.length_drop, List.length_take]; rfl)) ?_; (with_reducible refine (impl_TlbEntry_yholds.calls a0_0 a0_1 a0_2 a0_3 a0_4 a1_0 true _ A3.out).mono ?_); rintro e w21 ⟨rfl, hb⟩; refine ⟨_, rfl, ?_⟩; have n0_ := Aside0.mk (blk_below (g := gc1_0) (o := .cells #[.int .i64 a1_0] 2 (0, 0)) (by (with_reducible repeat (first | refine blk_drewN ?_ _ | refine blk_drew ?_ | refine blk_alloc ?_ _)); exact BK48.out) hb); have n1_ := Aside0.mk (blk_below (g := gc1_1) (o := .cells #[.int .i64 a1_1] 2 (0, 0)) (by (with_reducible repeat (first | refine blk_drewN ?_ _ | refine blk_drew ?_ | refine blk_alloc ?_ _)); exact BK49.out) hb); have n2_ := Aside0.mk (blk_below (g := gb165) (o := .cells #[.int .i64 a0_0, .int .i64 a0_1, .int .i64 a0_2, .int .i64 a0_3, .bool a0_4] 50 (0, 0)) (by (with_reducible repeat (first | refine blk_drewN ?_ _ | refine blk_drew ?_ | refine blk_alloc ?_ _)); exact BK165.out) hb); have n3_ := Aside0.mk (below_step (by repeat (first | (with_reducible first | exact HB.out | apply below_alloc | apply pw_below_drewN | apply below_drew1 | refine below_set ?_ GE48.out | refine below_set ?_ GE49.out | refine below_set ?_ GE165.out) | exact HB.out)) hb); clear BK48; clear BK49; clear BK165; clear HB; have BK48 := n0_; have BK49 := n1_; have BK165 := n2_; have HB := n3_; clear n0_ n1_ n2_ n3_; (try clear hb); (try clear hb2); (try clear hk); (try clear hi); have hcz22_0 : w21.cell? ⟨gb165, 0, none⟩ = some (.int .i64 a0_0) := (blk_cell BK165.out 0).trans rfl; have hcz22_1 : w21.cell? ⟨gb165, 1, none⟩ = some (.int .i64 a0_1) := (blk_cell BK165.out 1).trans rfl; have hcz22_2 : w21.cell? ⟨gb165, 2, none⟩ = some (.int .i64 a0_2) := (blk_cell BK165.out 2).trans rfl; have hcz22_3 : w21.cell? ⟨gb165, 3, none⟩ = some (.int .i64 a0_3) := (blk_cell BK165.out 3).trans rfl; have hcz22_4 : w21.cell? ⟨gb165, 4, none⟩ = some (.bool a0_4) := (blk_cell BK165.out 4).trans rfl; have hfz22_0 := blk_frozen BK165.out 0; have hfz22_1 := blk_frozen BK165.out 1; have hfz22_2 := blk_frozen BK165.out 2; have hfz22_3 := blk_frozen BK165.out 3; have hfz22_4 := blk_frozen BK165.out 4; have hcz23_0 : w21.cell? ⟨gc1_1, 0, none⟩ = some (.int .i64 a1_1) := (blk_cell BK49.out 0).trans rfl; have hfz23_0 := blk_frozen BK49.out 0))
      go_ret
      exact ⟨by first | rfl | (simp [errW_none, errW_some] <;> rfl) | (simp [*, errW_none, errW_some] <;> rfl), by repeat (first | (with_reducible first | exact HB.out | apply below_alloc | apply pw_below_drewN | apply below_drew1 | refine below_set ?_ GE48.out | refine below_set ?_ GE49.out | refine below_set ?_ GE165.out) | exact HB.out)⟩
  · replace c4 := Bool.eq_false_iff.mpr c4
    subst c4
    have H1 : (some false) = some r := by rw [if_neg (show ¬ (false = true) by decide)] at H; exact H
    clear H
    have H := H1
    clear H1
    obtain rfl := Option.some.inj H
    go_enter Try.func62, Try.ntmps62
    go_wp2_with (first | ((with_reducible refine gate_dst (N := 3) rfl ?_); refine box_event ?hg (N := 3) ?hd (cs := #[.int .i64 a0_0, .int .i64 a0_1, .int .i64 a0_2, .int .i64 a0_3, .bool a0_4]) (t := 50) ?hr ?_; (case hd => rfl); (case hg => rfl); (case hr => first | (go_simp; done) | (go_simp; rfl)); intro gb165 hg w24 hbox hb; have n0_ := Aside0.mk (blk_below (g := gc1_0) (o := .cells #[.int .i64 a1_0] 2 (0, 0)) (by (with_reducible repeat (first | refine blk_drewN ?_ _ | refine blk_drew ?_ | refine blk_alloc ?_ _)); exact BK48.out) hb); have n1_ := Aside0.mk (blk_below (g := gc1_1) (o := .cells #[.int .i64 a1_1] 2 (0, 0)) (by (with_reducible repeat (first | refine blk_drewN ?_ _ | refine blk_drew ?_ | refine blk_alloc ?_ _)); exact BK49.out) hb); have n2_ := Aside0.mk (below_step (by repeat (first | (with_reducible first | exact HB.out | apply below_alloc | apply pw_below_drewN | apply below_drew1 | refine below_set ?_ GE48.out | refine below_set ?_ GE49.out) | exact HB.out)) hb); have n3_ := Aside0.mk (hbox); have n4_ := Aside0.mk ((by rw [hg]; exact (below_size (by repeat (first | (with_reducible first | exact HB.out | apply below_alloc | apply pw_below_drewN | apply below_drew1 | refine below_set ?_ GE48.out | refine below_set ?_ GE49.out) | exact HB.out))) : w.heap.size ≤ gb165)); have n5_ := Aside0.mk ((by rw [hg]; exact (below_size (by repeat (first | (with_reducible first | exact HB.out | apply below_alloc | apply pw_below_drewN | apply below_drew1 | refine below_set ?_ GE48.out | refine below_set ?_ GE49.out) | exact HB.out))) : w.heap.size ≤ gb165)); have n6_ := Aside0.mk ((by rw [hg]; exact Nat.ne_of_lt (blk_lt (g := gc1_0) (o := .cells #[.int .i64 a1_0] 2 (0, 0)) (by (with_reducible repeat (first | refine blk_drewN ?_ _ | refine blk_drew ?_ | refine blk_alloc ?_ _)); exact BK48.out)) : gc1_0 ≠ gb165)); have n7_ := Aside0.mk ((by rw [hg]; exact Nat.ne_of_gt (blk_lt (g := gc1_0) (o := .cells #[.int .i64 a1_0] 2 (0, 0)) (by (with_reducible repeat (first | refine blk_drewN ?_ _ | refine blk_drew ?_ | refine blk_alloc ?_ _)); exact BK48.out)) : gb165 ≠ gc1_0)); have n8_ := Aside0.mk ((by rw [hg]; exact Nat.ne_of_lt (blk_lt (g := gc1_1) (o := .cells #[.int .i64 a1_1] 2 (0, 0)) (by (with_reducible repeat (first | refine blk_drewN ?_ _ | refine blk_drew ?_ | refine blk_alloc ?_ _)); exact BK49.out)) : gc1_1 ≠ gb165)); have n9_ := Aside0.mk ((by rw [hg]; exact Nat.ne_of_gt (blk_lt (g := gc1_1) (o := .cells #[.int .i64 a1_1] 2 (0, 0)) (by (with_reducible repeat (first | refine blk_drewN ?_ _ | refine blk_drew ?_ | refine blk_alloc ?_ _)); exact BK49.out)) : gb165 ≠ gc1_1)); clear BK48; clear BK49; clear HB; have BK48 := n0_; have BK49 := n1_; have HB := n2_; have BK165 := n3_; have GW165 := n4_; have GE165 := n5_; have NB48_165 := n6_; have NB165_48 := n7_; have NB49_165 := n8_; have NB165_49 := n9_; clear n0_ n1_ n2_ n3_ n4_ n5_ n6_ n7_ n8_ n9_; clear hb hbox hg; have hnb25 := NB165_48.out; have hnc25 := NB48_165.out; have hnb26 := NB165_49.out; have hnc26 := NB49_165.out; have hcz27_0 : w24.cell? ⟨gb165, 0, none⟩ = some (.int .i64 a0_0) := (blk_cell BK165.out 0).trans rfl; have hcz27_1 : w24.cell? ⟨gb165, 1, none⟩ = some (.int .i64 a0_1) := (blk_cell BK165.out 1).trans rfl; have hcz27_2 : w24.cell? ⟨gb165, 2, none⟩ = some (.int .i64 a0_2) := (blk_cell BK165.out 2).trans rfl; have hcz27_3 : w24.cell? ⟨gb165, 3, none⟩ = some (.int .i64 a0_3) := (blk_cell BK165.out 3).trans rfl; have hcz27_4 : w24.cell? ⟨gb165, 4, none⟩ = some (.bool a0_4) := (blk_cell BK165.out 4).trans rfl; have hfz27_0 := blk_frozen BK165.out 0; have hfz27_1 := blk_frozen BK165.out 1; have hfz27_2 := blk_frozen BK165.out 2; have hfz27_3 := blk_frozen BK165.out 3; have hfz27_4 := blk_frozen BK165.out 4; have hnb28 := NB48_49.out; have hnc28 := NB49_48.out; have hcz29_0 : w24.cell? ⟨gc1_0, 0, none⟩ = some (.int .i64 a1_0) := (blk_cell BK48.out 0).trans rfl; have hfz29_0 := blk_frozen BK48.out 0) | ((with_reducible refine gate_callee (f := 63) rfl ?_); refine goesL_ (some 7) rfl rfl Try.func63 (by kernel_rfl) rfl #[.agg #[.int .i64 a0_0, .int .i64 a0_1, .int .i64 a0_2, .int .i64 a0_3, .bool a0_4], .int .i64 a1_0] rfl (by (try simp only [List.map_toArray, List.map_cons, List.map_nil]); first | done | rfl | (simp only [List.length_drop, List.length_take]; rfl)) ?_; (with_reducible refine (impl_TlbEntry_yholds.calls a0_0 a0_1 a0_2 a0_3 a0_4 a1_0 false _ A3.out).mono ?_); rintro e w30 ⟨rfl, hb⟩; refine ⟨_, rfl, ?_⟩; have n0_ := Aside0.mk (blk_below (g := gc1_0) (o := .cells #[.int .i64 a1_0] 2 (0, 0)) (by (with_reducible repeat (first | refine blk_drewN ?_ _ | refine blk_drew ?_ | refine blk_alloc ?_ _)); exact BK48.out) hb); have n1_ := Aside0.mk (blk_below (g := gc1_1) (o := .cells #[.int .i64 a1_1] 2 (0, 0)) (by (with_reducible repeat (first | refine blk_drewN ?_ _ | refine blk_drew ?_ | refine blk_alloc ?_ _)); exact BK49.out) hb); have n2_ := Aside0.mk (blk_below (g := gb165) (o := .cells #[.int .i64 a0_0, .int .i64 a0_1, .int .i64 a0_2, .int .i64 a0_3, .bool a0_4] 50 (0, 0)) (by (with_reducible repeat (first | refine blk_drewN ?_ _ | refine blk_drew ?_ | refine blk_alloc ?_ _)); exact BK165.out) hb); have n3_ := Aside0.mk (below_step (by repeat (first | (with_reducible first | exact HB.out | apply below_alloc | apply pw_below_drewN | apply below_drew1 | refine below_set ?_ GE48.out | refine below_set ?_ GE49.out | refine below_set ?_ GE165.out) | exact HB.out)) hb); clear BK48; clear BK49; clear BK165; clear HB; have BK48 := n0_; have BK49 := n1_; have BK165 := n2_; have HB := n3_; clear n0_ n1_ n2_ n3_; (try clear hb); (try clear hb2); (try clear hk); (try clear hi)))
    go_ret
    exact ⟨by first | rfl | (simp [errW_none, errW_some] <;> rfl) | (simp [*, errW_none, errW_some] <;> rfl), by repeat (first | (with_reducible first | exact HB.out | apply below_alloc | apply pw_below_drewN | apply below_drew1 | refine below_set ?_ GE48.out | refine below_set ?_ GE49.out | refine below_set ?_ GE165.out) | exact HB.out)⟩

end Go.Proofs.Ytaopkodopglgeaa.PFnExactTlbFind
