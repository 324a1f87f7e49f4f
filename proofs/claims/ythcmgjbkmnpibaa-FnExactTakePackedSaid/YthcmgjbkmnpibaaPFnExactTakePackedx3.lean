-- Printed for this claim by this session's own program.
import Derived.Test.YthcmgjbkmnpibaaPFnExactTakePackedx0
import Derived.Test.YthcmgjbkmnpibaaPFnExactTakePackedx2
namespace Go.Proofs.Ythcmgjbkmnpibaa.PFnExactTakePacked
open Go.RowKit Go.Proofs.YthcmgjbkmnpibaaW.PrintWords Go.Proofs.YthcmgjbkmnpibaaW.PrintLast Go.Proofs.YthcmgjbkmnpibaaW.PrintMore
attribute [local go_sem] max2_int min2_int max_two min_two max_three min_three max_four min_four   -- for this text's walks alone
set_option linter.unusedVariables false
set_option linter.unusedSimpArgs false

/-! ### impl_yplace: function 51 -/
def impl_yplace.f (a0 : ByteArray) (a1 : Int) (a2 : Int) : Option (Bool) := if (Int.tmod a1 4) = 0 then ((impl_yfits.f (a0.size : Int) a1 a2).bind fun t124 => (some t124)) else (some false)
set_option maxHeartbeats 8000000 in
set_option maxRecDepth 100000 in
theorem impl_yplace.calls (a0 : ByteArray) (a1 : Int) (a2 : Int) (r : Bool) (w : World) (h : impl_yplace.f a0 a1 a2 = some r) :
    Calls Try.prog 51 #[.string a0, .int .i64 a1, .int .i64 a2] w fun e w' => e = .returned (.bool r) ∧ Drawn0 w w' := by
  have H : (if (Int.tmod a1 4) = 0 then ((impl_yfits.f (a0.size : Int) a1 a2).bind fun t124 => (some t124)) else (some false)) = some r := h
  clear h
  by_cases c4 : (Int.tmod a1 4) = 0
  · rw [if_pos c4] at H
    have c4b0 : ((Int.tmod a1 4) == 0) = true := beq_iff_eq.mpr c4
    have c4b1 : ((Int.tmod a1 4) != 0) = false := bne_eq_false_iff_eq.mpr c4
    clear c4
    replace H := Option.bind_eq_some_iff.mp H
    obtain ⟨t124, A50, H⟩ := H
    replace H : (some t124) = some r := H
    have A5 := Aside0.mk A50
    clear A50
    obtain rfl := Option.some.inj H
    go_enter Try.func51, Try.ntmps51
    go_wp2_with (first | (go_at_call 84; (with_reducible refine (impl_yfits.calls (a0.size : Int) a1 a2 t124 _ A5.out).mono ?_); rintro e w' ⟨rfl, ⟨nd, rfl⟩⟩))
    go_ret
    exact ⟨by first | rfl | (simp; done) | (simp [*]; done), by repeat (first | exact Drawn0.refl _ | apply Drawn0.step)⟩
  · rw [if_neg c4] at H
    have c4b0 : ((Int.tmod a1 4) == 0) = false := beq_eq_false_iff_ne.mpr c4
    have c4b1 : ((Int.tmod a1 4) != 0) = true := bne_iff_ne.mpr c4
    obtain rfl := Option.some.inj H
    go_enter Try.func51, Try.ntmps51
    go_wp2
    go_ret
    exact ⟨by first | rfl | (simp; done) | (simp [*]; done), by repeat (first | exact Drawn0.refl _ | apply Drawn0.step)⟩

/-! ### impl_PackedFault: function 14 -/
def impl_PackedFault.f (a0 : ByteArray) (a1_0 : Int) (a1_1 : Int) (a1_2 : Int) (a1_3 : Bool) : Option (Int) := (impl_ymemOk.f a0).bind fun t126 => (if t126 = true then ((impl_yin.f a1_0 1 16).bind fun t127 => (if t127 = true then ((impl_yplace.f a0 a1_1 (wrap64 (16 * a1_0))).bind fun t128 => (if t128 = true then ((impl_yin.f a1_2 0 (wrap64 (a1_0 - 1))).bind fun t129 => (if t129 = true then (some 0) else (some 1))) else (some 1))) else (some 1))) else (some 1))
set_option maxHeartbeats 8000000 in
set_option maxRecDepth 100000 in
theorem impl_PackedFault.calls (a0 : ByteArray) (a1_0 : Int) (a1_1 : Int) (a1_2 : Int) (a1_3 : Bool) (r : Int) (w : World) (h : impl_PackedFault.f a0 a1_0 a1_1 a1_2 a1_3 = some r) :
    Calls Try.prog 14 #[.string a0, .agg #[.int .i64 a1_0, .int .i64 a1_1, .int .i64 a1_2, .bool a1_3]] w fun e w' => e = .returned (.int .i64 r) ∧ Below w.heap.size w w' := by
  have hu25 := Try.underlying25
  have HB := Aside0.mk (Below.refl w.heap.size w)
  have H : ((impl_ymemOk.f a0).bind fun t126 => (if t126 = true then ((impl_yin.f a1_0 1 16).bind fun t127 => (if t127 = true then ((impl_yplace.f a0 a1_1 (wrap64 (16 * a1_0))).bind fun t128 => (if t128 = true then ((impl_yin.f a1_2 0 (wrap64 (a1_0 - 1))).bind fun t129 => (if t129 = true then (some 0) else (some 1))) else (some 1))) else (some 1))) else (some 1))) = some r := h
  clear h
  replace H := Option.bind_eq_some_iff.mp H
  obtain ⟨t126, A30, H⟩ := H
  replace H : (if t126 = true then ((impl_yin.f a1_0 1 16).bind fun t127 => (if t127 = true then ((impl_yplace.f a0 a1_1 (wrap64 (16 * a1_0))).bind fun t128 => (if t128 = true then ((impl_yin.f a1_2 0 (wrap64 (a1_0 - 1))).bind fun t129 => (if t129 = true then (some 0) else (some 1))) else (some 1))) else (some 1))) else (some 1)) = some r := H
  have A3 := Aside0.mk A30
  clear A30
  by_cases c4 : t126 = true
  · subst c4
    have H1 : ((impl_yin.f a1_0 1 16).bind fun t127 => (if t127 = true then ((impl_yplace.f a0 a1_1 (wrap64 (16 * a1_0))).bind fun t128 => (if t128 = true then ((impl_yin.f a1_2 0 (wrap64 (a1_0 - 1))).bind fun t129 => (if t129 = true then (some 0) else (some 1))) else (some 1))) else (some 1))) = some r := by rw [if_pos rfl] at H; exact H
    clear H
    have H := H1
    clear H1
    replace H := Option.bind_eq_some_iff.mp H
    obtain ⟨t127, A50, H⟩ := H
    replace H : (if t127 = true then ((impl_yplace.f a0 a1_1 (wrap64 (16 * a1_0))).bind fun t128 => (if t128 = true then ((impl_yin.f a1_2 0 (wrap64 (a1_0 - 1))).bind fun t129 => (if t129 = true then (some 0) else (some 1))) else (some 1))) else (some 1)) = some r := H
    have A5 := Aside0.mk A50
    clear A50
    by_cases c6 : t127 = true
    · subst c6
      have H1 : ((impl_yplace.f a0 a1_1 (wrap64 (16 * a1_0))).bind fun t128 => (if t128 = true then ((impl_yin.f a1_2 0 (wrap64 (a1_0 - 1))).bind fun t129 => (if t129 = true then (some 0) else (some 1))) else (some 1))) = some r := by rw [if_pos rfl] at H; exact H
      clear H
      have H := H1
      clear H1
      replace H := Option.bind_eq_some_iff.mp H
      obtain ⟨t128, A70, H⟩ := H
      replace H : (if t128 = true then ((impl_yin.f a1_2 0 (wrap64 (a1_0 - 1))).bind fun t129 => (if t129 = true then (some 0) else (some 1))) else (some 1)) = some r := H
      have A7 := Aside0.mk A70
      clear A70
      by_cases c8 : t128 = true
      · subst c8
        have H1 : ((impl_yin.f a1_2 0 (wrap64 (a1_0 - 1))).bind fun t129 => (if t129 = true then (some 0) else (some 1))) = some r := by rw [if_pos rfl] at H; exact H
        clear H
        have H := H1
        clear H1
        replace H := Option.bind_eq_some_iff.mp H
        obtain ⟨t129, A90, H⟩ := H
        replace H : (if t129 = true then (some 0) else (some 1)) = some r := H
        have A9 := Aside0.mk A90
        clear A90
        by_cases c10 : t129 = true
        · subst c10
          have H1 : (some 0) = some r := by rw [if_pos rfl] at H; exact H
          clear H
          have H := H1
          clear H1
          obtain rfl := Option.some.inj H
          go_enter Try.func14, Try.ntmps14
          go_wp2_with (first | ((with_reducible refine gate_dst (N := 3) rfl ?_); refine box_event ?hg (N := 3) ?hd (cs := #[.int .i64 a1_0, .int .i64 a1_1, .int .i64 a1_2, .bool a1_3]) (t := 25) ?hr ?_; (case hd => rfl); (case hg => rfl); (case hr => first | (go_simp; done) | (go_simp; rfl)); intro gb125 hg w11 hbox hb; have n0_ := Aside0.mk (below_step (zW HB.out) hb); have n1_ := Aside0.mk (hbox); have n2_ := zG hg (zW HB.out); have n3_ := zG hg (zW HB.out); clear HB; have HB := n0_; have BK125 := n1_; have GW125 := n2_; have GE125 := n3_; clear n0_ n1_ n2_ n3_; clear hb hbox hg) | ((with_reducible refine gate_callee (f := 49) rfl ?_); refine goesL_ (some 6) rfl rfl Try.func49 (by kernel_rfl) rfl #[.string a0] rfl (by (try simp only [List.map_toArray, List.map_cons, List.map_nil]); first | done | rfl | (simp only [List.length_drop, List.length_take]; rfl)) ?_; (with_reducible refine (impl_ymemOk.calls a0 true _ A3.out).mono ?_); rintro e w' ⟨rfl, ⟨nd, rfl⟩⟩; refine ⟨_, rfl, ?_⟩; have hcz12_0 : w11.cell? ⟨gb125, 0, none⟩ = some (.int .i64 a1_0) := (blk_cell BK125.out 0).trans rfl; have hcz12_1 : w11.cell? ⟨gb125, 1, none⟩ = some (.int .i64 a1_1) := (blk_cell BK125.out 1).trans rfl; have hcz12_2 : w11.cell? ⟨gb125, 2, none⟩ = some (.int .i64 a1_2) := (blk_cell BK125.out 2).trans rfl; have hcz12_3 : w11.cell? ⟨gb125, 3, none⟩ = some (.bool a1_3) := (blk_cell BK125.out 3).trans rfl; have hfz12_0 := blk_frozen BK125.out 0; have hfz12_1 := blk_frozen BK125.out 1; have hfz12_2 := blk_frozen BK125.out 2; have hfz12_3 := blk_frozen BK125.out 3) | (go_at_call 50; (with_reducible refine (impl_yin.calls a1_0 1 16 true _ A5.out).mono ?_); rintro e w' ⟨rfl, ⟨nd, rfl⟩⟩) | (go_at_call 51; (with_reducible refine (impl_yplace.calls a0 a1_1 (wrap64 (16 * a1_0)) true _ A7.out).mono ?_); rintro e w' ⟨rfl, ⟨nd, rfl⟩⟩) | (go_at_call 50; (with_reducible refine (impl_yin.calls a1_2 0 (wrap64 (a1_0 - 1)) true _ A9.out).mono ?_); rintro e w' ⟨rfl, ⟨nd, rfl⟩⟩))
          go_ret
          exact ⟨by first | rfl | (simp [errW_none, errW_some] <;> rfl) | (simp [*, errW_none, errW_some] <;> rfl), zW HB.out⟩
        · replace c10 := Bool.eq_false_iff.mpr c10
          subst c10
          have H1 : (some 1) = some r := by rw [if_neg (show ¬ (false = true) by decide)] at H; exact H
          clear H
          have H := H1
          clear H1
          obtain rfl := Option.some.inj H
          go_enter Try.func14, Try.ntmps14
          go_wp2_with (first | ((with_reducible refine gate_dst (N := 3) rfl ?_); refine box_event ?hg (N := 3) ?hd (cs := #[.int .i64 a1_0, .int .i64 a1_1, .int .i64 a1_2, .bool a1_3]) (t := 25) ?hr ?_; (case hd => rfl); (case hg => rfl); (case hr => first | (go_simp; done) | (go_simp; rfl)); intro gb125 hg w13 hbox hb; have n0_ := Aside0.mk (below_step (zW HB.out) hb); have n1_ := Aside0.mk (hbox); have n2_ := zG hg (zW HB.out); have n3_ := zG hg (zW HB.out); clear HB; have HB := n0_; have BK125 := n1_; have GW125 := n2_; have GE125 := n3_; clear n0_ n1_ n2_ n3_; clear hb hbox hg) | ((with_reducible refine gate_callee (f := 49) rfl ?_); refine goesL_ (some 6) rfl rfl Try.func49 (by kernel_rfl) rfl #[.string a0] rfl (by (try simp only [List.map_toArray, List.map_cons, List.map_nil]); first | done | rfl | (simp only [List.length_drop, List.length_take]; rfl)) ?_; (with_reducible refine (impl_ymemOk.calls a0 true _ A3.out).mono ?_); rintro e w' ⟨rfl, ⟨nd, rfl⟩⟩; refine ⟨_, rfl, ?_⟩; have hcz14_0 : w13.cell? ⟨gb125, 0, none⟩ = some (.int .i64 a1_0) := (blk_cell BK125.out 0).trans rfl; have hcz14_1 : w13.cell? ⟨gb125, 1, none⟩ = some (.int .i64 a1_1) := (blk_cell BK125.out 1).trans rfl; have hcz14_2 : w13.cell? ⟨gb125, 2, none⟩ = some (.int .i64 a1_2) := (blk_cell BK125.out 2).trans rfl; have hcz14_3 : w13.cell? ⟨gb125, 3, none⟩ = some (.bool a1_3) := (blk_cell BK125.out 3).trans rfl; have hfz14_0 := blk_frozen BK125.out 0; have hfz14_1 := blk_frozen BK125.out 1; have hfz14_2 := blk_frozen BK125.out 2; have hfz14_3 := blk_frozen BK125.out 3) | (go_at_call 50; (with_reducible refine (impl_yin.calls a1_0 1 16 true _ A5.out).mono ?_); rintro e w' ⟨rfl, ⟨nd, rfl⟩⟩) | (go_at_call 51; (with_reducible refine (impl_yplace.calls a0 a1_1 (wrap64 (16 * a1_0)) true _ A7.out).mono ?_); rintro e w' ⟨rfl, ⟨nd, rfl⟩⟩) | (go_at_call 50; (with_reducible refine (impl_yin.calls a1_2 0 (wrap64 (a1_0 - 1)) false _ A9.out).mono ?_); rintro e w' ⟨rfl, ⟨nd, rfl⟩⟩))
          go_ret
          exact ⟨by first | rfl | (simp [errW_none, errW_some] <;> rfl) | (simp [*, errW_none, errW_some] <;> rfl), zW HB.out⟩
      · replace c8 := Bool.eq_false_iff.mpr c8
        subst c8
        have H1 : (some 1) = some r := by rw [if_neg (show ¬ (false = true) by decide)] at H; exact H
        clear H
        have H := H1
        clear H1
        obtain rfl := Option.some.inj H
        go_enter Try.func14, Try.ntmps14
        go_wp2_with (first | ((with_reducible refine gate_dst (N := 3) rfl ?_); refine box_event ?hg (N := 3) ?hd (cs := #[.int .i64 a1_0, .int .i64 a1_1, .int .i64 a1_2, .bool a1_3]) (t := 25) ?hr ?_; (case hd => rfl); (case hg => rfl); (case hr => first | (go_simp; done) | (go_simp; rfl)); intro gb125 hg w15 hbox hb; have n0_ := Aside0.mk (below_step (zW HB.out) hb); have n1_ := Aside0.mk (hbox); have n2_ := zG hg (zW HB.out); have n3_ := zG hg (zW HB.out); clear HB; have HB := n0_; have BK125 := n1_; have GW125 := n2_; have GE125 := n3_; clear n0_ n1_ n2_ n3_; clear hb hbox hg) | ((with_reducible refine gate_callee (f := 49) rfl ?_); refine goesL_ (some 6) rfl rfl Try.func49 (by kernel_rfl) rfl #[.string a0] rfl (by (try simp only [List.map_toArray, List.map_cons, List.map_nil]); first | done | rfl | (simp only [List.length_drop, List.length_take]; rfl)) ?_; (with_reducible refine (impl_ymemOk.calls a0 true _ A3.out).mono ?_); rintro e w' ⟨rfl, ⟨nd, rfl⟩⟩; refine ⟨_, rfl, ?_⟩; have hcz16_0 : w15.cell? ⟨gb125, 0, none⟩ = some (.int .i64 a1_0) := (blk_cell BK125.out 0).trans rfl; have hcz16_1 : w15.cell? ⟨gb125, 1, none⟩ = some (.int .i64 a1_1) := (blk_cell BK125.out 1).trans rfl; have hcz16_2 : w15.cell? ⟨gb125, 2, none⟩ = some (.int .i64 a1_2) := (blk_cell BK125.out 2).trans rfl; have hcz16_3 : w15.cell? ⟨gb125, 3, none⟩ = some (.bool a1_3) := (blk_cell BK125.out 3).trans rfl; have hfz16_0 := blk_frozen BK125.out 0; have hfz16_1 := blk_frozen BK125.out 1; have hfz16_2 := blk_frozen BK125.out 2; have hfz16_3 := blk_frozen BK125.out 3) | (go_at_call 50; (with_reducible refine (impl_yin.calls a1_0 1 16 true _ A5.out).mono ?_); rintro e w' ⟨rfl, ⟨nd, rfl⟩⟩) | (go_at_call 51; (with_reducible refine (impl_yplace.calls a0 a1_1 (wrap64 (16 * a1_0)) false _ A7.out).mono ?_); rintro e w' ⟨rfl, ⟨nd, rfl⟩⟩))
        go_ret
        exact ⟨by first | rfl | (simp [errW_none, errW_some] <;> rfl) | (simp [*, errW_none, errW_some] <;> rfl), zW HB.out⟩
    · replace c6 := Bool.eq_false_iff.mpr c6
      subst c6
      have H1 : (some 1) = some r := by rw [if_neg (show ¬ (false = true) by decide)] at H; exact H
      clear H
      have H := H1
      clear H1
      obtain rfl := Option.some.inj H
      go_enter Try.func14, Try.ntmps14
      go_wp2_with (first | ((with_reducible refine gate_dst (N := 3) rfl ?_); refine box_event ?hg (N := 3) ?hd (cs := #[.int .i64 a1_0, .int .i64 a1_1, .int .i64 a1_2, .bool a1_3]) (t := 25) ?hr ?_; (case hd => rfl); (case hg => rfl); (case hr => first | (go_simp; done) | (go_simp; rfl)); intro gb125 hg w17 hbox hb; have n0_ := Aside0.mk (below_step (zW HB.out) hb); have n1_ := Aside0.mk (hbox); have n2_ := zG hg (zW HB.out); have n3_ := zG hg (zW HB.out); clear HB; have HB := n0_; have BK125 := n1_; have GW125 := n2_; have GE125 := n3_; clear n0_ n1_ n2_ n3_; clear hb hbox hg) | ((with_reducible refine gate_callee (f := 49) rfl ?_); refine goesL_ (some 6) rfl rfl Try.func49 (by kernel_rfl) rfl #[.string a0] rfl (by (try simp only [List.map_toArray, List.map_cons, List.map_nil]); first | done | rfl | (simp only [List.length_drop, List.length_take]; rfl)) ?_; (with_reducible refine (impl_ymemOk.calls a0 true _ A3.out).mono ?_); rintro e w' ⟨rfl, ⟨nd, rfl⟩⟩; refine ⟨_, rfl, ?_⟩; have hcz18_0 : w17.cell? ⟨gb125, 0, none⟩ = some (.int .i64 a1_0) := (blk_cell BK125.out 0).trans rfl; have hcz18_1 : w17.cell? ⟨gb125, 1, none⟩ = some (.int .i64 a1_1) := (blk_cell BK125.out 1).trans rfl; have hcz18_2 : w17.cell? ⟨gb125, 2, none⟩ = some (.int .i64 a1_2) := (blk_cell BK125.out 2).trans rfl; have hcz18_3 : w17.cell? ⟨gb125, 3, none⟩ = some (.bool a1_3) := (blk_cell BK125.out 3).trans rfl; have hfz18_0 := blk_frozen BK125.out 0; have hfz18_1 := blk_frozen BK125.out 1; have hfz18_2 := blk_frozen BK125.out 2; have hfz18_3 := blk_frozen BK125.out 3) | (go_at_call 50; (with_reducible refine (impl_yin.calls a1_0 1 16 false _ A5.out).mono ?_); rintro e w' ⟨rfl, ⟨nd, rfl⟩⟩))
      go_ret
      exact ⟨by first | rfl | (simp [errW_none, errW_some] <;> rfl) | (simp [*, errW_none, errW_some] <;> rfl), zW HB.out⟩
  · replace c4 := Bool.eq_false_iff.mpr c4
    subst c4
    have H1 : (some 1) = some r := by rw [if_neg (show ¬ (false = true) by decide)] at H; exact H
    clear H
    have H := H1
    clear H1
    obtain rfl := Option.some.inj H
    go_enter Try.func14, Try.ntmps14
    go_wp2_with (first | ((with_reducible refine gate_dst (N := 3) rfl ?_); refine box_event ?hg (N := 3) ?hd (cs := #[.int .i64 a1_0, .int .i64 a1_1, .int .i64 a1_2, .bool a1_3]) (t := 25) ?hr ?_; (case hd => rfl); (case hg => rfl); (case hr => first | (go_simp; done) | (go_simp; rfl)); intro gb125 hg w19 hbox hb; have n0_ := Aside0.mk (below_step (zW HB.out) hb); have n1_ := Aside0.mk (hbox); have n2_ := zG hg (zW HB.out); have n3_ := zG hg (zW HB.out); clear HB; have HB := n0_; have BK125 := n1_; have GW125 := n2_; have GE125 := n3_; clear n0_ n1_ n2_ n3_; clear hb hbox hg) | ((with_reducible refine gate_callee (f := 49) rfl ?_); refine goesL_ (some 6) rfl rfl Try.func49 (by kernel_rfl) rfl #[.string a0] rfl (by (try simp only [List.map_toArray, List.map_cons, List.map_nil]); first | done | rfl | (simp only [List.length_drop, List.length_take]; rfl)) ?_; (with_reducible refine (impl_ymemOk.calls a0 false _ A3.out).mono ?_); rintro e w' ⟨rfl, ⟨nd, rfl⟩⟩; refine ⟨_, rfl, ?_⟩))
    go_ret
    exact ⟨by first | rfl | (simp [errW_none, errW_some] <;> rfl) | (simp [*, errW_none, errW_some] <;> rfl), zW HB.out⟩

/-! ### impl_ymemPacked: function 56 -/
def impl_ymemPacked.f (k : Nat) (a0 : ByteArray) (a1_0 : Int) (a1_1 : Int) (a1_2 : Int) (a1_3 : Bool) : Option (Int) := (impl_ybig.f k (([a0] : List ByteArray))).bind fun t134 => (if t134 = true then (some 2) else ((impl_PackedFault.f a0 a1_0 a1_1 a1_2 a1_3).bind fun t135 => (some t135)))
theorem impl_ymemPacked.mono : ∀ a0 a1 a2 a3 a4 k, LeO (impl_ymemPacked.f k a0 a1 a2 a3 a4) (impl_ymemPacked.f (k + 1) a0 a1 a2 a3 a4) := by
  intro a0 a1 a2 a3 a4 k
  unfold impl_ymemPacked.f
  repeat' first
      | (with_reducible exact impl_ybig.mono _ _)
      | (with_reducible exact LeO.refl _)
      | (with_reducible exact LeO.none _)
      | (with_reducible refine LeO.ite ?_ ?_)
      | (with_reducible refine LeO.bind ?_ (fun _ => ?_))
      | exact impl_ybig.mono _ _
      | exact LeO.none _
      | refine LeO.ite ?_ ?_
      | refine LeO.bind ?_ (fun _ => ?_)
set_option maxHeartbeats 8000000 in
set_option maxRecDepth 100000 in
theorem impl_ymemPacked.calls (k : Nat) (a0 : ByteArray) (a1_0 : Int) (a1_1 : Int) (a1_2 : Int) (a1_3 : Bool) (r : Int) (w : World) (h : impl_ymemPacked.f k a0 a1_0 a1_1 a1_2 a1_3 = some r) :
    Calls Try.prog 56 #[.string a0, .agg #[.int .i64 a1_0, .int .i64 a1_1, .int .i64 a1_2, .bool a1_3]] w fun e w' => e = .returned (.int .i64 r) ∧ Below w.heap.size w w' := by
  have hu25 := Try.underlying25
  have HB := Aside0.mk (Below.refl w.heap.size w)
  have H : ((impl_ybig.f k (([a0] : List ByteArray))).bind fun t134 => (if t134 = true then (some 2) else ((impl_PackedFault.f a0 a1_0 a1_1 a1_2 a1_3).bind fun t135 => (some t135)))) = some r := h
  clear h
  obtain ⟨y131, hy131⟩ : ∃ y_ : List ByteArray, y_ = (([a0] : List ByteArray)) := ⟨_, rfl⟩
  replace H : ((impl_ybig.f k y131).bind fun t134 => (if t134 = true then (some 2) else ((impl_PackedFault.f a0 a1_0 a1_1 a1_2 a1_3).bind fun t135 => (some t135)))) = some r := by first | (rw [hy131]; with_reducible exact H) | (have H2_ := (Option.bind_some _ _).symm.trans H; rw [hy131]; with_reducible exact H2_) | (have H2_ := (Option.bind_some _ _).symm.trans H; with_reducible exact H2_) | with_reducible exact H | (rw [hy131]; exact H) | exact H
  have Ny131 := Aside0.mk hy131
  clear hy131
  replace H := Option.bind_eq_some_iff.mp H
  obtain ⟨t134, A30, H⟩ := H
  replace H : (if t134 = true then (some 2) else ((impl_PackedFault.f a0 a1_0 a1_1 a1_2 a1_3).bind fun t135 => (some t135))) = some r := H
  have A3 := Aside0.mk A30
  clear A30
  by_cases c4 : t134 = true
  · subst c4
    have H1 : (some 2) = some r := by rw [if_pos rfl] at H; exact H
    clear H
    have H := H1
    clear H1
    obtain rfl := Option.some.inj H
    go_enter Try.func56, Try.ntmps56
    go_wp2_with (first | ((with_reducible refine gate_dst (N := 3) rfl ?_); refine box_event ?hg (N := 3) ?hd (cs := #[.int .i64 a1_0, .int .i64 a1_1, .int .i64 a1_2, .bool a1_3]) (t := 25) ?hr ?_; (case hd => rfl); (case hg => rfl); (case hr => first | (go_simp; done) | (go_simp; rfl)); intro gb130 hg w5 hbox hb; have n0_ := Aside0.mk (below_step (zW HB.out) hb); have n1_ := Aside0.mk (hbox); have n2_ := zG hg (zW HB.out); have n3_ := zG hg (zW HB.out); clear HB; have HB := n0_; have BK130 := n1_; have GW130 := n2_; have GE130 := n3_; clear n0_ n1_ n2_ n3_; clear hb hbox hg) | ((with_reducible refine gate_dst (N := 6) rfl ?_); refine Kd.R_lit Kd.string _ 9 ?hg (N := 6) ?hd (xs := ([a0] : List ByteArray)) (inner := [.string a0]) (ok := fun _ => True) (okp := fun _ => True) ?hr ?hp (fun _ hk => hk) trivial (Below.refl _ _) (Nat.le_refl _) (by simp) ?_; (case hd => rfl); (case hg => rfl); (case hr => first | (go_simp; done) | (go_simp; rfl)); (case hp => exact (Reps.one (show Kd.M Kd.string _ _ _ a0 [.string a0] from rfl) (Reps.none _ _))); intro v132 w6 ho7 hb hg_ hnew_; clear hg_ hnew_; (first | rw [← Ny131.out] at ho7 | (simp only [Int.reduceToNat] at ho7; rw [← Ny131.out] at ho7)); have n0_ := Aside0.mk (Kd.R_lower ho7 (below_size (zW HB.out))); have n1_ := Aside0.mk (blk_below (g := gb130) (o := .cells #[.int .i64 a1_0, .int .i64 a1_1, .int .i64 a1_2, .bool a1_3] 25 (0, 0)) (zB BK130.out) hb); have n2_ := Aside0.mk (below_step (zW HB.out) hb); clear BK130; clear HB; have HO133 := n0_; have BK130 := n1_; have HB := n2_; clear n0_ n1_ n2_; clear hb ho7; obtain ⟨Ao8, co8, eo8⟩ := Kd.R_slice HO133.out; subst eo8) | ((with_reducible refine gate_callee (f := 70) rfl ?_); refine goesL_ (some 7) rfl rfl Try.func70 (by kernel_rfl) rfl #[.slice Ao8 y131.length co8] rfl (by (try simp only [List.map_toArray, List.map_cons, List.map_nil]); first | done | rfl | (simp only [List.length_drop, List.length_take]; rfl)) ?_; (with_reducible refine (impl_ybig.calls k _ _ y131 true _ ?side1 ?side2 A3.out).mono ?_); (case side1 => repeat (first | exact (Kd.R_reads' HO133.out).2.2 | (with_reducible refine Kd.C_alloc ?_ _) | (with_reducible refine Kd.C_drewN ?_ _) | (with_reducible refine Kd.C_drew ?_))); (case side2 => exact (Kd.R_reads' HO133.out).2.1); rintro e w' ⟨rfl, ⟨nd, rfl⟩⟩; refine ⟨_, rfl, ?_⟩))
    go_ret
    exact ⟨by first | rfl | (simp [errW_none, errW_some] <;> rfl) | (simp [*, errW_none, errW_some] <;> rfl), zW HB.out⟩
  · replace c4 := Bool.eq_false_iff.mpr c4
    subst c4
    have H1 : ((impl_PackedFault.f a0 a1_0 a1_1 a1_2 a1_3).bind fun t135 => (some t135)) = some r := by rw [if_neg (show ¬ (false = true) by decide)] at H; exact H
    clear H
    have H := H1
    clear H1
    replace H := Option.bind_eq_some_iff.mp H
    obtain ⟨t135, A90, H⟩ := H
    replace H : (some t135) = some r := H
    have A9 := Aside0.mk A90
    clear A90
    obtain rfl := Option.some.inj H
    go_enter Try.func56, Try.ntmps56
    go_wp2_with (first | ((with_reducible refine gate_dst (N := 3) rfl ?_); refine box_event ?hg (N := 3) ?hd (cs := #[.int .i64 a1_0, .int .i64 a1_1, .int .i64 a1_2, .bool a1_3]) (t := 25) ?hr ?_; (case hd => rfl); (case hg => rfl); (case hr => first | (go_simp; done) | (go_simp; rfl)); intro gb130 hg w10 hbox hb; have n0_ := Aside0.mk (below_step (zW HB.out) hb); have n1_ := Aside0.mk (hbox); have n2_ := zG hg (zW HB.out); have n3_ := zG hg (zW HB.out); clear HB; have HB := n0_; have BK130 := n1_; have GW130 := n2_; have GE130 := n3_; clear n0_ n1_ n2_ n3_; clear hb hbox hg) | ((with_reducible refine gate_dst (N := 6) rfl ?_); refine Kd.R_lit Kd.string _ 9 ?hg (N := 6) ?hd (xs := ([a0] : List ByteArray)) (inner := [.string a0]) (ok := fun _ => True) (okp := fun _ => True) ?hr ?hp (fun _ hk => hk) trivial (Below.refl _ _) (Nat.le_refl _) (by simp) ?_; (case hd => rfl); (case hg => rfl); (case hr => first | (go_simp; done) | (go_simp; rfl)); (case hp => exact (Reps.one (show Kd.M Kd.string _ _ _ a0 [.string a0] from rfl) (Reps.none _ _))); intro v132 w11 ho12 hb hg_ hnew_; clear hg_ hnew_; (first | rw [← Ny131.out] at ho12 | (simp only [Int.reduceToNat] at ho12; rw [← Ny131.out] at ho12)); have n0_ := Aside0.mk (Kd.R_lower ho12 (below_size (zW HB.out))); have n1_ := Aside0.mk (blk_below (g := gb130) (o := .cells #[.int .i64 a1_0, .int .i64 a1_1, .int .i64 a1_2, .bool a1_3] 25 (0, 0)) (zB BK130.out) hb); have n2_ := Aside0.mk (below_step (zW HB.out) hb); clear BK130; clear HB; have HO133 := n0_; have BK130 := n1_; have HB := n2_; clear n0_ n1_ n2_; clear hb ho12; obtain ⟨Ao13, co13, eo13⟩ := Kd.R_slice HO133.out; subst eo13) | ((with_reducible refine gate_callee (f := 70) rfl ?_); refine goesL_ (some 7) rfl rfl Try.func70 (by kernel_rfl) rfl #[.slice Ao13 y131.length co13] rfl (by (try simp only [List.map_toArray, List.map_cons, List.map_nil]); first | done | rfl | (simp only [List.length_drop, List.length_take]; rfl)) ?_; (with_reducible refine (impl_ybig.calls k _ _ y131 false _ ?side1 ?side2 A3.out).mono ?_); (case side1 => repeat (first | exact (Kd.R_reads' HO133.out).2.2 | (with_reducible refine Kd.C_alloc ?_ _) | (with_reducible refine Kd.C_drewN ?_ _) | (with_reducible refine Kd.C_drew ?_))); (case side2 => exact (Kd.R_reads' HO133.out).2.1); rintro e w' ⟨rfl, ⟨nd, rfl⟩⟩; refine ⟨_, rfl, ?_⟩; have hcz14_0 : w11.cell? ⟨gb130, 0, none⟩ = some (.int .i64 a1_0) := (blk_cell BK130.out 0).trans rfl; have hcz14_1 : w11.cell? ⟨gb130, 1, none⟩ = some (.int .i64 a1_1) := (blk_cell BK130.out 1).trans rfl; have hcz14_2 : w11.cell? ⟨gb130, 2, none⟩ = some (.int .i64 a1_2) := (blk_cell BK130.out 2).trans rfl; have hcz14_3 : w11.cell? ⟨gb130, 3, none⟩ = some (.bool a1_3) := (blk_cell BK130.out 3).trans rfl; have hfz14_0 := blk_frozen BK130.out 0; have hfz14_1 := blk_frozen BK130.out 1; have hfz14_2 := blk_frozen BK130.out 2; have hfz14_3 := blk_frozen BK130.out 3) | ((with_reducible refine gate_callee (f := 14) rfl ?_); refine goesL_ (some 10) rfl rfl Try.func14 (by kernel_rfl) rfl #[.string a0, .agg #[.int .i64 a1_0, .int .i64 a1_1, .int .i64 a1_2, .bool a1_3]] rfl (by (try simp only [List.map_toArray, List.map_cons, List.map_nil]); first | done | rfl | (simp only [List.length_drop, List.length_take]; rfl)) ?_; (with_reducible refine (impl_PackedFault.calls a0 a1_0 a1_1 a1_2 a1_3 t135 _ A9.out).mono ?_); rintro e w15 ⟨rfl, hb⟩; refine ⟨_, rfl, ?_⟩; have n0_ := Aside0.mk (Kd.R_below (zR HO133.out) hb); have n1_ := Aside0.mk (blk_below (g := gb130) (o := .cells #[.int .i64 a1_0, .int .i64 a1_1, .int .i64 a1_2, .bool a1_3] 25 (0, 0)) (zB BK130.out) hb); have n2_ := Aside0.mk (below_step (zW HB.out) hb); clear HO133; clear BK130; clear HB; have HO133 := n0_; have BK130 := n1_; have HB := n2_; clear n0_ n1_ n2_; (try clear hb); (try clear hb2); (try clear hk); (try clear hi)))
    go_ret
    exact ⟨by first | rfl | (simp [errW_none, errW_some] <;> rfl) | (simp [*, errW_none, errW_some] <;> rfl), zW HB.out⟩

/-! ### impl_ywordAt: function 74 -/
def impl_ywordAt.f (a0 : ByteArray) (a1 : Int) : Option (Int) := if 0 ≤ a1 then (if a1 < (a0.size : Int) then (if 0 ≤ (wrap64 (a1 + 1)) then (if (wrap64 (a1 + 1)) < (a0.size : Int) then (if 0 ≤ (wrap64 (a1 + 2)) then (if (wrap64 (a1 + 2)) < (a0.size : Int) then (if 0 ≤ (wrap64 (a1 + 3)) then (if (wrap64 (a1 + 3)) < (a0.size : Int) then (some (Go.bits .or .i64 (Go.bits .or .i64 (Go.bits .or .i64 (wrap64 (bt a0 a1)) (wrap64 ((wrap64 (bt a0 (wrap64 (a1 + 1)))) * 256))) (wrap64 ((wrap64 (bt a0 (wrap64 (a1 + 2)))) * 65536))) (wrap64 ((wrap64 (bt a0 (wrap64 (a1 + 3)))) * 16777216)))) else (none)) else (none)) else (none)) else (none)) else (none)) else (none)) else (none)) else (none)
set_option maxHeartbeats 8000000 in
set_option maxRecDepth 100000 in
theorem impl_ywordAt.calls (a0 : ByteArray) (a1 : Int) (r : Int) (w : World) (h : impl_ywordAt.f a0 a1 = some r) :
    Calls Try.prog 74 #[.string a0, .int .i64 a1] w fun e w' => e = .returned (.int .i64 r) ∧ Drawn0 w w' := by
  have H : (if 0 ≤ a1 then (if a1 < (a0.size : Int) then (if 0 ≤ (wrap64 (a1 + 1)) then (if (wrap64 (a1 + 1)) < (a0.size : Int) then (if 0 ≤ (wrap64 (a1 + 2)) then (if (wrap64 (a1 + 2)) < (a0.size : Int) then (if 0 ≤ (wrap64 (a1 + 3)) then (if (wrap64 (a1 + 3)) < (a0.size : Int) then (some (Go.bits .or .i64 (Go.bits .or .i64 (Go.bits .or .i64 (wrap64 (bt a0 a1)) (wrap64 ((wrap64 (bt a0 (wrap64 (a1 + 1)))) * 256))) (wrap64 ((wrap64 (bt a0 (wrap64 (a1 + 2)))) * 65536))) (wrap64 ((wrap64 (bt a0 (wrap64 (a1 + 3)))) * 16777216)))) else (none)) else (none)) else (none)) else (none)) else (none)) else (none)) else (none)) else (none)) = some r := h
  clear h
  by_cases c3 : 0 ≤ a1
  · rw [if_pos c3] at H
    have c3b0 : decide (0 ≤ a1) = true := decide_eq_true c3
    clear c3
    by_cases c4 : a1 < (a0.size : Int)
    · rw [if_pos c4] at H
      have c4b0 : decide (a1 < (a0.size : Int)) = true := decide_eq_true c4
      clear c4
      obtain ⟨ji6, hji6⟩ : ∃ j_ : Int, (wrap64 (a1 + 1)) = j_ := ⟨_, rfl⟩
      replace H : (if 0 ≤ (ji6) then (if (ji6) < (a0.size : Int) then (if 0 ≤ (wrap64 (a1 + 2)) then (if (wrap64 (a1 + 2)) < (a0.size : Int) then (if 0 ≤ (wrap64 (a1 + 3)) then (if (wrap64 (a1 + 3)) < (a0.size : Int) then (some (Go.bits .or .i64 (Go.bits .or .i64 (Go.bits .or .i64 (wrap64 (bt a0 a1)) (wrap64 ((wrap64 (bt a0 (ji6))) * 256))) (wrap64 ((wrap64 (bt a0 (wrap64 (a1 + 2)))) * 65536))) (wrap64 ((wrap64 (bt a0 (wrap64 (a1 + 3)))) * 16777216)))) else (none)) else (none)) else (none)) else (none)) else (none)) else (none)) = some r := by first | (rw [hji6] at H; exact H) | (simp only [hji6] at H ⊢; exact H)
      have hji6w : (IntKind.i64.wrap (a1 + 1)) = ji6 := (i64_w _).trans hji6
      by_cases c7 : 0 ≤ (ji6)
      · rw [if_pos c7] at H
        have c7b0 : decide (0 ≤ (ji6)) = true := decide_eq_true c7
        clear c7
        by_cases c8 : (ji6) < (a0.size : Int)
        · rw [if_pos c8] at H
          have c8b0 : decide ((ji6) < (a0.size : Int)) = true := decide_eq_true c8
          clear c8
          obtain ⟨ji10, hji10⟩ : ∃ j_ : Int, (wrap64 (a1 + 2)) = j_ := ⟨_, rfl⟩
          replace H : (if 0 ≤ (ji10) then (if (ji10) < (a0.size : Int) then (if 0 ≤ (wrap64 (a1 + 3)) then (if (wrap64 (a1 + 3)) < (a0.size : Int) then (some (Go.bits .or .i64 (Go.bits .or .i64 (Go.bits .or .i64 (wrap64 (bt a0 a1)) (wrap64 ((wrap64 (bt a0 (ji6))) * 256))) (wrap64 ((wrap64 (bt a0 (ji10))) * 65536))) (wrap64 ((wrap64 (bt a0 (wrap64 (a1 + 3)))) * 16777216)))) else (none)) else (none)) else (none)) else (none)) = some r := by first | (rw [hji10] at H; exact H) | (simp only [hji10] at H ⊢; exact H)
          have hji10w : (IntKind.i64.wrap (a1 + 2)) = ji10 := (i64_w _).trans hji10
          by_cases c11 : 0 ≤ (ji10)
          · rw [if_pos c11] at H
            have c11b0 : decide (0 ≤ (ji10)) = true := decide_eq_true c11
            clear c11
            by_cases c12 : (ji10) < (a0.size : Int)
            · rw [if_pos c12] at H
              have c12b0 : decide ((ji10) < (a0.size : Int)) = true := decide_eq_true c12
              clear c12
              obtain ⟨ji14, hji14⟩ : ∃ j_ : Int, (wrap64 (a1 + 3)) = j_ := ⟨_, rfl⟩
              replace H : (if 0 ≤ (ji14) then (if (ji14) < (a0.size : Int) then (some (Go.bits .or .i64 (Go.bits .or .i64 (Go.bits .or .i64 (wrap64 (bt a0 a1)) (wrap64 ((wrap64 (bt a0 (ji6))) * 256))) (wrap64 ((wrap64 (bt a0 (ji10))) * 65536))) (wrap64 ((wrap64 (bt a0 (ji14))) * 16777216)))) else (none)) else (none)) = some r := by first | (rw [hji14] at H; exact H) | (simp only [hji14] at H ⊢; exact H)
              have hji14w : (IntKind.i64.wrap (a1 + 3)) = ji14 := (i64_w _).trans hji14
              by_cases c15 : 0 ≤ (ji14)
              · rw [if_pos c15] at H
                have c15b0 : decide (0 ≤ (ji14)) = true := decide_eq_true c15
                clear c15
                by_cases c16 : (ji14) < (a0.size : Int)
                · rw [if_pos c16] at H
                  have c16b0 : decide ((ji14) < (a0.size : Int)) = true := decide_eq_true c16
                  clear c16
                  obtain rfl := Option.some.inj H
                  have p5 : 0 ≤ (a1 : Int) := of_decide_eq_true (by first | (with_reducible assumption) | assumption)
                  have q5 : a1 < (a0.size : Int) := of_decide_eq_true (by first | (with_reducible assumption) | assumption)
                  have hx5 := bt_at a0 a1
                  replace p5 := eq_true p5
                  replace q5 := eq_true q5
                  have p9 : 0 ≤ ((ji6) : Int) := of_decide_eq_true (by first | (with_reducible assumption) | assumption)
                  have q9 : (ji6) < (a0.size : Int) := of_decide_eq_true (by first | (with_reducible assumption) | assumption)
                  have hx9 := bt_at a0 (ji6)
                  replace p9 := eq_true p9
                  replace q9 := eq_true q9
                  have p13 : 0 ≤ ((ji10) : Int) := of_decide_eq_true (by first | (with_reducible assumption) | assumption)
                  have q13 : (ji10) < (a0.size : Int) := of_decide_eq_true (by first | (with_reducible assumption) | assumption)
                  have hx13 := bt_at a0 (ji10)
                  replace p13 := eq_true p13
                  replace q13 := eq_true q13
                  have p17 : 0 ≤ ((ji14) : Int) := of_decide_eq_true (by first | (with_reducible assumption) | assumption)
                  have q17 : (ji14) < (a0.size : Int) := of_decide_eq_true (by first | (with_reducible assumption) | assumption)
                  have hx17 := bt_at a0 (ji14)
                  replace p17 := eq_true p17
                  replace q17 := eq_true q17
                  go_enter Try.func74, Try.ntmps74
                  go_wp2
                  repeat (go_quiet (fail); try go_wp2)
                  go_ret
                  exact ⟨by first | rfl | (simp; done) | (simp only [← hji6, ← hji10, ← hji14] <;> (first | rfl | simp)) | (simp [*]; done), by repeat (first | exact Drawn0.refl _ | apply Drawn0.step)⟩
                · rw [if_neg c16] at H
                  exact absurd H (by simp)
              · rw [if_neg c15] at H
                exact absurd H (by simp)
            · rw [if_neg c12] at H
              exact absurd H (by simp)
          · rw [if_neg c11] at H
            exact absurd H (by simp)
        · rw [if_neg c8] at H
          exact absurd H (by simp)
      · rw [if_neg c7] at H
        exact absurd H (by simp)
    · rw [if_neg c4] at H
      exact absurd H (by simp)
  · rw [if_neg c3] at H
    exact absurd H (by simp)

/-! ### impl_yreadDesc: function 87 -/
def impl_yreadDesc.l0 : Nat → ByteArray → Int → Int → Int → Int → Int → Int → Option (Int × Int × Int × Int)
  | 0, _, _, _, _, _, _, _ => none
  | k + 1, x0, x1, x7, x138000, x138001, x138002, x138003 => if x7 < 4 then ((impl_ywordAt.f x0 (wrap64 (x1 + (wrap64 (4 * x7))))).bind fun t138 => (if x7 = 0 then (impl_yreadDesc.l0 k x0 x1 (wrap64 (x7 + 1)) t138 x138001 x138002 x138003) else (if x7 = 1 then (impl_yreadDesc.l0 k x0 x1 (wrap64 (x7 + 1)) x138000 t138 x138002 x138003) else (if x7 = 2 then (impl_yreadDesc.l0 k x0 x1 (wrap64 (x7 + 1)) x138000 x138001 t138 x138003) else (if x7 = 3 then (impl_yreadDesc.l0 k x0 x1 (wrap64 (x7 + 1)) x138000 x138001 x138002 t138) else (none)))))) else (some (x138000, x138001, x138002, x138003))
def impl_yreadDesc.f (k : Nat) (a0 : ByteArray) (a1 : Int) : Option (Int × Int × Int × Int) := impl_yreadDesc.l0 k a0 a1 0 0 0 0 0
theorem impl_yreadDesc.mono_l : ∀ k, (∀ y0 y1 y2 y3 y4 y5 y6, LeO (impl_yreadDesc.l0 k y0 y1 y2 y3 y4 y5 y6) (impl_yreadDesc.l0 (k + 1) y0 y1 y2 y3 y4 y5 y6))
  | 0 => fun _ _ _ _ _ _ _ r h => by simp [impl_yreadDesc.l0] at h
  | k + 1 => by
    have ih0 := impl_yreadDesc.mono_l k
    · intro y0 y1 y2 y3 y4 y5 y6
      unfold impl_yreadDesc.l0
      repeat' first
      | (with_reducible exact ih0 _ _ _ _ _ _ _)
      | (with_reducible exact LeO.refl _)
      | (with_reducible exact LeO.none _)
      | (with_reducible refine LeO.ite ?_ ?_)
      | (with_reducible refine LeO.bind ?_ (fun _ => ?_))
      | exact ih0 _ _ _ _ _ _ _
      | exact LeO.none _
      | refine LeO.ite ?_ ?_
      | refine LeO.bind ?_ (fun _ => ?_)
theorem impl_yreadDesc.mono : ∀ a0 a1 k, LeO (impl_yreadDesc.f k a0 a1) (impl_yreadDesc.f (k + 1) a0 a1) := by
  intro a0 a1 k
  have ih0 := impl_yreadDesc.mono_l k
  unfold impl_yreadDesc.f
  repeat' first
      | (with_reducible exact ih0 _ _ _ _ _ _ _)
      | (with_reducible exact LeO.refl _)
      | (with_reducible exact LeO.none _)
      | (with_reducible refine LeO.ite ?_ ?_)
      | (with_reducible refine LeO.bind ?_ (fun _ => ?_))
      | exact ih0 _ _ _ _ _ _ _
      | exact LeO.none _
      | refine LeO.ite ?_ ?_
      | refine LeO.bind ?_ (fun _ => ?_)
set_option maxHeartbeats 8000000 in
set_option maxRecDepth 100000 in
theorem impl_yreadDesc.calls (k : Nat) (a0 : ByteArray) (a1 : Int) (r1 : Int) (r2 : Int) (r3 : Int) (r4 : Int) (w : World) (h : impl_yreadDesc.f k a0 a1 = some (r1, r2, r3, r4)) :
    Calls Try.prog 87 #[.string a0, .int .i64 a1] w fun e w' => e = .returned (.agg #[.int .i64 r1, .int .i64 r2, .int .i64 r3, .int .i64 r4]) ∧ Below w.heap.size w w' := by
  have hu112 := Try.underlying112
  have HB := Aside0.mk (Below.refl w.heap.size w)
  have H : (impl_yreadDesc.l0 k a0 a1 0 0 0 0 0) = some (r1, r2, r3, r4) := h
  clear h
  have H' := Aside0.mk H
  clear H
  go_enter Try.func87, Try.ntmps87
  go_wp2_with (first | ((with_reducible refine gate_dst (N := 4) rfl ?_); refine box_event ?hg (N := 4) ?hd (cs := #[.int .i64 0, .int .i64 0, .int .i64 0, .int .i64 0]) (t := 112) ?hr ?_; (case hd => rfl); (case hg => rfl); (case hr => first | (go_simp; done) | (go_simp; rfl)); intro gb136 hg w3 hbox hb; have n0_ := Aside0.mk (below_step (zW HB.out) hb); have n1_ := Aside0.mk (hbox); have n2_ := zG hg (zW HB.out); have n3_ := zG hg (zW HB.out); clear HB; have HB := n0_; have BK136 := n1_; have GW136 := n2_; have GE136 := n3_; clear n0_ n1_ n2_ n3_; clear hb hbox hg) | ((with_reducible refine gate_dst (N := 5) rfl ?_); refine box_event ?hg (N := 5) ?hd (cs := #[.int .i64 0, .int .i64 0, .int .i64 0, .int .i64 0]) (t := 112) ?hr ?_; (case hd => rfl); (case hg => rfl); (case hr => first | (go_simp; done) | (go_simp; rfl)); intro gb137 hg w4 hbox hb; have n0_ := Aside0.mk (blk_below (g := gb136) (o := .cells #[.int .i64 0, .int .i64 0, .int .i64 0, .int .i64 0] 112 (0, 0)) (zB BK136.out) hb); have n1_ := Aside0.mk (below_step (zW HB.out) hb); have n2_ := Aside0.mk (hbox); have n3_ := zG hg (zW HB.out); have n4_ := zG hg (zW HB.out); have n5_ := Aside0.mk ((by rw [hg]; exact Nat.ne_of_lt (blk_lt (g := gb136) (o := .cells #[.int .i64 0, .int .i64 0, .int .i64 0, .int .i64 0] 112 (0, 0)) (zB BK136.out)) : gb136 ≠ gb137)); have n6_ := Aside0.mk ((by rw [hg]; exact Nat.ne_of_gt (blk_lt (g := gb136) (o := .cells #[.int .i64 0, .int .i64 0, .int .i64 0, .int .i64 0] 112 (0, 0)) (zB BK136.out)) : gb137 ≠ gb136)); clear BK136; clear HB; have BK136 := n0_; have HB := n1_; have BK137 := n2_; have GW137 := n3_; have GE137 := n4_; have NB136_137 := n5_; have NB137_136 := n6_; clear n0_ n1_ n2_ n3_ n4_ n5_ n6_; clear hb hbox hg))
  go_loopg [7] k (fun kq v7 w' => ∃ (x7_1 : Int) (x138000_1 : Int) (x138001_1 : Int) (x138002_1 : Int) (x138003_1 : Int), v7 = .int .i64 x7_1 ∧ Aside0 (impl_yreadDesc.l0 kq a0 a1 x7_1 x138000_1 x138001_1 x138002_1 x138003_1 = some (r1, r2, r3, r4)) ∧ Aside0 (kq ≤ k) ∧ Aside0 (w'.heap[gb136]? = some (.cells #[.int .i64 0, .int .i64 0, .int .i64 0, .int .i64 0] 112 (0, 0))) ∧ Aside0 (w'.heap[gb137]? = some (.cells #[.int .i64 x138000_1, .int .i64 x138001_1, .int .i64 x138002_1, .int .i64 x138003_1] 112 (0, 0))) ∧ Aside0 (Below w.heap.size w w'))
  case atStart => exact ⟨(0), (0), (0), (0), (0), (by first | rfl | (simp; done) | (simp [*]; done)), H', ⟨Nat.le_refl _⟩, ⟨by (with_reducible repeat (first | refine blk_drewN ?_ _ | refine blk_drew ?_ | refine blk_alloc ?_ _)); exact BK136.out⟩, ⟨by (with_reducible repeat (first | refine blk_drewN ?_ _ | refine blk_drew ?_ | refine blk_alloc ?_ _)); exact BK137.out⟩, ⟨zW HB.out⟩⟩
  case round =>
    clear H'
    try clear p2
    obtain ⟨x7_1, x138000_1, x138001_1, x138002_1, x138003_1, rfl, HA, HK1, BK136, BK137, HB⟩ := hrel
    cases gk with
    | zero => exact absurd HA.out (by simp [impl_yreadDesc.l0])
    | succ k1 =>
      have H := HA.out
      clear HA
      simp only [impl_yreadDesc.l0] at H
      by_cases c5 : x7_1 < 4
      · rw [if_pos c5] at H
        have c5b0 : decide (x7_1 < 4) = true := decide_eq_true c5
        clear c5
        replace H := Option.bind_eq_some_iff.mp H
        obtain ⟨t138, A60, H⟩ := H
        replace H : (if x7_1 = 0 then (impl_yreadDesc.l0 k1 a0 a1 (wrap64 (x7_1 + 1)) t138 x138001_1 x138002_1 x138003_1) else (if x7_1 = 1 then (impl_yreadDesc.l0 k1 a0 a1 (wrap64 (x7_1 + 1)) x138000_1 t138 x138002_1 x138003_1) else (if x7_1 = 2 then (impl_yreadDesc.l0 k1 a0 a1 (wrap64 (x7_1 + 1)) x138000_1 x138001_1 t138 x138003_1) else (if x7_1 = 3 then (impl_yreadDesc.l0 k1 a0 a1 (wrap64 (x7_1 + 1)) x138000_1 x138001_1 x138002_1 t138) else (none))))) = some (r1, r2, r3, r4) := H
        have A6 := Aside0.mk A60
        clear A60
        by_cases c7 : x7_1 = 0
        · rw [if_pos c7] at H
          have c7j : x7_1.toNat = id 0 := by rw [id_eq]; omega
          have c7p : (0 ≤ x7_1 ∧ x7_1 < 4) = True := eq_true (by omega)
          clear c7
          have H' := Aside0.mk H
          clear H
          go_wp2_with (first | ((with_reducible refine gate_callee (f := 74) rfl ?_); refine goesL_ (some 16) rfl rfl Try.func74 (by kernel_rfl) rfl #[.string a0, .int .i64 (wrap64 (a1 + (wrap64 (4 * x7_1))))] rfl (by (try simp only [List.map_toArray, List.map_cons, List.map_nil]); first | done | rfl | (simp only [List.length_drop, List.length_take]; rfl)) ?_; (with_reducible refine (impl_ywordAt.calls a0 (wrap64 (a1 + (wrap64 (4 * x7_1)))) t138 _ A6.out).mono ?_); rintro e w' ⟨rfl, ⟨nd, rfl⟩⟩; refine ⟨_, rfl, ?_⟩; (try (rw [drewN_self wr]; generalize hq_ : World.drewN wr _ = wr; have n0_ : Aside0 (wr.heap[gb136]? = some (.cells #[.int .i64 0, .int .i64 0, .int .i64 0, .int .i64 0] 112 (0, 0))) := ⟨by rw [← hq_]; exact (zB BK136.out)⟩; have n1_ : Aside0 (wr.heap[gb137]? = some (.cells #[.int .i64 x138000_1, .int .i64 x138001_1, .int .i64 x138002_1, .int .i64 x138003_1] 112 (0, 0))) := ⟨by rw [← hq_]; exact (zB BK137.out)⟩; have n2_ : Aside0 (Below w.heap.size w wr) := ⟨by rw [← hq_]; exact (zW HB.out)⟩; clear BK136 BK137 HB hq_; have BK136 := n0_; have BK137 := n1_; have HB := n2_; clear n0_ n1_ n2_)); have hnb8 := NB137_136.out; have hnc8 := NB136_137.out; have hcz9_0 : wr.cell? ⟨gb137, 0, none⟩ = some (.int .i64 x138000_1) := (blk_cell BK137.out 0).trans rfl; have hcz9_1 : wr.cell? ⟨gb137, 1, none⟩ = some (.int .i64 x138001_1) := (blk_cell BK137.out 1).trans rfl; have hcz9_2 : wr.cell? ⟨gb137, 2, none⟩ = some (.int .i64 x138002_1) := (blk_cell BK137.out 2).trans rfl; have hcz9_3 : wr.cell? ⟨gb137, 3, none⟩ = some (.int .i64 x138003_1) := (blk_cell BK137.out 3).trans rfl; have hfz9_0 := blk_frozen BK137.out 0; have hfz9_1 := blk_frozen BK137.out 1; have hfz9_2 := blk_frozen BK137.out 2; have hfz9_3 := blk_frozen BK137.out 3))
          go_roundg k1
          case measure => have := HK1.out; omega
          case rel => exact ⟨(wrap64 (x7_1 + 1)), (t138), (x138001_1), (x138002_1), (x138003_1), (by first | rfl | (simp; done) | (simp [*]; done)), H', ⟨by have := HK1.out; omega⟩, ⟨by (with_reducible repeat (first | refine blk_drewN ?_ _ | refine blk_drew ?_ | refine blk_alloc ?_ _)); refine blk_far ?_ NB136_137.out _; (with_reducible repeat (first | refine blk_drewN ?_ _ | refine blk_drew ?_ | refine blk_alloc ?_ _)); exact BK136.out⟩, ⟨by (with_reducible repeat (first | refine blk_drewN ?_ _ | refine blk_drew ?_ | refine blk_alloc ?_ _)); refine blk_put (cs := #[.int .i64 x138000_1, .int .i64 x138001_1, .int .i64 x138002_1, .int .i64 x138003_1]) ?_ 0 _ rfl; (with_reducible repeat (first | refine blk_drewN ?_ _ | refine blk_drew ?_ | refine blk_alloc ?_ _)); exact BK137.out⟩, ⟨zW HB.out⟩⟩
        · rw [if_neg c7] at H
          clear c7
          by_cases c10 : x7_1 = 1
          · rw [if_pos c10] at H
            have c10j : x7_1.toNat = id 1 := by rw [id_eq]; omega
            have c10p : (0 ≤ x7_1 ∧ x7_1 < 4) = True := eq_true (by omega)
            clear c10
            have H' := Aside0.mk H
            clear H
            go_wp2_with (first | ((with_reducible refine gate_callee (f := 74) rfl ?_); refine goesL_ (some 16) rfl rfl Try.func74 (by kernel_rfl) rfl #[.string a0, .int .i64 (wrap64 (a1 + (wrap64 (4 * x7_1))))] rfl (by (try simp only [List.map_toArray, List.map_cons, List.map_nil]); first | done | rfl | (simp only [List.length_drop, List.length_take]; rfl)) ?_; (with_reducible refine (impl_ywordAt.calls a0 (wrap64 (a1 + (wrap64 (4 * x7_1)))) t138 _ A6.out).mono ?_); rintro e w' ⟨rfl, ⟨nd, rfl⟩⟩; refine ⟨_, rfl, ?_⟩; (try (rw [drewN_self wr]; generalize hq_ : World.drewN wr _ = wr; have n0_ : Aside0 (wr.heap[gb136]? = some (.cells #[.int .i64 0, .int .i64 0, .int .i64 0, .int .i64 0] 112 (0, 0))) := ⟨by rw [← hq_]; exact (zB BK136.out)⟩; have n1_ : Aside0 (wr.heap[gb137]? = some (.cells #[.int .i64 x138000_1, .int .i64 x138001_1, .int .i64 x138002_1, .int .i64 x138003_1] 112 (0, 0))) := ⟨by rw [← hq_]; exact (zB BK137.out)⟩; have n2_ : Aside0 (Below w.heap.size w wr) := ⟨by rw [← hq_]; exact (zW HB.out)⟩; clear BK136 BK137 HB hq_; have BK136 := n0_; have BK137 := n1_; have HB := n2_; clear n0_ n1_ n2_)); have hnb11 := NB137_136.out; have hnc11 := NB136_137.out; have hcz12_0 : wr.cell? ⟨gb137, 0, none⟩ = some (.int .i64 x138000_1) := (blk_cell BK137.out 0).trans rfl; have hcz12_1 : wr.cell? ⟨gb137, 1, none⟩ = some (.int .i64 x138001_1) := (blk_cell BK137.out 1).trans rfl; have hcz12_2 : wr.cell? ⟨gb137, 2, none⟩ = some (.int .i64 x138002_1) := (blk_cell BK137.out 2).trans rfl; have hcz12_3 : wr.cell? ⟨gb137, 3, none⟩ = some (.int .i64 x138003_1) := (blk_cell BK137.out 3).trans rfl; have hfz12_0 := blk_frozen BK137.out 0; have hfz12_1 := blk_frozen BK137.out 1; have hfz12_2 := blk_frozen BK137.out 2; have hfz12_3 := blk_frozen BK137.out 3))
            go_roundg k1
            case measure => have := HK1.out; omega
            case rel => exact ⟨(wrap64 (x7_1 + 1)), (x138000_1), (t138), (x138002_1), (x138003_1), (by first | rfl | (simp; done) | (simp [*]; done)), H', ⟨by have := HK1.out; omega⟩, ⟨by (with_reducible repeat (first | refine blk_drewN ?_ _ | refine blk_drew ?_ | refine blk_alloc ?_ _)); refine blk_far ?_ NB136_137.out _; (with_reducible repeat (first | refine blk_drewN ?_ _ | refine blk_drew ?_ | refine blk_alloc ?_ _)); exact BK136.out⟩, ⟨by (with_reducible repeat (first | refine blk_drewN ?_ _ | refine blk_drew ?_ | refine blk_alloc ?_ _)); refine blk_put (cs := #[.int .i64 x138000_1, .int .i64 x138001_1, .int .i64 x138002_1, .int .i64 x138003_1]) ?_ 1 _ rfl; (with_reducible repeat (first | refine blk_drewN ?_ _ | refine blk_drew ?_ | refine blk_alloc ?_ _)); exact BK137.out⟩, ⟨zW HB.out⟩⟩
          · rw [if_neg c10] at H
            clear c10
            by_cases c13 : x7_1 = 2
            · rw [if_pos c13] at H
              have c13j : x7_1.toNat = id 2 := by rw [id_eq]; omega
              have c13p : (0 ≤ x7_1 ∧ x7_1 < 4) = True := eq_true (by omega)
              clear c13
              have H' := Aside0.mk H
              clear H
              go_wp2_with (first | ((with_reducible refine gate_callee (f := 74) rfl ?_); refine goesL_ (some 16) rfl rfl Try.func74 (by kernel_rfl) rfl #[.string a0, .int .i64 (wrap64 (a1 + (wrap64 (4 * x7_1))))] rfl (by (try simp only [List.map_toArray, List.map_cons, List.map_nil]); first | done | rfl | (simp only [List.length_drop, List.length_take]; rfl)) ?_; (with_reducible refine (impl_ywordAt.calls a0 (wrap64 (a1 + (wrap64 (4 * x7_1)))) t138 _ A6.out).mono ?_); rintro e w' ⟨rfl, ⟨nd, rfl⟩⟩; refine ⟨_, rfl, ?_⟩; (try (rw [drewN_self wr]; generalize hq_ : World.drewN wr _ = wr; have n0_ : Aside0 (wr.heap[gb136]? = some (.cells #[.int .i64 0, .int .i64 0, .int .i64 0, .int .i64 0] 112 (0, 0))) := ⟨by rw [← hq_]; exact (zB BK136.out)⟩; have n1_ : Aside0 (wr.heap[gb137]? = some (.cells #[.int .i64 x138000_1, .int .i64 x138001_1, .int .i64 x138002_1, .int .i64 x138003_1] 112 (0, 0))) := ⟨by rw [← hq_]; exact (zB BK137.out)⟩; have n2_ : Aside0 (Below w.heap.size w wr) := ⟨by rw [← hq_]; exact (zW HB.out)⟩; clear BK136 BK137 HB hq_; have BK136 := n0_; have BK137 := n1_; have HB := n2_; clear n0_ n1_ n2_)); have hnb14 := NB137_136.out; have hnc14 := NB136_137.out; have hcz15_0 : wr.cell? ⟨gb137, 0, none⟩ = some (.int .i64 x138000_1) := (blk_cell BK137.out 0).trans rfl; have hcz15_1 : wr.cell? ⟨gb137, 1, none⟩ = some (.int .i64 x138001_1) := (blk_cell BK137.out 1).trans rfl; have hcz15_2 : wr.cell? ⟨gb137, 2, none⟩ = some (.int .i64 x138002_1) := (blk_cell BK137.out 2).trans rfl; have hcz15_3 : wr.cell? ⟨gb137, 3, none⟩ = some (.int .i64 x138003_1) := (blk_cell BK137.out 3).trans rfl; have hfz15_0 := blk_frozen BK137.out 0; have hfz15_1 := blk_frozen BK137.out 1; have hfz15_2 := blk_frozen BK137.out 2; have hfz15_3 := blk_frozen BK137.out 3))
              go_roundg k1
              case measure => have := HK1.out; omega
              case rel => exact ⟨(wrap64 (x7_1 + 1)), (x138000_1), (x138001_1), (t138), (x138003_1), (by first | rfl | (simp; done) | (simp [*]; done)), H', ⟨by have := HK1.out; omega⟩, ⟨by (with_reducible repeat (first | refine blk_drewN ?_ _ | refine blk_drew ?_ | refine blk_alloc ?_ _)); refine blk_far ?_ NB136_137.out _; (with_reducible repeat (first | refine blk_drewN ?_ _ | refine blk_drew ?_ | refine blk_alloc ?_ _)); exact BK136.out⟩, ⟨by (with_reducible repeat (first | refine blk_drewN ?_ _ | refine blk_drew ?_ | refine blk_alloc ?_ _)); refine blk_put (cs := #[.int .i64 x138000_1, .int .i64 x138001_1, .int .i64 x138002_1, .int .i64 x138003_1]) ?_ 2 _ rfl; (with_reducible repeat (first | refine blk_drewN ?_ _ | refine blk_drew ?_ | refine blk_alloc ?_ _)); exact BK137.out⟩, ⟨zW HB.out⟩⟩
            · rw [if_neg c13] at H
              clear c13
              by_cases c16 : x7_1 = 3
              · rw [if_pos c16] at H
                have c16j : x7_1.toNat = id 3 := by rw [id_eq]; omega
                have c16p : (0 ≤ x7_1 ∧ x7_1 < 4) = True := eq_true (by omega)
                clear c16
                have H' := Aside0.mk H
                clear H
                go_wp2_with (first | ((with_reducible refine gate_callee (f := 74) rfl ?_); refine goesL_ (some 16) rfl rfl Try.func74 (by kernel_rfl) rfl #[.string a0, .int .i64 (wrap64 (a1 + (wrap64 (4 * x7_1))))] rfl (by (try simp only [List.map_toArray, List.map_cons, List.map_nil]); first | done | rfl | (simp only [List.length_drop, List.length_take]; rfl)) ?_; (with_reducible refine (impl_ywordAt.calls a0 (wrap64 (a1 + (wrap64 (4 * x7_1)))) t138 _ A6.out).mono ?_); rintro e w' ⟨rfl, ⟨nd, rfl⟩⟩; refine ⟨_, rfl, ?_⟩; (try (rw [drewN_self wr]; generalize hq_ : World.drewN wr _ = wr; have n0_ : Aside0 (wr.heap[gb136]? = some (.cells #[.int .i64 0, .int .i64 0, .int .i64 0, .int .i64 0] 112 (0, 0))) := ⟨by rw [← hq_]; exact (zB BK136.out)⟩; have n1_ : Aside0 (wr.heap[gb137]? = some (.cells #[.int .i64 x138000_1, .int .i64 x138001_1, .int .i64 x138002_1, .int .i64 x138003_1] 112 (0, 0))) := ⟨by rw [← hq_]; exact (zB BK137.out)⟩; have n2_ : Aside0 (Below w.heap.size w wr) := ⟨by rw [← hq_]; exact (zW HB.out)⟩; clear BK136 BK137 HB hq_; have BK136 := n0_; have BK137 := n1_; have HB := n2_; clear n0_ n1_ n2_)); have hnb17 := NB137_136.out; have hnc17 := NB136_137.out; have hcz18_0 : wr.cell? ⟨gb137, 0, none⟩ = some (.int .i64 x138000_1) := (blk_cell BK137.out 0).trans rfl; have hcz18_1 : wr.cell? ⟨gb137, 1, none⟩ = some (.int .i64 x138001_1) := (blk_cell BK137.out 1).trans rfl; have hcz18_2 : wr.cell? ⟨gb137, 2, none⟩ = some (.int .i64 x138002_1) := (blk_cell BK137.out 2).trans rfl; have hcz18_3 : wr.cell? ⟨gb137, 3, none⟩ = some (.int .i64 x138003_1) := (blk_cell BK137.out 3).trans rfl; have hfz18_0 := blk_frozen BK137.out 0; have hfz18_1 := blk_frozen BK137.out 1; have hfz18_2 := blk_frozen BK137.out 2; have hfz18_3 := blk_frozen BK137.out 3))
                go_roundg k1
                case measure => have := HK1.out; omega
                case rel => exact ⟨(wrap64 (x7_1 + 1)), (x138000_1), (x138001_1), (x138002_1), (t138), (by first | rfl | (simp; done) | (simp [*]; done)), H', ⟨by have := HK1.out; omega⟩, ⟨by (with_reducible repeat (first | refine blk_drewN ?_ _ | refine blk_drew ?_ | refine blk_alloc ?_ _)); refine blk_far ?_ NB136_137.out _; (with_reducible repeat (first | refine blk_drewN ?_ _ | refine blk_drew ?_ | refine blk_alloc ?_ _)); exact BK136.out⟩, ⟨by (with_reducible repeat (first | refine blk_drewN ?_ _ | refine blk_drew ?_ | refine blk_alloc ?_ _)); refine blk_put (cs := #[.int .i64 x138000_1, .int .i64 x138001_1, .int .i64 x138002_1, .int .i64 x138003_1]) ?_ 3 _ rfl; (with_reducible repeat (first | refine blk_drewN ?_ _ | refine blk_drew ?_ | refine blk_alloc ?_ _)); exact BK137.out⟩, ⟨zW HB.out⟩⟩
              · rw [if_neg c16] at H
                exact absurd H (by simp)
      · rw [if_neg c5] at H
        have c5b0 : decide (x7_1 < 4) = false := decide_eq_false c5
        clear c5
        simp only [Option.some.injEq, Prod.mk.injEq] at H
        obtain ⟨rfl, rfl, rfl, rfl⟩ := H
        have hnb19 := NB137_136.out
        have hnc19 := NB136_137.out
        have hcz20_0 : wr.cell? ⟨gb137, 0, none⟩ = some (.int .i64 x138000_1) := (blk_cell BK137.out 0).trans rfl
        have hcz20_1 : wr.cell? ⟨gb137, 1, none⟩ = some (.int .i64 x138001_1) := (blk_cell BK137.out 1).trans rfl
        have hcz20_2 : wr.cell? ⟨gb137, 2, none⟩ = some (.int .i64 x138002_1) := (blk_cell BK137.out 2).trans rfl
        have hcz20_3 : wr.cell? ⟨gb137, 3, none⟩ = some (.int .i64 x138003_1) := (blk_cell BK137.out 3).trans rfl
        have hfz20_0 := blk_frozen BK137.out 0
        have hfz20_1 := blk_frozen BK137.out 1
        have hfz20_2 := blk_frozen BK137.out 2
        have hfz20_3 := blk_frozen BK137.out 3
        have hcz21_0 : wr.cell? ⟨gb136, 0, none⟩ = some (.int .i64 0) := (blk_cell BK136.out 0).trans rfl
        have hcz21_1 : wr.cell? ⟨gb136, 1, none⟩ = some (.int .i64 0) := (blk_cell BK136.out 1).trans rfl
        have hcz21_2 : wr.cell? ⟨gb136, 2, none⟩ = some (.int .i64 0) := (blk_cell BK136.out 2).trans rfl
        have hcz21_3 : wr.cell? ⟨gb136, 3, none⟩ = some (.int .i64 0) := (blk_cell BK136.out 3).trans rfl
        have hfz21_0 := blk_frozen BK136.out 0
        have hfz21_1 := blk_frozen BK136.out 1
        have hfz21_2 := blk_frozen BK136.out 2
        have hfz21_3 := blk_frozen BK136.out 3
        go_wp2
        refine bodyPost_ret (results_cell_row rfl _ _ gb136 112 #[.int .i64 x138000_1, .int .i64 x138001_1, .int .i64 x138002_1, .int .i64 x138003_1] (0, 0) _ rfl (by (with_reducible repeat (first | refine blk_drewN ?_ _ | refine blk_drew ?_ | refine blk_alloc ?_ _)); refine blk_put (cs := #[.int .i64 x138000_1, .int .i64 x138001_1, .int .i64 x138002_1, .int .i64 0]) ?_ 3 _ rfl; (with_reducible repeat (first | refine blk_drewN ?_ _ | refine blk_drew ?_ | refine blk_alloc ?_ _)); refine blk_put (cs := #[.int .i64 x138000_1, .int .i64 x138001_1, .int .i64 0, .int .i64 0]) ?_ 2 _ rfl; (with_reducible repeat (first | refine blk_drewN ?_ _ | refine blk_drew ?_ | refine blk_alloc ?_ _)); refine blk_put (cs := #[.int .i64 x138000_1, .int .i64 0, .int .i64 0, .int .i64 0]) ?_ 1 _ rfl; (with_reducible repeat (first | refine blk_drewN ?_ _ | refine blk_drew ?_ | refine blk_alloc ?_ _)); refine blk_put (cs := #[.int .i64 0, .int .i64 0, .int .i64 0, .int .i64 0]) ?_ 0 _ rfl; (with_reducible repeat (first | refine blk_drewN ?_ _ | refine blk_drew ?_ | refine blk_alloc ?_ _)); exact BK136.out) Try.underlying112 rfl (by kernel_rfl)) rfl ?_
        exact ⟨by first | rfl | (simp [errW_none, errW_some] <;> rfl) | (simp [*, errW_none, errW_some] <;> rfl), zW HB.out⟩

/-! ### impl_ydesc_has: function 88 -/
def impl_ydesc_has.f (a0_0 : Int) (a0_1 : Int) (a0_2 : Int) (a0_3 : Int) (a1 : Int) : Option (Bool) := some ((Go.bits .and .i64 a0_2 a1) != 0)
set_option maxHeartbeats 8000000 in
set_option maxRecDepth 100000 in
theorem impl_ydesc_has.calls (a0_0 : Int) (a0_1 : Int) (a0_2 : Int) (a0_3 : Int) (a1 : Int) (r : Bool) (w : World) (h : impl_ydesc_has.f a0_0 a0_1 a0_2 a0_3 a1 = some r) :
    Calls Try.prog 88 #[.agg #[.int .i64 a0_0, .int .i64 a0_1, .int .i64 a0_2, .int .i64 a0_3], .int .i64 a1] w fun e w' => e = .returned (.bool r) ∧ Below w.heap.size w w' := by
  have hu112 := Try.underlying112
  have HB := Aside0.mk (Below.refl w.heap.size w)
  have H : (some ((Go.bits .and .i64 a0_2 a1) != 0)) = some r := h
  clear h
  obtain rfl := Option.some.inj H
  go_enter Try.func88, Try.ntmps88
  go_wp2_with (first | ((with_reducible refine gate_dst (N := 2) rfl ?_); refine box_event ?hg (N := 2) ?hd (cs := #[.int .i64 a0_0, .int .i64 a0_1, .int .i64 a0_2, .int .i64 a0_3]) (t := 112) ?hr ?_; (case hd => rfl); (case hg => rfl); (case hr => first | (go_simp; done) | (go_simp; rfl)); intro gb139 hg w3 hbox hb; have n0_ := Aside0.mk (below_step (zW HB.out) hb); have n1_ := Aside0.mk (hbox); have n2_ := zG hg (zW HB.out); have n3_ := zG hg (zW HB.out); clear HB; have HB := n0_; have BK139 := n1_; have GW139 := n2_; have GE139 := n3_; clear n0_ n1_ n2_ n3_; clear hb hbox hg; have hcz4_0 : w3.cell? ⟨gb139, 0, none⟩ = some (.int .i64 a0_0) := (blk_cell BK139.out 0).trans rfl; have hcz4_1 : w3.cell? ⟨gb139, 1, none⟩ = some (.int .i64 a0_1) := (blk_cell BK139.out 1).trans rfl; have hcz4_2 : w3.cell? ⟨gb139, 2, none⟩ = some (.int .i64 a0_2) := (blk_cell BK139.out 2).trans rfl; have hcz4_3 : w3.cell? ⟨gb139, 3, none⟩ = some (.int .i64 a0_3) := (blk_cell BK139.out 3).trans rfl; have hfz4_0 := blk_frozen BK139.out 0; have hfz4_1 := blk_frozen BK139.out 1; have hfz4_2 := blk_frozen BK139.out 2; have hfz4_3 := blk_frozen BK139.out 3))
  go_ret
  exact ⟨by first | rfl | (simp [errW_none, errW_some] <;> rfl) | (simp [*, errW_none, errW_some] <;> rfl), zW HB.out⟩

/-! ### impl_ydesc_buf: function 96 -/
def impl_ydesc_buf.f (a0_0 : Int) (a0_1 : Int) (a0_2 : Int) (a0_3 : Int) : Option (Int × Int × Bool) := (impl_ydesc_has.f a0_0 a0_1 a0_2 a0_3 2).bind fun t142 => (some (a0_0, a0_1, t142))
def impl_ydesc_buf.T1 : Bool × List (List Nat × List Nat) := (true, [([], []), ([0], [0]), ([], []), ([2], [2]), ([], []), ([4], [4]), ([1, 3, 5], [1, 3, 5]), ([6, 5, 0, 1, 2, 3, 4, 5, 6], [6])])
def impl_ydesc_buf.B1 : List Nat := [0, 1, 0, 4, 0, 16, 63, 127]
theorem impl_ydesc_buf.tab1 : rtab .any (opsOf Try.f96 1) = impl_ydesc_buf.T1 := by kernel_rfl
theorem impl_ydesc_buf.bits1 : waitsOk impl_ydesc_buf.T1.2 impl_ydesc_buf.B1 = true := by kernel_rfl
set_option maxHeartbeats 8000000 in
set_option maxRecDepth 100000 in
theorem impl_ydesc_buf.calls (a0_0 : Int) (a0_1 : Int) (a0_2 : Int) (a0_3 : Int) (r1 : Int) (r2 : Int) (r3 : Bool) (w : World) (h : impl_ydesc_buf.f a0_0 a0_1 a0_2 a0_3 = some (r1, r2, r3)) :
    Calls Try.prog 96 #[.agg #[.int .i64 a0_0, .int .i64 a0_1, .int .i64 a0_2, .int .i64 a0_3]] w fun e w' => e = .returned (.agg #[.int .i64 r1, .int .i64 r2, .bool r3]) ∧ Below w.heap.size w w' := by
  have hu112 := Try.underlying112
  have hu75 := Try.underlying75
  have HB := Aside0.mk (Below.refl w.heap.size w)
  have H : ((impl_ydesc_has.f a0_0 a0_1 a0_2 a0_3 2).bind fun t142 => (some (a0_0, a0_1, t142))) = some (r1, r2, r3) := h
  clear h
  replace H := Option.bind_eq_some_iff.mp H
  obtain ⟨t142, A20, H⟩ := H
  replace H : (some (a0_0, a0_1, t142)) = some (r1, r2, r3) := H
  have A2 := Aside0.mk A20
  clear A20
  simp only [Option.some.injEq, Prod.mk.injEq] at H
  obtain ⟨rfl, rfl, rfl⟩ := H
  go_enter Try.func96, Try.ntmps96
  try go_wp2_with (first | ((with_reducible refine gate_dst (N := 1) rfl ?_); refine box_event ?hg (N := 1) ?hd (cs := #[.int .i64 a0_0, .int .i64 a0_1, .int .i64 a0_2, .int .i64 a0_3]) (t := 112) ?hr ?_; (case hd => rfl); (case hg => rfl); (case hr => first | (go_simp; done) | (go_simp; rfl)); intro gb140 hg w3 hbox hb; have n0_ := Aside0.mk (below_step (zW HB.out) hb); have n1_ := Aside0.mk (hbox); have n2_ := zG hg (zW HB.out); have n3_ := zG hg (zW HB.out); clear HB; have HB := n0_; have BK140 := n1_; have GW140 := n2_; have GE140 := n3_; clear n0_ n1_ n2_ n3_; clear hb hbox hg) | ((with_reducible refine gate_dst (N := 2) rfl ?_); refine box_event ?hg (N := 2) ?hd (cs := #[.int .i64 0, .int .i64 0, .bool false]) (t := 75) ?hr ?_; (case hd => rfl); (case hg => rfl); (case hr => first | (go_simp; done) | (go_simp; rfl)); intro gb141 hg w4 hbox hb; have n0_ := Aside0.mk (blk_below (g := gb140) (o := .cells #[.int .i64 a0_0, .int .i64 a0_1, .int .i64 a0_2, .int .i64 a0_3] 112 (0, 0)) (zB BK140.out) hb); have n1_ := Aside0.mk (below_step (zW HB.out) hb); have n2_ := Aside0.mk (hbox); have n3_ := zG hg (zW HB.out); have n4_ := zG hg (zW HB.out); have n5_ := Aside0.mk ((by rw [hg]; exact Nat.ne_of_lt (blk_lt (g := gb140) (o := .cells #[.int .i64 a0_0, .int .i64 a0_1, .int .i64 a0_2, .int .i64 a0_3] 112 (0, 0)) (zB BK140.out)) : gb140 ≠ gb141)); have n6_ := Aside0.mk ((by rw [hg]; exact Nat.ne_of_gt (blk_lt (g := gb140) (o := .cells #[.int .i64 a0_0, .int .i64 a0_1, .int .i64 a0_2, .int .i64 a0_3] 112 (0, 0)) (zB BK140.out)) : gb141 ≠ gb140)); clear BK140; clear HB; have BK140 := n0_; have HB := n1_; have BK141 := n2_; have GW141 := n3_; have GE141 := n4_; have NB140_141 := n5_; have NB141_140 := n6_; clear n0_ n1_ n2_ n3_ n4_ n5_ n6_; clear hb hbox hg))
  have n0_ := Aside0.mk (blk_drew BK140.out)
  have n1_ := Aside0.mk (blk_drew BK141.out)
  have n2_ := Aside0.mk (below_drew1 HB.out)
  clear BK140
  clear BK141
  clear HB
  have BK140 := n0_
  have BK141 := n1_
  have HB := n2_
  clear n0_ n1_ n2_
  refine start_ (n := 8) (S := fun w' => w'.cell? ⟨gb140, 0, none⟩ = some (.int .i64 a0_0) ∧ w'.cell? ⟨gb140, 1, none⟩ = some (.int .i64 a0_1) ∧ w'.cell? ⟨gb140, 2, none⟩ = some (.int .i64 a0_2) ∧ w'.cell? ⟨gb140, 3, none⟩ = some (.int .i64 a0_3)) (ds := []) #[false, false, false, false, false, false, false, false] (by kernel_rfl) rfl rfl ⟨(blk_cell BK140.out 0).trans rfl, (blk_cell BK140.out 1).trans rfl, (blk_cell BK140.out 2).trans rfl, (blk_cell BK140.out 3).trans rfl⟩ (fun hHeld => ?_); refine with_tabW impl_ydesc_buf.tab1 impl_ydesc_buf.bits1 (fun HT_ HW_ => ?_)
  generalize w4.drew = w5 at BK140 BK141 HB hHeld ⊢
  refine pure_ (i := 0) (N := some 3) (v := ?_) (a' := ?_) #[true, false, false, false, false, false, false, false] rfl rfl (any_of HT_.out (by kernel_rfl)) (fun _ _ _ h => h) (Or.inl ⟨by rfl, ?_⟩) ?_ ?_
  rotate_left
  · intro w'
    go_simp
    first | with_reducible rfl | (rw [if_neg (by (try clear HT_ HW_); simp only [ByteArray.size_extract, ByteArray.size_append, decide_eq_true_eq] at *; omega)]; try with_reducible rfl)
  rotate_left
  · simp only [Act.put, List.setIfInBounds_toArray, List.set_cons_zero, List.set_cons_succ, i64_w, i32_w]
    rfl
  refine pure_ (i := 2) (N := some 5) (v := ?_) (a' := ?_) #[true, false, true, false, false, false, false, false] rfl rfl (any_of HT_.out (by kernel_rfl)) (fun _ _ _ h => h) (Or.inl ⟨by rfl, ?_⟩) ?_ ?_
  rotate_left
  · intro w'
    go_simp
    first | with_reducible rfl | (rw [if_neg (by (try clear HT_ HW_); simp only [ByteArray.size_extract, ByteArray.size_append, decide_eq_true_eq] at *; omega)]; try with_reducible rfl)
  rotate_left
  · simp only [Act.put, List.setIfInBounds_toArray, List.set_cons_zero, List.set_cons_succ, i64_w, i32_w]
    rfl
  refine take_ (i := 1) (N := some 4) (v := ?_) (a' := ?_) #[true, true, true, false, false, false, false, false] rfl rfl (take_ofW HT_.out HW_.out (by kernel_rfl)) (fun _ _ _ h => h) (Or.inl ⟨by rfl, ?_⟩) hHeld ?_ ?_
  rotate_left
  · rintro w' ⟨s0, s1, s2, s3⟩
    go_simp
    first | with_reducible rfl | (rw [if_neg (by (try clear HT_ HW_); simp only [ByteArray.size_extract, ByteArray.size_append, decide_eq_true_eq] at *; omega)]; try with_reducible rfl)
  rotate_left
  · simp only [Act.put, List.setIfInBounds_toArray, List.set_cons_zero, List.set_cons_succ, i64_w, i32_w]
    rfl
  refine take_ (i := 3) (N := some 6) (v := ?_) (a' := ?_) #[true, true, true, true, false, false, false, false] rfl rfl (take_ofW HT_.out HW_.out (by kernel_rfl)) (fun _ _ _ h => h) (Or.inl ⟨by rfl, ?_⟩) hHeld ?_ ?_
  rotate_left
  · rintro w' ⟨s0, s1, s2, s3⟩
    go_simp
    first | with_reducible rfl | (rw [if_neg (by (try clear HT_ HW_); simp only [ByteArray.size_extract, ByteArray.size_append, decide_eq_true_eq] at *; omega)]; try with_reducible rfl)
  rotate_left
  · simp only [Act.put, List.setIfInBounds_toArray, List.set_cons_zero, List.set_cons_succ, i64_w, i32_w]
    rfl
  refine take_ (i := 4) (N := some 7) (v := ?_) (a' := ?_) #[true, true, true, true, true, false, false, false] rfl rfl (take_ofW HT_.out HW_.out (by kernel_rfl)) (fun _ _ _ h => h) (Or.inl ⟨by rfl, ?_⟩) hHeld ?_ ?_
  rotate_left
  · rintro w' ⟨s0, s1, s2, s3⟩
    go_simp
    first | with_reducible rfl | (rw [if_neg (by (try clear HT_ HW_); simp only [ByteArray.size_extract, ByteArray.size_append, decide_eq_true_eq] at *; omega)]; try with_reducible rfl)
  rotate_left
  · simp only [Act.put, List.setIfInBounds_toArray, List.set_cons_zero, List.set_cons_succ, i64_w, i32_w]
    rfl
  refine one_ (i := 5) (N := some 8) #[true, true, true, true, true, true, false, false] rfl rfl (one_of HT_.out (by kernel_rfl)) (by decide) (fun K hK => ?_)
  refine goes_ Try.func88 (by kernel_rfl) rfl #[.agg #[.int .i64 a0_0, .int .i64 a0_1, .int .i64 a0_2, .int .i64 a0_3], .int .i64 2] (by rfl) rfl rfl (by (try simp only [List.map_toArray, List.map_cons, List.map_nil]); first | done | rfl | (simp only [List.length_drop, List.length_take]; rfl)) ?_
  with_reducible refine (impl_ydesc_has.calls a0_0 a0_1 a0_2 a0_3 2 t142 _ A2.out).mono ?_
  rintro e w6 ⟨rfl, hb⟩
  refine ⟨_, rfl, ?_⟩
  have n0_ := Aside0.mk (blk_below (g := gb140) (o := .cells #[.int .i64 a0_0, .int .i64 a0_1, .int .i64 a0_2, .int .i64 a0_3] 112 (0, 0)) (zB BK140.out) hb)
  have n1_ := Aside0.mk (blk_below (g := gb141) (o := .cells #[.int .i64 0, .int .i64 0, .bool false] 75 (0, 0)) (zB BK141.out) hb)
  have n2_ := Aside0.mk (below_step (zW HB.out) hb)
  clear BK140
  clear BK141
  clear HB
  have BK140 := n0_
  have BK141 := n1_
  have HB := n2_
  clear n0_ n1_ n2_
  (try clear hb)
  (try clear hb2)
  (try clear hk)
  (try clear hi)
  refine hK.out _ _ ⟨(blk_cell BK140.out 0).trans rfl, (blk_cell BK140.out 1).trans rfl, (blk_cell BK140.out 2).trans rfl, (blk_cell BK140.out 3).trans rfl⟩ (fun hHeld => ?_)
  clear hK K
  refine norm_ (a' := ?_) ?_ ?_
  rotate_left
  · show Act.put _ (some 8) _ = _
    simp only [Act.put, List.setIfInBounds_toArray, List.set_cons_zero, List.set_cons_succ, i64_w, i32_w]
    rfl
  refine pure_ (i := 6) (N := some 9) (v := ?_) (a' := ?_) #[true, true, true, true, true, true, true, false] rfl rfl (any_of HT_.out (by kernel_rfl)) (fun _ _ _ h => h) (Or.inl ⟨by rfl, ?_⟩) ?_ ?_
  rotate_left
  · intro w'
    go_simp
    first | with_reducible rfl | (rw [if_neg (by (try clear HT_ HW_); simp only [ByteArray.size_extract, ByteArray.size_append, decide_eq_true_eq] at *; omega)]; try with_reducible rfl)
  rotate_left
  · simp only [Act.put, List.setIfInBounds_toArray, List.set_cons_zero, List.set_cons_succ, i64_w, i32_w]
    rfl
  refine one_ (i := 7) (N := none) #[true, true, true, true, true, true, true, true] rfl rfl (one_of HT_.out (by kernel_rfl)) (by decide) (fun K hK => ?_)
  have hs7 : w6.cell? ⟨gb141, 0, none⟩ = some (.int .i64 0) := (blk_cell BK141.out 0).trans rfl
  have hfs7 := blk_frozen BK141.out 0
  have hns7_0 := NB140_141.out
  have hms7_0 := NB141_140.out
  have hs8 : w6.cell? ⟨gb141, 1, none⟩ = some (.int .i64 0) := (blk_cell BK141.out 1).trans rfl
  have hfs8 := blk_frozen BK141.out 1
  have hns8_0 := NB140_141.out
  have hms8_0 := NB141_140.out
  have hs9 : w6.cell? ⟨gb141, 2, none⟩ = some (.bool false) := (blk_cell BK141.out 2).trans rfl
  have hfs9 := blk_frozen BK141.out 2
  have hns9_0 := NB140_141.out
  have hms9_0 := NB141_140.out
  refine skip_ (w1 := ?_) (by rfl) rfl ?_ ?_
  rotate_left
  · go_simp
    rfl
  refine hK.out _ _ ⟨((cell_far (p := ⟨gb141, _, none⟩) NB140_141.out _).trans (((cell_far (p := ⟨gb141, _, none⟩) NB140_141.out _).trans (((cell_far (p := ⟨gb141, _, none⟩) NB140_141.out _).trans (hHeld.1)))))), ((cell_far (p := ⟨gb141, _, none⟩) NB140_141.out _).trans (((cell_far (p := ⟨gb141, _, none⟩) NB140_141.out _).trans (((cell_far (p := ⟨gb141, _, none⟩) NB140_141.out _).trans (hHeld.2.1)))))), ((cell_far (p := ⟨gb141, _, none⟩) NB140_141.out _).trans (((cell_far (p := ⟨gb141, _, none⟩) NB140_141.out _).trans (((cell_far (p := ⟨gb141, _, none⟩) NB140_141.out _).trans (hHeld.2.2.1)))))), ((cell_far (p := ⟨gb141, _, none⟩) NB140_141.out _).trans (((cell_far (p := ⟨gb141, _, none⟩) NB140_141.out _).trans (((cell_far (p := ⟨gb141, _, none⟩) NB140_141.out _).trans (hHeld.2.2.2))))))⟩ (fun hHeld => ?_)
  clear hK K
  refine done_ (done_of HT_.out (by kernel_rfl)) ?_
  try go_wp2
  refine bodyPost_ret (results_cell_row rfl _ _ gb141 75 #[.int .i64 a0_0, .int .i64 a0_1, .bool t142] (0, 0) _ rfl (by (with_reducible repeat (first | refine blk_drewN ?_ _ | refine blk_drew ?_ | refine blk_alloc ?_ _)); refine blk_put (cs := #[.int .i64 a0_0, .int .i64 a0_1, .bool false]) ?_ 2 _ rfl; (with_reducible repeat (first | refine blk_drewN ?_ _ | refine blk_drew ?_ | refine blk_alloc ?_ _)); refine blk_put (cs := #[.int .i64 a0_0, .int .i64 0, .bool false]) ?_ 1 _ rfl; (with_reducible repeat (first | refine blk_drewN ?_ _ | refine blk_drew ?_ | refine blk_alloc ?_ _)); refine blk_put (cs := #[.int .i64 0, .int .i64 0, .bool false]) ?_ 0 _ rfl; (with_reducible repeat (first | refine blk_drewN ?_ _ | refine blk_drew ?_ | refine blk_alloc ?_ _)); exact BK141.out) Try.underlying75 rfl (by kernel_rfl)) rfl ?_
  exact ⟨by first | rfl | (simp [errW_none, errW_some] <;> rfl) | (simp [*, errW_none, errW_some] <;> rfl), zW HB.out⟩

/-! ### impl_yadd: function 89 -/
def impl_yadd.f (a0 : ByteArray) (l1 : List (S75)) (a2_0 : Int) (a2_1 : Int) (a2_2 : Int) (a2_3 : Int) : Option ((List (S75)) × Int) := (impl_yfits.f (a0.size : Int) a2_0 a2_1).bind fun t144 => (if t144 = true then (if (l1.length : Int) > 0 then (if 0 ≤ (wrap64 ((l1.length : Int) - 1)) then (if (wrap64 ((l1.length : Int) - 1)) < (l1.length : Int) then (if (rd_T75 l1 (wrap64 ((l1.length : Int) - 1))).f2 = true then ((impl_ydesc_has.f a2_0 a2_1 a2_2 a2_3 2).bind fun t146 => (if t146 = true then ((impl_ydesc_buf.f a2_0 a2_1 a2_2 a2_3).bind fun bt147 => (if l1.length < 5864062014805 then (some ((l1 ++ [(⟨bt147.1, bt147.2.1, bt147.2.2⟩ : S75)]), 0)) else (none))) else (some (([] : List (S75)), 6)))) else ((impl_ydesc_buf.f a2_0 a2_1 a2_2 a2_3).bind fun bt153 => (if l1.length < 5864062014805 then (some ((l1 ++ [(⟨bt153.1, bt153.2.1, bt153.2.2⟩ : S75)]), 0)) else (none)))) else (none)) else (none)) else ((impl_ydesc_buf.f a2_0 a2_1 a2_2 a2_3).bind fun bt159 => (if l1.length < 5864062014805 then (some ((l1 ++ [(⟨bt159.1, bt159.2.1, bt159.2.2⟩ : S75)]), 0)) else (none)))) else (some (([] : List (S75)), 2)))
set_option maxHeartbeats 8000000 in
set_option maxRecDepth 100000 in
theorem impl_yadd.calls (a0 : ByteArray) (P1_ : Nat → Prop) (u9000_ : Value) (l1 : List (S75)) (a2_0 : Int) (a2_1 : Int) (a2_2 : Int) (a2_3 : Int) (r1 : List (S75)) (r2 : Int) (w0 w : World) (hB : Below w0.heap.size w0 w) (ho1 : Kd.R k75 75 w w0.heap.size P1_ u9000_ l1) (h : impl_yadd.f a0 l1 a2_0 a2_1 a2_2 a2_3 = some (r1, r2)) :
    Calls Try.prog 89 #[.string a0, u9000_, .agg #[.int .i64 a2_0, .int .i64 a2_1, .int .i64 a2_2, .int .i64 a2_3]] w fun e w' => ∃ v0_ : Value, e = .returned (.tuple #[v0_, .int .i64 r2]) ∧ Kd.R k75 75 w' w0.heap.size (fun k_ => (P1_ k_ ∨ w.heap.size ≤ k_)) v0_ r1 ∧ Below w0.heap.size w0 w' ∧ Kept w w' (fun k_ => P1_ k_) := by
  have hu112 := Try.underlying112
  have HO1 := Aside0.mk (show Kd.R k75 75 w w0.heap.size (fun k_ => (P1_ k_ ∨ w.heap.size ≤ k_)) u9000_ l1 from Kd.R_mono ho1 (fun k_ hk => (.inl hk)))
  have HK := Aside0.mk (Kept.refl w (fun k_ => P1_ k_))
  have HW0 := Aside0.mk hB.size
  have HB := Aside0.mk hB
  clear hB
  have H : ((impl_yfits.f (a0.size : Int) a2_0 a2_1).bind fun t144 => (if t144 = true then (if (l1.length : Int) > 0 then (if 0 ≤ (wrap64 ((l1.length : Int) - 1)) then (if (wrap64 ((l1.length : Int) - 1)) < (l1.length : Int) then (if (rd_T75 l1 (wrap64 ((l1.length : Int) - 1))).f2 = true then ((impl_ydesc_has.f a2_0 a2_1 a2_2 a2_3 2).bind fun t146 => (if t146 = true then ((impl_ydesc_buf.f a2_0 a2_1 a2_2 a2_3).bind fun bt147 => (if l1.length < 5864062014805 then (some ((l1 ++ [(⟨bt147.1, bt147.2.1, bt147.2.2⟩ : S75)]), 0)) else (none))) else (some (([] : List (S75)), 6)))) else ((impl_ydesc_buf.f a2_0 a2_1 a2_2 a2_3).bind fun bt153 => (if l1.length < 5864062014805 then (some ((l1 ++ [(⟨bt153.1, bt153.2.1, bt153.2.2⟩ : S75)]), 0)) else (none)))) else (none)) else (none)) else ((impl_ydesc_buf.f a2_0 a2_1 a2_2 a2_3).bind fun bt159 => (if l1.length < 5864062014805 then (some ((l1 ++ [(⟨bt159.1, bt159.2.1, bt159.2.2⟩ : S75)]), 0)) else (none)))) else (some (([] : List (S75)), 2)))) = some (r1, r2) := h
  clear h
  replace H := Option.bind_eq_some_iff.mp H
  obtain ⟨t144, A40, H⟩ := H
  replace H : (if t144 = true then (if (l1.length : Int) > 0 then (if 0 ≤ (wrap64 ((l1.length : Int) - 1)) then (if (wrap64 ((l1.length : Int) - 1)) < (l1.length : Int) then (if (rd_T75 l1 (wrap64 ((l1.length : Int) - 1))).f2 = true then ((impl_ydesc_has.f a2_0 a2_1 a2_2 a2_3 2).bind fun t146 => (if t146 = true then ((impl_ydesc_buf.f a2_0 a2_1 a2_2 a2_3).bind fun bt147 => (if l1.length < 5864062014805 then (some ((l1 ++ [(⟨bt147.1, bt147.2.1, bt147.2.2⟩ : S75)]), 0)) else (none))) else (some (([] : List (S75)), 6)))) else ((impl_ydesc_buf.f a2_0 a2_1 a2_2 a2_3).bind fun bt153 => (if l1.length < 5864062014805 then (some ((l1 ++ [(⟨bt153.1, bt153.2.1, bt153.2.2⟩ : S75)]), 0)) else (none)))) else (none)) else (none)) else ((impl_ydesc_buf.f a2_0 a2_1 a2_2 a2_3).bind fun bt159 => (if l1.length < 5864062014805 then (some ((l1 ++ [(⟨bt159.1, bt159.2.1, bt159.2.2⟩ : S75)]), 0)) else (none)))) else (some (([] : List (S75)), 2))) = some (r1, r2) := H
  have A4 := Aside0.mk A40
  clear A40
  by_cases c5 : t144 = true
  · subst c5
    have H1 : (if (l1.length : Int) > 0 then (if 0 ≤ (wrap64 ((l1.length : Int) - 1)) then (if (wrap64 ((l1.length : Int) - 1)) < (l1.length : Int) then (if (rd_T75 l1 (wrap64 ((l1.length : Int) - 1))).f2 = true then ((impl_ydesc_has.f a2_0 a2_1 a2_2 a2_3 2).bind fun t146 => (if t146 = true then ((impl_ydesc_buf.f a2_0 a2_1 a2_2 a2_3).bind fun bt147 => (if l1.length < 5864062014805 then (some ((l1 ++ [(⟨bt147.1, bt147.2.1, bt147.2.2⟩ : S75)]), 0)) else (none))) else (some (([] : List (S75)), 6)))) else ((impl_ydesc_buf.f a2_0 a2_1 a2_2 a2_3).bind fun bt153 => (if l1.length < 5864062014805 then (some ((l1 ++ [(⟨bt153.1, bt153.2.1, bt153.2.2⟩ : S75)]), 0)) else (none)))) else (none)) else (none)) else ((impl_ydesc_buf.f a2_0 a2_1 a2_2 a2_3).bind fun bt159 => (if l1.length < 5864062014805 then (some ((l1 ++ [(⟨bt159.1, bt159.2.1, bt159.2.2⟩ : S75)]), 0)) else (none)))) = some (r1, r2) := by rw [if_pos rfl] at H; exact H
    clear H
    have H := H1
    clear H1
    by_cases c6 : (l1.length : Int) > 0
    · rw [if_pos c6] at H
      have c6b0 : decide (0 < (l1.length : Int)) = true := decide_eq_true c6
      have c6b1 : decide (0 < l1.length) = true := decide_eq_true (by omega)
      clear c6
      obtain ⟨ji7, hji7⟩ : ∃ j_ : Int, (wrap64 ((l1.length : Int) - 1)) = j_ := ⟨_, rfl⟩
      replace H : (if 0 ≤ (ji7) then (if (ji7) < (l1.length : Int) then (if (rd_T75 l1 (ji7)).f2 = true then ((impl_ydesc_has.f a2_0 a2_1 a2_2 a2_3 2).bind fun t146 => (if t146 = true then ((impl_ydesc_buf.f a2_0 a2_1 a2_2 a2_3).bind fun bt147 => (if l1.length < 5864062014805 then (some ((l1 ++ [(⟨bt147.1, bt147.2.1, bt147.2.2⟩ : S75)]), 0)) else (none))) else (some (([] : List (S75)), 6)))) else ((impl_ydesc_buf.f a2_0 a2_1 a2_2 a2_3).bind fun bt153 => (if l1.length < 5864062014805 then (some ((l1 ++ [(⟨bt153.1, bt153.2.1, bt153.2.2⟩ : S75)]), 0)) else (none)))) else (none)) else (none)) = some (r1, r2) := by first | (rw [hji7] at H; exact H) | (simp only [hji7] at H ⊢; exact H)
      (try rw [hji7] at A4)
      have hji7w : (IntKind.i64.wrap ((l1.length : Int) - 1)) = ji7 := (i64_w _).trans hji7
      by_cases c8 : 0 ≤ (ji7)
      · rw [if_pos c8] at H
        have c8b0 : decide (0 ≤ (ji7)) = true := decide_eq_true c8
        clear c8
        by_cases c9 : (ji7) < (l1.length : Int)
        · rw [if_pos c9] at H
          have c9b0 : decide ((ji7) < (l1.length : Int)) = true := decide_eq_true c9
          clear c9
          obtain ⟨bq10, hbq10⟩ : ∃ b_ : Bool, b_ = ((rd_T75 l1 (ji7)).f2) := ⟨_, rfl⟩
          replace H : (if bq10 = true then ((impl_ydesc_has.f a2_0 a2_1 a2_2 a2_3 2).bind fun t146 => (if t146 = true then ((impl_ydesc_buf.f a2_0 a2_1 a2_2 a2_3).bind fun bt147 => (if l1.length < 5864062014805 then (some ((l1 ++ [(⟨bt147.1, bt147.2.1, bt147.2.2⟩ : S75)]), 0)) else (none))) else (some (([] : List (S75)), 6)))) else ((impl_ydesc_buf.f a2_0 a2_1 a2_2 a2_3).bind fun bt153 => (if l1.length < 5864062014805 then (some ((l1 ++ [(⟨bt153.1, bt153.2.1, bt153.2.2⟩ : S75)]), 0)) else (none)))) = some (r1, r2) := by rw [← hbq10] at H; exact H
          have Nbq10 := Aside0.mk hbq10
          clear hbq10
          by_cases c11 : bq10 = true
          · subst c11
            have H1 : ((impl_ydesc_has.f a2_0 a2_1 a2_2 a2_3 2).bind fun t146 => (if t146 = true then ((impl_ydesc_buf.f a2_0 a2_1 a2_2 a2_3).bind fun bt147 => (if l1.length < 5864062014805 then (some ((l1 ++ [(⟨bt147.1, bt147.2.1, bt147.2.2⟩ : S75)]), 0)) else (none))) else (some (([] : List (S75)), 6)))) = some (r1, r2) := by rw [if_pos rfl] at H; exact H
            clear H
            have H := H1
            clear H1
            replace H := Option.bind_eq_some_iff.mp H
            obtain ⟨t146, A120, H⟩ := H
            replace H : (if t146 = true then ((impl_ydesc_buf.f a2_0 a2_1 a2_2 a2_3).bind fun bt147 => (if l1.length < 5864062014805 then (some ((l1 ++ [(⟨bt147.1, bt147.2.1, bt147.2.2⟩ : S75)]), 0)) else (none))) else (some (([] : List (S75)), 6))) = some (r1, r2) := H
            have A12 := Aside0.mk A120
            clear A120
            by_cases c13 : t146 = true
            · subst c13
              have H1 : ((impl_ydesc_buf.f a2_0 a2_1 a2_2 a2_3).bind fun bt147 => (if l1.length < 5864062014805 then (some ((l1 ++ [(⟨bt147.1, bt147.2.1, bt147.2.2⟩ : S75)]), 0)) else (none))) = some (r1, r2) := by rw [if_pos rfl] at H; exact H
              clear H
              have H := H1
              clear H1
              replace H := Option.bind_eq_some_iff.mp H
              obtain ⟨⟨t147, t148, t149⟩, A140, H⟩ := H
              replace H : (if l1.length < 5864062014805 then (some ((l1 ++ [(⟨t147, t148, t149⟩ : S75)]), 0)) else (none)) = some (r1, r2) := H
              have A14 := Aside0.mk A140
              clear A140
              by_cases c15 : l1.length < 5864062014805
              · rw [if_pos c15] at H
                have LMc15 := Aside0.mk c15
                clear c15
                obtain ⟨y150, hy150⟩ : ∃ y_ : List (S75), y_ = (l1 ++ [(⟨t147, t148, t149⟩ : S75)]) := ⟨_, rfl⟩
                replace H : (some (y150, 0)) = some (r1, r2) := by first | (rw [hy150]; with_reducible exact H) | (have H2_ := (Option.bind_some _ _).symm.trans H; rw [hy150]; with_reducible exact H2_) | (have H2_ := (Option.bind_some _ _).symm.trans H; with_reducible exact H2_) | with_reducible exact H | (rw [hy150]; exact H) | exact H
                have Ny150 := Aside0.mk hy150
                clear hy150
                simp only [Option.some.injEq, Prod.mk.injEq] at H
                obtain ⟨rfl, rfl⟩ := H
                go_enter Try.func89, Try.ntmps89
                go_wp2_with (first | ((with_reducible refine gate_dst (N := 5) rfl ?_); (try (refine gate_guard (by rfl) ?_; dsimp only)); refine box_event ?hg (N := 5) ?hd (cs := #[.int .i64 a2_0, .int .i64 a2_1, .int .i64 a2_2, .int .i64 a2_3]) (t := 112) ?hr ?_; (case hd => rfl); (case hg => rfl); (case hr => first | (go_simp; done) | (go_simp; rfl)); intro gb143 hg w16 hbox hb; have n0_ := Aside0.mk (Kd.R_below (zR HO1.out) hb); have n1_ := Aside0.mk (Kept.below (S := (fun k_ => P1_ k_)) (by repeat (first | (with_reducible first | exact HK.out | apply Kept.alloc | apply Kept.drewN | apply Kept.drew) | exact HK.out)) hb); have n2_ := Aside0.mk (below_step (zW HB.out) hb); have n3_ := Aside0.mk (hbox); have n4_ := Aside0.mk ((by rw [hg]; exact (by first | exact HK.out.1 | exact (show Kept w _ (fun k_ => P1_ k_) from by repeat (first | (with_reducible first | exact HK.out | apply Kept.alloc | apply Kept.drewN | apply Kept.drew) | exact HK.out)).1) : w.heap.size ≤ gb143)); have n5_ := Aside0.mk ((by rw [hg]; exact (below_size (zW HB.out)) : w0.heap.size ≤ gb143)); clear HO1; clear HK; clear HB; have HO1 := n0_; have HK := n1_; have HB := n2_; have BK143 := n3_; have GW143 := n4_; have GE143 := n5_; clear n0_ n1_ n2_ n3_ n4_ n5_; clear hb hbox hg; have hcz17_0 : w16.cell? ⟨gb143, 0, none⟩ = some (.int .i64 a2_0) := (blk_cell BK143.out 0).trans rfl; have hcz17_1 : w16.cell? ⟨gb143, 1, none⟩ = some (.int .i64 a2_1) := (blk_cell BK143.out 1).trans rfl; have hcz17_2 : w16.cell? ⟨gb143, 2, none⟩ = some (.int .i64 a2_2) := (blk_cell BK143.out 2).trans rfl; have hcz17_3 : w16.cell? ⟨gb143, 3, none⟩ = some (.int .i64 a2_3) := (blk_cell BK143.out 3).trans rfl; have hfz17_0 := blk_frozen BK143.out 0; have hfz17_1 := blk_frozen BK143.out 1; have hfz17_2 := blk_frozen BK143.out 2; have hfz17_3 := blk_frozen BK143.out 3) | ((with_reducible refine gate_callee (f := 84) rfl ?_); refine goesL_ (some 14) rfl rfl Try.func84 (by kernel_rfl) rfl #[.int .i64 (a0.size : Int), .int .i64 a2_0, .int .i64 a2_1] rfl (by (try simp only [List.map_toArray, List.map_cons, List.map_nil]); first | done | rfl | (simp only [List.length_drop, List.length_take]; rfl)) ?_; (with_reducible refine (impl_yfits.calls (a0.size : Int) a2_0 a2_1 true _ A4.out).mono ?_); rintro e w' ⟨rfl, ⟨nd, rfl⟩⟩; refine ⟨_, rfl, ?_⟩; obtain ⟨Ao18, co18, eo18⟩ := Kd.R_slice HO1.out; subst eo18; have p145 : 0 ≤ ((ji7) : Int) := of_decide_eq_true (by first | (with_reducible assumption) | assumption); have q145 : (ji7) < (l1.length : Int) := of_decide_eq_true (by first | (with_reducible assumption) | assumption); obtain ⟨ad145, e145, hx145_0, hx145_1, hx145_2⟩ := at_T75 (Kd.R_reads' HO1.out).2.2 (ji7) p145 q145; (try rw [← Nbq10.out] at hx145_2); cases e145; replace p145 := eq_true p145; replace q145 := eq_true q145) | (go_at_call 88; (with_reducible refine (impl_ydesc_has.calls a2_0 a2_1 a2_2 a2_3 2 true _ A12.out).mono ?_); rintro e w19 ⟨rfl, hb⟩; have n0_ := Aside0.mk (Kd.R_below (zR HO1.out) hb); have n1_ := Aside0.mk (blk_below (g := gb143) (o := .cells #[.int .i64 a2_0, .int .i64 a2_1, .int .i64 a2_2, .int .i64 a2_3] 112 (0, 0)) (zB BK143.out) hb); have n2_ := Aside0.mk (Kept.below (S := (fun k_ => P1_ k_)) (by repeat (first | (with_reducible first | exact HK.out | apply Kept.alloc | apply Kept.drewN | apply Kept.drew | refine Kept.setCell ?_ (.inr GW143.out) _) | exact HK.out)) hb); have n3_ := Aside0.mk (below_step (zW HB.out) hb); clear HO1; clear BK143; clear HK; clear HB; have HO1 := n0_; have BK143 := n1_; have HK := n2_; have HB := n3_; clear n0_ n1_ n2_ n3_; (try clear hb); (try clear hb2); (try clear hk); (try clear hi); have hcz20_0 : w19.cell? ⟨gb143, 0, none⟩ = some (.int .i64 a2_0) := (blk_cell BK143.out 0).trans rfl; have hcz20_1 : w19.cell? ⟨gb143, 1, none⟩ = some (.int .i64 a2_1) := (blk_cell BK143.out 1).trans rfl; have hcz20_2 : w19.cell? ⟨gb143, 2, none⟩ = some (.int .i64 a2_2) := (blk_cell BK143.out 2).trans rfl; have hcz20_3 : w19.cell? ⟨gb143, 3, none⟩ = some (.int .i64 a2_3) := (blk_cell BK143.out 3).trans rfl; have hfz20_0 := blk_frozen BK143.out 0; have hfz20_1 := blk_frozen BK143.out 1; have hfz20_2 := blk_frozen BK143.out 2; have hfz20_3 := blk_frozen BK143.out 3) | ((with_reducible refine gate_callee (f := 96) rfl ?_); refine goesL_ (some 35) rfl rfl Try.func96 (by kernel_rfl) rfl #[.agg #[.int .i64 a2_0, .int .i64 a2_1, .int .i64 a2_2, .int .i64 a2_3]] rfl (by (try simp only [List.map_toArray, List.map_cons, List.map_nil]); first | done | rfl | (simp only [List.length_drop, List.length_take]; rfl)) ?_; (with_reducible refine (impl_ydesc_buf.calls a2_0 a2_1 a2_2 a2_3 t147 t148 t149 _ A14.out).mono ?_); rintro e w21 ⟨rfl, hb⟩; refine ⟨_, rfl, ?_⟩; have n0_ := Aside0.mk (Kd.R_below (zR HO1.out) hb); have n1_ := Aside0.mk (blk_below (g := gb143) (o := .cells #[.int .i64 a2_0, .int .i64 a2_1, .int .i64 a2_2, .int .i64 a2_3] 112 (0, 0)) (zB BK143.out) hb); have n2_ := Aside0.mk (Kept.below (S := (fun k_ => P1_ k_)) (by repeat (first | (with_reducible first | exact HK.out | apply Kept.alloc | apply Kept.drewN | apply Kept.drew | refine Kept.setCell ?_ (.inr GW143.out) _) | exact HK.out)) hb); have n3_ := Aside0.mk (below_step (zW HB.out) hb); clear HO1; clear BK143; clear HK; clear HB; have HO1 := n0_; have BK143 := n1_; have HK := n2_; have HB := n3_; clear n0_ n1_ n2_ n3_; (try clear hb); (try clear hb2); (try clear hk); (try clear hi)) | ((with_reducible refine gate_builtin (b := .append) (xs := #[.tmp 33, .tmp 36]) rfl ?_); (try (refine gate_guard (by rfl) ?_; dsimp only)); at_builtin; refine Kd.R_append k75 (w0 := w0) w0.heap.size rfl (.tmp 33) (.tmp 36) 44 75 (.agg #[(.int .i64 0), (.int .i64 0), (.bool false)]) 24 rfl Try.underlying44 info75 rfl (by decide) (by omega) (.slice (some ad145) l1.length co18) l1 (⟨t147, t148, t149⟩ : S75) [.int .i64 t147, .int .i64 t148, .bool t149] (fun k_ => (P1_ k_ ∨ w.heap.size ≤ k_)) (fun _ => False) rfl rfl ?aP (fun _ hk => hk.elim) ?aF ?aO ?aB ?aS ?aL ?_; (case aP => exact k75_mkM _ _ _ (⟨t147, t148, t149⟩ : S75)); (case aB => exact (zW HB.out)); (case aF => exact (fun k_ hk => (.inr (Nat.le_trans (by first | exact HK.out.1 | exact (show Kept w _ (fun k_ => P1_ k_) from by repeat (first | (with_reducible first | exact HK.out | apply Kept.alloc | apply Kept.drewN | apply Kept.drew | refine Kept.setCell ?_ (.inr GW143.out) _) | exact HK.out)).1) hk)))); (case aO => exact (zR HO1.out)); (case aS => exact (below_size (zW HB.out))); (case aL => have := LMc15.out; omega); intro v151 w22 ho hb hg hat; rw [← Ny150.out] at ho; have n0_ := Aside0.mk (blk_grown (g := gb143) (o := .cells #[.int .i64 a2_0, .int .i64 a2_1, .int .i64 a2_2, .int .i64 a2_3] 112 (0, 0)) (zB BK143.out) hg (Kd.R_ne HO1.out BK143.out (by decide))); have n1_ := Aside0.mk (hb); have n2_ := Aside0.mk (Kept.of_grown (S := (fun k_ => P1_ k_)) hg (by repeat (first | (with_reducible first | exact HK.out | apply Kept.alloc | apply Kept.drewN | apply Kept.drew | refine Kept.setCell ?_ (.inr GW143.out) _) | exact HK.out)) (fun k_ e_ => (HO1.out.1 k_ e_))); have n3_ := Aside0.mk (ho); clear BK143; clear HB; clear HK; clear HO1; have BK143 := n0_; have HB := n1_; have HK := n2_; have HO152 := n3_; clear n0_ n1_ n2_ n3_; clear ho hb hg hat))
                go_ret2
                exact ⟨_, by first | rfl | (simp [errW_none, errW_some] <;> rfl) | (simp only [← hji7]; first | rfl | (simp [errW_none, errW_some] <;> rfl)) | (simp [*, errW_none, errW_some] <;> rfl), by (with_reducible repeat (first | apply Kd.R_alloc | apply Kd.R_drewN | apply Kd.R_drew)); exact HO152.out, zW HB.out, by repeat (first | (with_reducible first | exact HK.out | apply Kept.alloc | apply Kept.drewN | apply Kept.drew | refine Kept.setCell ?_ (.inr GW143.out) _) | exact HK.out)⟩
              · rw [if_neg c15] at H
                exact absurd H (by simp)
            · replace c13 := Bool.eq_false_iff.mpr c13
              subst c13
              have H1 : (some (([] : List (S75)), 6)) = some (r1, r2) := by rw [if_neg (show ¬ (false = true) by decide)] at H; exact H
              clear H
              have H := H1
              clear H1
              simp only [Option.some.injEq, Prod.mk.injEq] at H
              obtain ⟨rfl, rfl⟩ := H
              go_enter Try.func89, Try.ntmps89
              go_wp2_with (first | ((with_reducible refine gate_dst (N := 5) rfl ?_); (try (refine gate_guard (by rfl) ?_; dsimp only)); refine box_event ?hg (N := 5) ?hd (cs := #[.int .i64 a2_0, .int .i64 a2_1, .int .i64 a2_2, .int .i64 a2_3]) (t := 112) ?hr ?_; (case hd => rfl); (case hg => rfl); (case hr => first | (go_simp; done) | (go_simp; rfl)); intro gb143 hg w23 hbox hb; have n0_ := Aside0.mk (Kd.R_below (zR HO1.out) hb); have n1_ := Aside0.mk (Kept.below (S := (fun k_ => P1_ k_)) (by repeat (first | (with_reducible first | exact HK.out | apply Kept.alloc | apply Kept.drewN | apply Kept.drew) | exact HK.out)) hb); have n2_ := Aside0.mk (below_step (zW HB.out) hb); have n3_ := Aside0.mk (hbox); have n4_ := Aside0.mk ((by rw [hg]; exact (by first | exact HK.out.1 | exact (show Kept w _ (fun k_ => P1_ k_) from by repeat (first | (with_reducible first | exact HK.out | apply Kept.alloc | apply Kept.drewN | apply Kept.drew) | exact HK.out)).1) : w.heap.size ≤ gb143)); have n5_ := Aside0.mk ((by rw [hg]; exact (below_size (zW HB.out)) : w0.heap.size ≤ gb143)); clear HO1; clear HK; clear HB; have HO1 := n0_; have HK := n1_; have HB := n2_; have BK143 := n3_; have GW143 := n4_; have GE143 := n5_; clear n0_ n1_ n2_ n3_ n4_ n5_; clear hb hbox hg; have hcz24_0 : w23.cell? ⟨gb143, 0, none⟩ = some (.int .i64 a2_0) := (blk_cell BK143.out 0).trans rfl; have hcz24_1 : w23.cell? ⟨gb143, 1, none⟩ = some (.int .i64 a2_1) := (blk_cell BK143.out 1).trans rfl; have hcz24_2 : w23.cell? ⟨gb143, 2, none⟩ = some (.int .i64 a2_2) := (blk_cell BK143.out 2).trans rfl; have hcz24_3 : w23.cell? ⟨gb143, 3, none⟩ = some (.int .i64 a2_3) := (blk_cell BK143.out 3).trans rfl; have hfz24_0 := blk_frozen BK143.out 0; have hfz24_1 := blk_frozen BK143.out 1; have hfz24_2 := blk_frozen BK143.out 2; have hfz24_3 := blk_frozen BK143.out 3) | ((with_reducible refine gate_callee (f := 84) rfl ?_); refine goesL_ (some 14) rfl rfl Try.func84 (by kernel_rfl) rfl #[.int .i64 (a0.size : Int), .int .i64 a2_0, .int .i64 a2_1] rfl (by (try simp only [List.map_toArray, List.map_cons, List.map_nil]); first | done | rfl | (simp only [List.length_drop, List.length_take]; rfl)) ?_; (with_reducible refine (impl_yfits.calls (a0.size : Int) a2_0 a2_1 true _ A4.out).mono ?_); rintro e w' ⟨rfl, ⟨nd, rfl⟩⟩; refine ⟨_, rfl, ?_⟩; obtain ⟨Ao25, co25, eo25⟩ := Kd.R_slice HO1.out; subst eo25; have p145 : 0 ≤ ((ji7) : Int) := of_decide_eq_true (by first | (with_reducible assumption) | assumption); have q145 : (ji7) < (l1.length : Int) := of_decide_eq_true (by first | (with_reducible assumption) | assumption); obtain ⟨ad145, e145, hx145_0, hx145_1, hx145_2⟩ := at_T75 (Kd.R_reads' HO1.out).2.2 (ji7) p145 q145; (try rw [← Nbq10.out] at hx145_2); cases e145; replace p145 := eq_true p145; replace q145 := eq_true q145) | (go_at_call 88; (with_reducible refine (impl_ydesc_has.calls a2_0 a2_1 a2_2 a2_3 2 false _ A12.out).mono ?_); rintro e w26 ⟨rfl, hb⟩; have n0_ := Aside0.mk (Kd.R_below (zR HO1.out) hb); have n1_ := Aside0.mk (blk_below (g := gb143) (o := .cells #[.int .i64 a2_0, .int .i64 a2_1, .int .i64 a2_2, .int .i64 a2_3] 112 (0, 0)) (zB BK143.out) hb); have n2_ := Aside0.mk (Kept.below (S := (fun k_ => P1_ k_)) (by repeat (first | (with_reducible first | exact HK.out | apply Kept.alloc | apply Kept.drewN | apply Kept.drew | refine Kept.setCell ?_ (.inr GW143.out) _) | exact HK.out)) hb); have n3_ := Aside0.mk (below_step (zW HB.out) hb); clear HO1; clear BK143; clear HK; clear HB; have HO1 := n0_; have BK143 := n1_; have HK := n2_; have HB := n3_; clear n0_ n1_ n2_ n3_; (try clear hb); (try clear hb2); (try clear hk); (try clear hi)))
              go_ret2
              exact ⟨_, by first | rfl | (simp [errW_none, errW_some] <;> rfl) | (simp only [← hji7]; first | rfl | (simp [errW_none, errW_some] <;> rfl)) | (simp [*, errW_none, errW_some] <;> rfl), by first | exact Kd.R_nil _ _ _ _ _ | exact Kd.N_nil _ _ _ _ _ | exact Kd.V_nil _ _ _ _ _ | exact Kd.Q_nil _ _ _ _ _ | exact Kd.S_nil _ _ _ _ _, zW HB.out, by repeat (first | (with_reducible first | exact HK.out | apply Kept.alloc | apply Kept.drewN | apply Kept.drew | refine Kept.setCell ?_ (.inr GW143.out) _) | exact HK.out)⟩
          · replace c11 := Bool.eq_false_iff.mpr c11
            subst c11
            have H1 : ((impl_ydesc_buf.f a2_0 a2_1 a2_2 a2_3).bind fun bt153 => (if l1.length < 5864062014805 then (some ((l1 ++ [(⟨bt153.1, bt153.2.1, bt153.2.2⟩ : S75)]), 0)) else (none))) = some (r1, r2) := by rw [if_neg (show ¬ (false = true) by decide)] at H; exact H
            clear H
            have H := H1
            clear H1
            replace H := Option.bind_eq_some_iff.mp H
            obtain ⟨⟨t153, t154, t155⟩, A270, H⟩ := H
            replace H : (if l1.length < 5864062014805 then (some ((l1 ++ [(⟨t153, t154, t155⟩ : S75)]), 0)) else (none)) = some (r1, r2) := H
            have A27 := Aside0.mk A270
            clear A270
            by_cases c28 : l1.length < 5864062014805
            · rw [if_pos c28] at H
              have LMc28 := Aside0.mk c28
              clear c28
              obtain ⟨y156, hy156⟩ : ∃ y_ : List (S75), y_ = (l1 ++ [(⟨t153, t154, t155⟩ : S75)]) := ⟨_, rfl⟩
              replace H : (some (y156, 0)) = some (r1, r2) := by first | (rw [hy156]; with_reducible exact H) | (have H2_ := (Option.bind_some _ _).symm.trans H; rw [hy156]; with_reducible exact H2_) | (have H2_ := (Option.bind_some _ _).symm.trans H; with_reducible exact H2_) | with_reducible exact H | (rw [hy156]; exact H) | exact H
              have Ny156 := Aside0.mk hy156
              clear hy156
              simp only [Option.some.injEq, Prod.mk.injEq] at H
              obtain ⟨rfl, rfl⟩ := H
              go_enter Try.func89, Try.ntmps89
              go_wp2_with (first | ((with_reducible refine gate_dst (N := 5) rfl ?_); (try (refine gate_guard (by rfl) ?_; dsimp only)); refine box_event ?hg (N := 5) ?hd (cs := #[.int .i64 a2_0, .int .i64 a2_1, .int .i64 a2_2, .int .i64 a2_3]) (t := 112) ?hr ?_; (case hd => rfl); (case hg => rfl); (case hr => first | (go_simp; done) | (go_simp; rfl)); intro gb143 hg w29 hbox hb; have n0_ := Aside0.mk (Kd.R_below (zR HO1.out) hb); have n1_ := Aside0.mk (Kept.below (S := (fun k_ => P1_ k_)) (by repeat (first | (with_reducible first | exact HK.out | apply Kept.alloc | apply Kept.drewN | apply Kept.drew) | exact HK.out)) hb); have n2_ := Aside0.mk (below_step (zW HB.out) hb); have n3_ := Aside0.mk (hbox); have n4_ := Aside0.mk ((by rw [hg]; exact (by first | exact HK.out.1 | exact (show Kept w _ (fun k_ => P1_ k_) from by repeat (first | (with_reducible first | exact HK.out | apply Kept.alloc | apply Kept.drewN | apply Kept.drew) | exact HK.out)).1) : w.heap.size ≤ gb143)); have n5_ := Aside0.mk ((by rw [hg]; exact (below_size (zW HB.out)) : w0.heap.size ≤ gb143)); clear HO1; clear HK; clear HB; have HO1 := n0_; have HK := n1_; have HB := n2_; have BK143 := n3_; have GW143 := n4_; have GE143 := n5_; clear n0_ n1_ n2_ n3_ n4_ n5_; clear hb hbox hg; have hcz30_0 : w29.cell? ⟨gb143, 0, none⟩ = some (.int .i64 a2_0) := (blk_cell BK143.out 0).trans rfl; have hcz30_1 : w29.cell? ⟨gb143, 1, none⟩ = some (.int .i64 a2_1) := (blk_cell BK143.out 1).trans rfl; have hcz30_2 : w29.cell? ⟨gb143, 2, none⟩ = some (.int .i64 a2_2) := (blk_cell BK143.out 2).trans rfl; have hcz30_3 : w29.cell? ⟨gb143, 3, none⟩ = some (.int .i64 a2_3) := (blk_cell BK143.out 3).trans rfl; have hfz30_0 := blk_frozen BK143.out 0; have hfz30_1 := blk_frozen BK143.out 1; have hfz30_2 := blk_frozen BK143.out 2; have hfz30_3 := blk_frozen BK143.out 3) | ((with_reducible refine gate_callee (f := 84) rfl ?_); refine goesL_ (some 14) rfl rfl Try.func84 (by kernel_rfl) rfl #[.int .i64 (a0.size : Int), .int .i64 a2_0, .int .i64 a2_1] rfl (by (try simp only [List.map_toArray, List.map_cons, List.map_nil]); first | done | rfl | (simp only [List.length_drop, List.length_take]; rfl)) ?_; (with_reducible refine (impl_yfits.calls (a0.size : Int) a2_0 a2_1 true _ A4.out).mono ?_); rintro e w' ⟨rfl, ⟨nd, rfl⟩⟩; refine ⟨_, rfl, ?_⟩; obtain ⟨Ao31, co31, eo31⟩ := Kd.R_slice HO1.out; subst eo31; have p145 : 0 ≤ ((ji7) : Int) := of_decide_eq_true (by first | (with_reducible assumption) | assumption); have q145 : (ji7) < (l1.length : Int) := of_decide_eq_true (by first | (with_reducible assumption) | assumption); obtain ⟨ad145, e145, hx145_0, hx145_1, hx145_2⟩ := at_T75 (Kd.R_reads' HO1.out).2.2 (ji7) p145 q145; (try rw [← Nbq10.out] at hx145_2); cases e145; replace p145 := eq_true p145; replace q145 := eq_true q145) | ((with_reducible refine gate_callee (f := 96) rfl ?_); refine goesL_ (some 35) rfl rfl Try.func96 (by kernel_rfl) rfl #[.agg #[.int .i64 a2_0, .int .i64 a2_1, .int .i64 a2_2, .int .i64 a2_3]] rfl (by (try simp only [List.map_toArray, List.map_cons, List.map_nil]); first | done | rfl | (simp only [List.length_drop, List.length_take]; rfl)) ?_; (with_reducible refine (impl_ydesc_buf.calls a2_0 a2_1 a2_2 a2_3 t153 t154 t155 _ A27.out).mono ?_); rintro e w32 ⟨rfl, hb⟩; refine ⟨_, rfl, ?_⟩; have n0_ := Aside0.mk (Kd.R_below (zR HO1.out) hb); have n1_ := Aside0.mk (blk_below (g := gb143) (o := .cells #[.int .i64 a2_0, .int .i64 a2_1, .int .i64 a2_2, .int .i64 a2_3] 112 (0, 0)) (zB BK143.out) hb); have n2_ := Aside0.mk (Kept.below (S := (fun k_ => P1_ k_)) (by repeat (first | (with_reducible first | exact HK.out | apply Kept.alloc | apply Kept.drewN | apply Kept.drew | refine Kept.setCell ?_ (.inr GW143.out) _) | exact HK.out)) hb); have n3_ := Aside0.mk (below_step (zW HB.out) hb); clear HO1; clear BK143; clear HK; clear HB; have HO1 := n0_; have BK143 := n1_; have HK := n2_; have HB := n3_; clear n0_ n1_ n2_ n3_; (try clear hb); (try clear hb2); (try clear hk); (try clear hi)) | ((with_reducible refine gate_builtin (b := .append) (xs := #[.tmp 33, .tmp 36]) rfl ?_); (try (refine gate_guard (by rfl) ?_; dsimp only)); at_builtin; refine Kd.R_append k75 (w0 := w0) w0.heap.size rfl (.tmp 33) (.tmp 36) 44 75 (.agg #[(.int .i64 0), (.int .i64 0), (.bool false)]) 24 rfl Try.underlying44 info75 rfl (by decide) (by omega) (.slice (some ad145) l1.length co31) l1 (⟨t153, t154, t155⟩ : S75) [.int .i64 t153, .int .i64 t154, .bool t155] (fun k_ => (P1_ k_ ∨ w.heap.size ≤ k_)) (fun _ => False) rfl rfl ?aP (fun _ hk => hk.elim) ?aF ?aO ?aB ?aS ?aL ?_; (case aP => exact k75_mkM _ _ _ (⟨t153, t154, t155⟩ : S75)); (case aB => exact (zW HB.out)); (case aF => exact (fun k_ hk => (.inr (Nat.le_trans (by first | exact HK.out.1 | exact (show Kept w _ (fun k_ => P1_ k_) from by repeat (first | (with_reducible first | exact HK.out | apply Kept.alloc | apply Kept.drewN | apply Kept.drew | refine Kept.setCell ?_ (.inr GW143.out) _) | exact HK.out)).1) hk)))); (case aO => exact (zR HO1.out)); (case aS => exact (below_size (zW HB.out))); (case aL => have := LMc28.out; omega); intro v157 w33 ho hb hg hat; rw [← Ny156.out] at ho; have n0_ := Aside0.mk (blk_grown (g := gb143) (o := .cells #[.int .i64 a2_0, .int .i64 a2_1, .int .i64 a2_2, .int .i64 a2_3] 112 (0, 0)) (zB BK143.out) hg (Kd.R_ne HO1.out BK143.out (by decide))); have n1_ := Aside0.mk (hb); have n2_ := Aside0.mk (Kept.of_grown (S := (fun k_ => P1_ k_)) hg (by repeat (first | (with_reducible first | exact HK.out | apply Kept.alloc | apply Kept.drewN | apply Kept.drew | refine Kept.setCell ?_ (.inr GW143.out) _) | exact HK.out)) (fun k_ e_ => (HO1.out.1 k_ e_))); have n3_ := Aside0.mk (ho); clear BK143; clear HB; clear HK; clear HO1; have BK143 := n0_; have HB := n1_; have HK := n2_; have HO158 := n3_; clear n0_ n1_ n2_ n3_; clear ho hb hg hat))
              go_ret2
              exact ⟨_, by first | rfl | (simp [errW_none, errW_some] <;> rfl) | (simp only [← hji7]; first | rfl | (simp [errW_none, errW_some] <;> rfl)) | (simp [*, errW_none, errW_some] <;> rfl), by (with_reducible repeat (first | apply Kd.R_alloc | apply Kd.R_drewN | apply Kd.R_drew)); exact HO158.out, zW HB.out, by repeat (first | (with_reducible first | exact HK.out | apply Kept.alloc | apply Kept.drewN | apply Kept.drew | refine Kept.setCell ?_ (.inr GW143.out) _) | exact HK.out)⟩
            · rw [if_neg c28] at H
              exact absurd H (by simp)
        · rw [if_neg c9] at H
          exact absurd H (by simp)
      · rw [if_neg c8] at H
        exact absurd H (by simp)
    · rw [if_neg c6] at H
      have c6b0 : decide (0 < (l1.length : Int)) = false := decide_eq_false c6
      have c6b1 : decide (0 < l1.length) = false := decide_eq_false (by omega)
      clear c6
      replace H := Option.bind_eq_some_iff.mp H
      obtain ⟨⟨t159, t160, t161⟩, A340, H⟩ := H
      replace H : (if l1.length < 5864062014805 then (some ((l1 ++ [(⟨t159, t160, t161⟩ : S75)]), 0)) else (none)) = some (r1, r2) := H
      have A34 := Aside0.mk A340
      clear A340
      by_cases c35 : l1.length < 5864062014805
      · rw [if_pos c35] at H
        have LMc35 := Aside0.mk c35
        clear c35
        obtain ⟨y162, hy162⟩ : ∃ y_ : List (S75), y_ = (l1 ++ [(⟨t159, t160, t161⟩ : S75)]) := ⟨_, rfl⟩
        replace H : (some (y162, 0)) = some (r1, r2) := by first | (rw [hy162]; with_reducible exact H) | (have H2_ := (Option.bind_some _ _).symm.trans H; rw [hy162]; with_reducible exact H2_) | (have H2_ := (Option.bind_some _ _).symm.trans H; with_reducible exact H2_) | with_reducible exact H | (rw [hy162]; exact H) | exact H
        have Ny162 := Aside0.mk hy162
        clear hy162
        simp only [Option.some.injEq, Prod.mk.injEq] at H
        obtain ⟨rfl, rfl⟩ := H
        go_enter Try.func89, Try.ntmps89
        go_wp2_with (first | ((with_reducible refine gate_dst (N := 5) rfl ?_); (try (refine gate_guard (by rfl) ?_; dsimp only)); refine box_event ?hg (N := 5) ?hd (cs := #[.int .i64 a2_0, .int .i64 a2_1, .int .i64 a2_2, .int .i64 a2_3]) (t := 112) ?hr ?_; (case hd => rfl); (case hg => rfl); (case hr => first | (go_simp; done) | (go_simp; rfl)); intro gb143 hg w36 hbox hb; have n0_ := Aside0.mk (Kd.R_below (zR HO1.out) hb); have n1_ := Aside0.mk (Kept.below (S := (fun k_ => P1_ k_)) (by repeat (first | (with_reducible first | exact HK.out | apply Kept.alloc | apply Kept.drewN | apply Kept.drew) | exact HK.out)) hb); have n2_ := Aside0.mk (below_step (zW HB.out) hb); have n3_ := Aside0.mk (hbox); have n4_ := Aside0.mk ((by rw [hg]; exact (by first | exact HK.out.1 | exact (show Kept w _ (fun k_ => P1_ k_) from by repeat (first | (with_reducible first | exact HK.out | apply Kept.alloc | apply Kept.drewN | apply Kept.drew) | exact HK.out)).1) : w.heap.size ≤ gb143)); have n5_ := Aside0.mk ((by rw [hg]; exact (below_size (zW HB.out)) : w0.heap.size ≤ gb143)); clear HO1; clear HK; clear HB; have HO1 := n0_; have HK := n1_; have HB := n2_; have BK143 := n3_; have GW143 := n4_; have GE143 := n5_; clear n0_ n1_ n2_ n3_ n4_ n5_; clear hb hbox hg; have hcz37_0 : w36.cell? ⟨gb143, 0, none⟩ = some (.int .i64 a2_0) := (blk_cell BK143.out 0).trans rfl; have hcz37_1 : w36.cell? ⟨gb143, 1, none⟩ = some (.int .i64 a2_1) := (blk_cell BK143.out 1).trans rfl; have hcz37_2 : w36.cell? ⟨gb143, 2, none⟩ = some (.int .i64 a2_2) := (blk_cell BK143.out 2).trans rfl; have hcz37_3 : w36.cell? ⟨gb143, 3, none⟩ = some (.int .i64 a2_3) := (blk_cell BK143.out 3).trans rfl; have hfz37_0 := blk_frozen BK143.out 0; have hfz37_1 := blk_frozen BK143.out 1; have hfz37_2 := blk_frozen BK143.out 2; have hfz37_3 := blk_frozen BK143.out 3) | ((with_reducible refine gate_callee (f := 84) rfl ?_); refine goesL_ (some 14) rfl rfl Try.func84 (by kernel_rfl) rfl #[.int .i64 (a0.size : Int), .int .i64 a2_0, .int .i64 a2_1] rfl (by (try simp only [List.map_toArray, List.map_cons, List.map_nil]); first | done | rfl | (simp only [List.length_drop, List.length_take]; rfl)) ?_; (with_reducible refine (impl_yfits.calls (a0.size : Int) a2_0 a2_1 true _ A4.out).mono ?_); rintro e w' ⟨rfl, ⟨nd, rfl⟩⟩; refine ⟨_, rfl, ?_⟩; obtain ⟨Ao38, co38, eo38⟩ := Kd.R_slice HO1.out; subst eo38) | ((with_reducible refine gate_callee (f := 96) rfl ?_); refine goesL_ (some 35) rfl rfl Try.func96 (by kernel_rfl) rfl #[.agg #[.int .i64 a2_0, .int .i64 a2_1, .int .i64 a2_2, .int .i64 a2_3]] rfl (by (try simp only [List.map_toArray, List.map_cons, List.map_nil]); first | done | rfl | (simp only [List.length_drop, List.length_take]; rfl)) ?_; (with_reducible refine (impl_ydesc_buf.calls a2_0 a2_1 a2_2 a2_3 t159 t160 t161 _ A34.out).mono ?_); rintro e w39 ⟨rfl, hb⟩; refine ⟨_, rfl, ?_⟩; have n0_ := Aside0.mk (Kd.R_below (zR HO1.out) hb); have n1_ := Aside0.mk (blk_below (g := gb143) (o := .cells #[.int .i64 a2_0, .int .i64 a2_1, .int .i64 a2_2, .int .i64 a2_3] 112 (0, 0)) (zB BK143.out) hb); have n2_ := Aside0.mk (Kept.below (S := (fun k_ => P1_ k_)) (by repeat (first | (with_reducible first | exact HK.out | apply Kept.alloc | apply Kept.drewN | apply Kept.drew | refine Kept.setCell ?_ (.inr GW143.out) _) | exact HK.out)) hb); have n3_ := Aside0.mk (below_step (zW HB.out) hb); clear HO1; clear BK143; clear HK; clear HB; have HO1 := n0_; have BK143 := n1_; have HK := n2_; have HB := n3_; clear n0_ n1_ n2_ n3_; (try clear hb); (try clear hb2); (try clear hk); (try clear hi)) | ((with_reducible refine gate_builtin (b := .append) (xs := #[.tmp 33, .tmp 36]) rfl ?_); (try (refine gate_guard (by rfl) ?_; dsimp only)); at_builtin; refine Kd.R_append k75 (w0 := w0) w0.heap.size rfl (.tmp 33) (.tmp 36) 44 75 (.agg #[(.int .i64 0), (.int .i64 0), (.bool false)]) 24 rfl Try.underlying44 info75 rfl (by decide) (by omega) (.slice Ao38 l1.length co38) l1 (⟨t159, t160, t161⟩ : S75) [.int .i64 t159, .int .i64 t160, .bool t161] (fun k_ => (P1_ k_ ∨ w.heap.size ≤ k_)) (fun _ => False) rfl rfl ?aP (fun _ hk => hk.elim) ?aF ?aO ?aB ?aS ?aL ?_; (case aP => exact k75_mkM _ _ _ (⟨t159, t160, t161⟩ : S75)); (case aB => exact (zW HB.out)); (case aF => exact (fun k_ hk => (.inr (Nat.le_trans (by first | exact HK.out.1 | exact (show Kept w _ (fun k_ => P1_ k_) from by repeat (first | (with_reducible first | exact HK.out | apply Kept.alloc | apply Kept.drewN | apply Kept.drew | refine Kept.setCell ?_ (.inr GW143.out) _) | exact HK.out)).1) hk)))); (case aO => exact (zR HO1.out)); (case aS => exact (below_size (zW HB.out))); (case aL => have := LMc35.out; omega); intro v163 w40 ho hb hg hat; rw [← Ny162.out] at ho; have n0_ := Aside0.mk (blk_grown (g := gb143) (o := .cells #[.int .i64 a2_0, .int .i64 a2_1, .int .i64 a2_2, .int .i64 a2_3] 112 (0, 0)) (zB BK143.out) hg (Kd.R_ne HO1.out BK143.out (by decide))); have n1_ := Aside0.mk (hb); have n2_ := Aside0.mk (Kept.of_grown (S := (fun k_ => P1_ k_)) hg (by repeat (first | (with_reducible first | exact HK.out | apply Kept.alloc | apply Kept.drewN | apply Kept.drew | refine Kept.setCell ?_ (.inr GW143.out) _) | exact HK.out)) (fun k_ e_ => (HO1.out.1 k_ e_))); have n3_ := Aside0.mk (ho); clear BK143; clear HB; clear HK; clear HO1; have BK143 := n0_; have HB := n1_; have HK := n2_; have HO164 := n3_; clear n0_ n1_ n2_ n3_; clear ho hb hg hat))
        go_ret2
        exact ⟨_, by first | rfl | (simp [errW_none, errW_some] <;> rfl) | (simp [*, errW_none, errW_some] <;> rfl), by (with_reducible repeat (first | apply Kd.R_alloc | apply Kd.R_drewN | apply Kd.R_drew)); exact HO164.out, zW HB.out, by repeat (first | (with_reducible first | exact HK.out | apply Kept.alloc | apply Kept.drewN | apply Kept.drew | refine Kept.setCell ?_ (.inr GW143.out) _) | exact HK.out)⟩
      · rw [if_neg c35] at H
        exact absurd H (by simp)
  · replace c5 := Bool.eq_false_iff.mpr c5
    subst c5
    have H1 : (some (([] : List (S75)), 2)) = some (r1, r2) := by rw [if_neg (show ¬ (false = true) by decide)] at H; exact H
    clear H
    have H := H1
    clear H1
    simp only [Option.some.injEq, Prod.mk.injEq] at H
    obtain ⟨rfl, rfl⟩ := H
    go_enter Try.func89, Try.ntmps89
    go_wp2_with (first | ((with_reducible refine gate_dst (N := 5) rfl ?_); (try (refine gate_guard (by rfl) ?_; dsimp only)); refine box_event ?hg (N := 5) ?hd (cs := #[.int .i64 a2_0, .int .i64 a2_1, .int .i64 a2_2, .int .i64 a2_3]) (t := 112) ?hr ?_; (case hd => rfl); (case hg => rfl); (case hr => first | (go_simp; done) | (go_simp; rfl)); intro gb143 hg w41 hbox hb; have n0_ := Aside0.mk (Kd.R_below (zR HO1.out) hb); have n1_ := Aside0.mk (Kept.below (S := (fun k_ => P1_ k_)) (by repeat (first | (with_reducible first | exact HK.out | apply Kept.alloc | apply Kept.drewN | apply Kept.drew) | exact HK.out)) hb); have n2_ := Aside0.mk (below_step (zW HB.out) hb); have n3_ := Aside0.mk (hbox); have n4_ := Aside0.mk ((by rw [hg]; exact (by first | exact HK.out.1 | exact (show Kept w _ (fun k_ => P1_ k_) from by repeat (first | (with_reducible first | exact HK.out | apply Kept.alloc | apply Kept.drewN | apply Kept.drew) | exact HK.out)).1) : w.heap.size ≤ gb143)); have n5_ := Aside0.mk ((by rw [hg]; exact (below_size (zW HB.out)) : w0.heap.size ≤ gb143)); clear HO1; clear HK; clear HB; have HO1 := n0_; have HK := n1_; have HB := n2_; have BK143 := n3_; have GW143 := n4_; have GE143 := n5_; clear n0_ n1_ n2_ n3_ n4_ n5_; clear hb hbox hg; have hcz42_0 : w41.cell? ⟨gb143, 0, none⟩ = some (.int .i64 a2_0) := (blk_cell BK143.out 0).trans rfl; have hcz42_1 : w41.cell? ⟨gb143, 1, none⟩ = some (.int .i64 a2_1) := (blk_cell BK143.out 1).trans rfl; have hcz42_2 : w41.cell? ⟨gb143, 2, none⟩ = some (.int .i64 a2_2) := (blk_cell BK143.out 2).trans rfl; have hcz42_3 : w41.cell? ⟨gb143, 3, none⟩ = some (.int .i64 a2_3) := (blk_cell BK143.out 3).trans rfl; have hfz42_0 := blk_frozen BK143.out 0; have hfz42_1 := blk_frozen BK143.out 1; have hfz42_2 := blk_frozen BK143.out 2; have hfz42_3 := blk_frozen BK143.out 3) | ((with_reducible refine gate_callee (f := 84) rfl ?_); refine goesL_ (some 14) rfl rfl Try.func84 (by kernel_rfl) rfl #[.int .i64 (a0.size : Int), .int .i64 a2_0, .int .i64 a2_1] rfl (by (try simp only [List.map_toArray, List.map_cons, List.map_nil]); first | done | rfl | (simp only [List.length_drop, List.length_take]; rfl)) ?_; (with_reducible refine (impl_yfits.calls (a0.size : Int) a2_0 a2_1 false _ A4.out).mono ?_); rintro e w' ⟨rfl, ⟨nd, rfl⟩⟩; refine ⟨_, rfl, ?_⟩))
    go_ret2
    exact ⟨_, by first | rfl | (simp [errW_none, errW_some] <;> rfl) | (simp [*, errW_none, errW_some] <;> rfl), by first | exact Kd.R_nil _ _ _ _ _ | exact Kd.N_nil _ _ _ _ _ | exact Kd.V_nil _ _ _ _ _ | exact Kd.Q_nil _ _ _ _ _ | exact Kd.S_nil _ _ _ _ _, zW HB.out, by repeat (first | (with_reducible first | exact HK.out | apply Kept.alloc | apply Kept.drewN | apply Kept.drew | refine Kept.setCell ?_ (.inr GW143.out) _) | exact HK.out)⟩

end Go.Proofs.Ythcmgjbkmnpibaa.PFnExactTakePacked
