-- Printed for this claim by this session's own program.
import Derived.Test.YthcmgjbkmnpibaaPFnExactTakePackedx0
import Derived.Test.YthcmgjbkmnpibaaPFnExactTakePackedx3
namespace Go.Proofs.Ythcmgjbkmnpibaa.PFnExactTakePacked
open Go.RowKit Go.Proofs.YthcmgjbkmnpibaaW.PrintWords Go.Proofs.YthcmgjbkmnpibaaW.PrintLast Go.Proofs.YthcmgjbkmnpibaaW.PrintMore
attribute [local go_sem] max2_int min2_int max_two min_two max_three min_three max_four min_four   -- for this text's walks alone
set_option linter.unusedVariables false
set_option linter.unusedSimpArgs false

/-! ### impl_ytakePacked: function 65 -/
mutual
def impl_ytakePacked.j0 : Nat → ByteArray → Int → Bool → Int → Int → Int → Bool → Int → Int → Int → Int → Option (Int × Int × Int × (List (S75)))
  | 0, _, _, _, _, _, _, _, _, _, _, _ => none
  | k + 1, x0, x5, x29, x166000, x166001, x166002, x166003, x172000, x172001, x172002, x172003 => if x29 = true then (some (5, 0, 0, ([] : List (S75)))) else (impl_ytakePacked.l0 k x0 x5 x166000 x166001 x166002 x166003 x172000 x172001 x172002 x172003 0 0 0 ([] : List (S75)))
def impl_ytakePacked.l0 : Nat → ByteArray → Int → Int → Int → Int → Bool → Int → Int → Int → Int → Int → Int → Int → List (S75) → Option (Int × Int × Int × (List (S75)))
  | 0, _, _, _, _, _, _, _, _, _, _, _, _, _, _ => none
  | k + 1, x0, x5, x166000, x166001, x166002, x166003, x172000, x172001, x172002, x172003, x175000, x175001, x175002, x175003 => if (wrap64 (x175002 + 1)) > x166000 then (some (9, 0, 0, ([] : List (S75)))) else ((impl_ydesc_has.f x172000 x172001 x172002 x172003 4).bind fun t175 => (if t175 = true then (some (3, 0, 0, ([] : List (S75)))) else ((impl_yadd.f x0 x175003 x172000 x172001 x172002 x172003).bind fun bt176 => (if bt176.2 = 0 then ((impl_ydesc_has.f x172000 x172001 x172002 x172003 1).bind fun t180 => (if t180 = true then (if x166000 = 0 then (none) else ((impl_yreadDesc.f k x0 (wrap64 (x166001 + (wrap64 (16 * (Int.tmod (wrap64 (x5 + 1)) x166000)))))).bind fun bt181 => (impl_ytakePacked.l0 k x0 (Int.tmod (wrap64 (x5 + 1)) x166000) x166000 x166001 x166002 x166003 bt181.1 bt181.2.1 bt181.2.2.1 bt181.2.2.2 x175000 x175001 (wrap64 (x175002 + 1)) bt176.1))) else (some (x175000, Go.bits .and .i64 x172003 65535, wrap64 (x175002 + 1), bt176.1)))) else (some (bt176.2, 0, 0, ([] : List (S75))))))))
end
def impl_ytakePacked.f (k : Nat) (a0 : ByteArray) (a1_0 : Int) (a1_1 : Int) (a1_2 : Int) (a1_3 : Bool) : Option (Int × Int × Int × (List (S75))) := (impl_yreadDesc.f k a0 (wrap64 (a1_1 + (wrap64 (16 * a1_2))))).bind fun bt167 => ((impl_ydesc_has.f bt167.1 bt167.2.1 bt167.2.2.1 bt167.2.2.2 128).bind fun t172 => (if (t172 != a1_3) = true then (impl_ytakePacked.j0 k a0 a1_2 true a1_0 a1_1 a1_2 a1_3 bt167.1 bt167.2.1 bt167.2.2.1 bt167.2.2.2) else ((impl_ydesc_has.f bt167.1 bt167.2.1 bt167.2.2.1 bt167.2.2.2 32768).bind fun t173 => (impl_ytakePacked.j0 k a0 a1_2 (t173 == a1_3) a1_0 a1_1 a1_2 a1_3 bt167.1 bt167.2.1 bt167.2.2.1 bt167.2.2.2))))
theorem impl_ytakePacked.mono_l : ∀ k, (∀ y0 y1 y2 y3 y4 y5 y6 y7 y8 y9 y10, LeO (impl_ytakePacked.j0 k y0 y1 y2 y3 y4 y5 y6 y7 y8 y9 y10) (impl_ytakePacked.j0 (k + 1) y0 y1 y2 y3 y4 y5 y6 y7 y8 y9 y10)) ∧ (∀ y0 y1 y2 y3 y4 y5 y6 y7 y8 y9 y10 y11 y12 y13, LeO (impl_ytakePacked.l0 k y0 y1 y2 y3 y4 y5 y6 y7 y8 y9 y10 y11 y12 y13) (impl_ytakePacked.l0 (k + 1) y0 y1 y2 y3 y4 y5 y6 y7 y8 y9 y10 y11 y12 y13))
  | 0 => ⟨fun _ _ _ _ _ _ _ _ _ _ _ r h => by simp [impl_ytakePacked.j0] at h, fun _ _ _ _ _ _ _ _ _ _ _ _ _ _ r h => by simp [impl_ytakePacked.l0] at h⟩
  | k + 1 => by
    obtain ⟨ih0, ih1⟩ := impl_ytakePacked.mono_l k
    refine ⟨?_, ?_⟩
    · intro y0 y1 y2 y3 y4 y5 y6 y7 y8 y9 y10
      unfold impl_ytakePacked.j0
      repeat' first
      | (with_reducible exact ih0 _ _ _ _ _ _ _ _ _ _ _)
      | (with_reducible exact ih1 _ _ _ _ _ _ _ _ _ _ _ _ _ _)
      | (with_reducible exact impl_yreadDesc.mono _ _ _)
      | (with_reducible exact LeO.refl _)
      | (with_reducible exact LeO.none _)
      | (with_reducible refine LeO.ite ?_ ?_)
      | (with_reducible refine LeO.bind ?_ (fun _ => ?_))
      | exact ih0 _ _ _ _ _ _ _ _ _ _ _
      | exact ih1 _ _ _ _ _ _ _ _ _ _ _ _ _ _
      | exact impl_yreadDesc.mono _ _ _
      | exact LeO.none _
      | refine LeO.ite ?_ ?_
      | refine LeO.bind ?_ (fun _ => ?_)
    · intro y0 y1 y2 y3 y4 y5 y6 y7 y8 y9 y10 y11 y12 y13
      unfold impl_ytakePacked.l0
      repeat' first
      | (with_reducible exact ih0 _ _ _ _ _ _ _ _ _ _ _)
      | (with_reducible exact ih1 _ _ _ _ _ _ _ _ _ _ _ _ _ _)
      | (with_reducible exact impl_yreadDesc.mono _ _ _)
      | (with_reducible exact LeO.refl _)
      | (with_reducible exact LeO.none _)
      | (with_reducible refine LeO.ite ?_ ?_)
      | (with_reducible refine LeO.bind ?_ (fun _ => ?_))
      | exact ih0 _ _ _ _ _ _ _ _ _ _ _
      | exact ih1 _ _ _ _ _ _ _ _ _ _ _ _ _ _
      | exact impl_yreadDesc.mono _ _ _
      | exact LeO.none _
      | refine LeO.ite ?_ ?_
      | refine LeO.bind ?_ (fun _ => ?_)
theorem impl_ytakePacked.mono : ∀ a0 a1 a2 a3 a4 k, LeO (impl_ytakePacked.f k a0 a1 a2 a3 a4) (impl_ytakePacked.f (k + 1) a0 a1 a2 a3 a4) := by
  intro a0 a1 a2 a3 a4 k
  obtain ⟨ih0, ih1⟩ := impl_ytakePacked.mono_l k
  unfold impl_ytakePacked.f
  repeat' first
      | (with_reducible exact ih0 _ _ _ _ _ _ _ _ _ _ _)
      | (with_reducible exact ih1 _ _ _ _ _ _ _ _ _ _ _ _ _ _)
      | (with_reducible exact impl_yreadDesc.mono _ _ _)
      | (with_reducible exact LeO.refl _)
      | (with_reducible exact LeO.none _)
      | (with_reducible refine LeO.ite ?_ ?_)
      | (with_reducible refine LeO.bind ?_ (fun _ => ?_))
      | exact ih0 _ _ _ _ _ _ _ _ _ _ _
      | exact ih1 _ _ _ _ _ _ _ _ _ _ _ _ _ _
      | exact impl_yreadDesc.mono _ _ _
      | exact LeO.none _
      | refine LeO.ite ?_ ?_
      | refine LeO.bind ?_ (fun _ => ?_)
def impl_ytakePacked.T3 : Bool × List (List Nat × List Nat) := (true, [([], []), ([0], [0]), ([], []), ([2], [2]), ([1, 3], [1, 3]), ([4, 1], [4]), ([5], [5]), ([6, 5, 5], [5, 6]), ([5], [5]), ([8, 5], [5, 8]), ([7, 9, 5], [5, 7, 9]), ([5, 10], [5, 10])])
def impl_ytakePacked.B3 : List Nat := [0, 1, 0, 4, 15, 31, 63, 127, 63, 319, 1023, 2047]
theorem impl_ytakePacked.tab3 : rtab .any (opsOf Try.f65 3) = impl_ytakePacked.T3 := by kernel_rfl
theorem impl_ytakePacked.bits3 : waitsOk impl_ytakePacked.T3.2 impl_ytakePacked.B3 = true := by kernel_rfl
set_option maxHeartbeats 8000000 in
set_option maxRecDepth 100000 in
theorem impl_ytakePacked.calls (k : Nat) (a0 : ByteArray) (a1_0 : Int) (a1_1 : Int) (a1_2 : Int) (a1_3 : Bool) (r1 : Int) (r2 : Int) (r3 : Int) (r4 : List (S75)) (w : World) (h : impl_ytakePacked.f k a0 a1_0 a1_1 a1_2 a1_3 = some (r1, r2, r3, r4)) :
    Calls Try.prog 65 #[.string a0, .agg #[.int .i64 a1_0, .int .i64 a1_1, .int .i64 a1_2, .bool a1_3]] w fun e w' => ∃ v3_ : Value, e = .returned (.agg #[.int .i64 r1, .int .i64 r2, .int .i64 r3, v3_]) ∧ Kd.R k75 75 w' w.heap.size (fun _ => True) v3_ r4 ∧ Below w.heap.size w w' := by
  have hu25 := Try.underlying25
  have hu46 := Try.underlying46
  have hu112 := Try.underlying112
  have HB := Aside0.mk (Below.refl w.heap.size w)
  have H : ((impl_yreadDesc.f k a0 (wrap64 (a1_1 + (wrap64 (16 * a1_2))))).bind fun bt167 => ((impl_ydesc_has.f bt167.1 bt167.2.1 bt167.2.2.1 bt167.2.2.2 128).bind fun t172 => (if (t172 != a1_3) = true then (impl_ytakePacked.j0 k a0 a1_2 true a1_0 a1_1 a1_2 a1_3 bt167.1 bt167.2.1 bt167.2.2.1 bt167.2.2.2) else ((impl_ydesc_has.f bt167.1 bt167.2.1 bt167.2.2.1 bt167.2.2.2 32768).bind fun t173 => (impl_ytakePacked.j0 k a0 a1_2 (t173 == a1_3) a1_0 a1_1 a1_2 a1_3 bt167.1 bt167.2.1 bt167.2.2.1 bt167.2.2.2))))) = some (r1, r2, r3, r4) := h
  clear h
  replace H := Option.bind_eq_some_iff.mp H
  obtain ⟨⟨t167, t168, t169, t170⟩, A30, H⟩ := H
  replace H : ((impl_ydesc_has.f t167 t168 t169 t170 128).bind fun t172 => (if (t172 != a1_3) = true then (impl_ytakePacked.j0 k a0 a1_2 true a1_0 a1_1 a1_2 a1_3 t167 t168 t169 t170) else ((impl_ydesc_has.f t167 t168 t169 t170 32768).bind fun t173 => (impl_ytakePacked.j0 k a0 a1_2 (t173 == a1_3) a1_0 a1_1 a1_2 a1_3 t167 t168 t169 t170)))) = some (r1, r2, r3, r4) := H
  have A3 := Aside0.mk A30
  clear A30
  have HC4 := Aside0.mk H
  clear H
  go_enter Try.func65, Try.ntmps65
  go_upto_region 3 with (first | ((with_reducible refine gate_dst (N := 3) rfl ?_); refine box_event ?hg (N := 3) ?hd (cs := #[.int .i64 a1_0, .int .i64 a1_1, .int .i64 a1_2, .bool a1_3]) (t := 25) ?hr ?_; (case hd => rfl); (case hg => rfl); (case hr => first | (go_simp; done) | (go_simp; rfl)); intro gb165 hg w5 hbox hb; have n0_ := Aside0.mk (below_step (zW HB.out) hb); have n1_ := Aside0.mk (hbox); have n2_ := zG hg (zW HB.out); have n3_ := zG hg (zW HB.out); clear HB; have HB := n0_; have BK165 := n1_; have GW165 := n2_; have GE165 := n3_; clear n0_ n1_ n2_ n3_; clear hb hbox hg) | ((with_reducible refine gate_dst (N := 4) rfl ?_); refine box_event ?hg (N := 4) ?hd (cs := #[.int .i64 0, .int .i64 0, .int .i64 0, .slice none 0 0]) (t := 46) ?hr ?_; (case hd => rfl); (case hg => rfl); (case hr => first | (go_simp; done) | (go_simp; rfl)); intro gb166 hg w6 hbox hb; have n0_ := Aside0.mk (blk_below (g := gb165) (o := .cells #[.int .i64 a1_0, .int .i64 a1_1, .int .i64 a1_2, .bool a1_3] 25 (0, 0)) (zB BK165.out) hb); have n1_ := Aside0.mk (below_step (zW HB.out) hb); have n2_ := Aside0.mk (hbox); have n3_ := zG hg (zW HB.out); have n4_ := zG hg (zW HB.out); have n5_ := Aside0.mk ((by rw [hg]; exact Nat.ne_of_lt (blk_lt (g := gb165) (o := .cells #[.int .i64 a1_0, .int .i64 a1_1, .int .i64 a1_2, .bool a1_3] 25 (0, 0)) (zB BK165.out)) : gb165 ≠ gb166)); have n6_ := Aside0.mk ((by rw [hg]; exact Nat.ne_of_gt (blk_lt (g := gb165) (o := .cells #[.int .i64 a1_0, .int .i64 a1_1, .int .i64 a1_2, .bool a1_3] 25 (0, 0)) (zB BK165.out)) : gb166 ≠ gb165)); clear BK165; clear HB; have BK165 := n0_; have HB := n1_; have BK166 := n2_; have GW166 := n3_; have GE166 := n4_; have NB165_166 := n5_; have NB166_165 := n6_; clear n0_ n1_ n2_ n3_ n4_ n5_ n6_; clear hb hbox hg; have hnb7 := NB165_166.out; have hnc7 := NB166_165.out; have hcz8_0 : w6.cell? ⟨gb165, 0, none⟩ = some (.int .i64 a1_0) := (blk_cell BK165.out 0).trans rfl; have hcz8_1 : w6.cell? ⟨gb165, 1, none⟩ = some (.int .i64 a1_1) := (blk_cell BK165.out 1).trans rfl; have hcz8_2 : w6.cell? ⟨gb165, 2, none⟩ = some (.int .i64 a1_2) := (blk_cell BK165.out 2).trans rfl; have hcz8_3 : w6.cell? ⟨gb165, 3, none⟩ = some (.bool a1_3) := (blk_cell BK165.out 3).trans rfl; have hfz8_0 := blk_frozen BK165.out 0; have hfz8_1 := blk_frozen BK165.out 1; have hfz8_2 := blk_frozen BK165.out 2; have hfz8_3 := blk_frozen BK165.out 3) | ((with_reducible refine gate_callee (f := 87) rfl ?_); refine goesL_ (some 17) rfl rfl Try.func87 (by kernel_rfl) rfl #[.string a0, .int .i64 (wrap64 (a1_1 + (wrap64 (16 * a1_2))))] rfl (by (try simp only [List.map_toArray, List.map_cons, List.map_nil]); first | done | rfl | (simp only [List.length_drop, List.length_take]; rfl)) ?_; (with_reducible refine (impl_yreadDesc.calls k a0 (wrap64 (a1_1 + (wrap64 (16 * a1_2)))) t167 t168 t169 t170 _ A3.out).mono ?_); rintro e w9 ⟨rfl, hb⟩; refine ⟨_, rfl, ?_⟩; have n0_ := Aside0.mk (blk_below (g := gb165) (o := .cells #[.int .i64 a1_0, .int .i64 a1_1, .int .i64 a1_2, .bool a1_3] 25 (0, 0)) (zB BK165.out) hb); have n1_ := Aside0.mk (blk_below (g := gb166) (o := .cells #[.int .i64 0, .int .i64 0, .int .i64 0, .slice none 0 0] 46 (0, 0)) (zB BK166.out) hb); have n2_ := Aside0.mk (below_step (zW HB.out) hb); clear BK165; clear BK166; clear HB; have BK165 := n0_; have BK166 := n1_; have HB := n2_; clear n0_ n1_ n2_; (try clear hb); (try clear hb2); (try clear hk); (try clear hi)) | ((with_reducible refine gate_dst (N := 6) rfl ?_); refine box_event ?hg (N := 6) ?hd (cs := #[.int .i64 0, .int .i64 0, .int .i64 0, .int .i64 0]) (t := 112) ?hr ?_; (case hd => rfl); (case hg => rfl); (case hr => first | (go_simp; done) | (go_simp; rfl)); intro gb171 hg w10 hbox hb; have n0_ := Aside0.mk (blk_below (g := gb165) (o := .cells #[.int .i64 a1_0, .int .i64 a1_1, .int .i64 a1_2, .bool a1_3] 25 (0, 0)) (zB BK165.out) hb); have n1_ := Aside0.mk (blk_below (g := gb166) (o := .cells #[.int .i64 0, .int .i64 0, .int .i64 0, .slice none 0 0] 46 (0, 0)) (zB BK166.out) hb); have n2_ := Aside0.mk (below_step (zW HB.out) hb); have n3_ := Aside0.mk (hbox); have n4_ := zG hg (zW HB.out); have n5_ := zG hg (zW HB.out); have n6_ := Aside0.mk ((by rw [hg]; exact Nat.ne_of_lt (blk_lt (g := gb165) (o := .cells #[.int .i64 a1_0, .int .i64 a1_1, .int .i64 a1_2, .bool a1_3] 25 (0, 0)) (zB BK165.out)) : gb165 ≠ gb171)); have n7_ := Aside0.mk ((by rw [hg]; exact Nat.ne_of_gt (blk_lt (g := gb165) (o := .cells #[.int .i64 a1_0, .int .i64 a1_1, .int .i64 a1_2, .bool a1_3] 25 (0, 0)) (zB BK165.out)) : gb171 ≠ gb165)); have n8_ := Aside0.mk ((by rw [hg]; exact Nat.ne_of_lt (blk_lt (g := gb166) (o := .cells #[.int .i64 0, .int .i64 0, .int .i64 0, .slice none 0 0] 46 (0, 0)) (zB BK166.out)) : gb166 ≠ gb171)); have n9_ := Aside0.mk ((by rw [hg]; exact Nat.ne_of_gt (blk_lt (g := gb166) (o := .cells #[.int .i64 0, .int .i64 0, .int .i64 0, .slice none 0 0] 46 (0, 0)) (zB BK166.out)) : gb171 ≠ gb166)); clear BK165; clear BK166; clear HB; have BK165 := n0_; have BK166 := n1_; have HB := n2_; have BK171 := n3_; have GW171 := n4_; have GE171 := n5_; have NB165_171 := n6_; have NB171_165 := n7_; have NB166_171 := n8_; have NB171_166 := n9_; clear n0_ n1_ n2_ n3_ n4_ n5_ n6_ n7_ n8_ n9_; clear hb hbox hg; have hnb11 := NB171_165.out; have hnc11 := NB165_171.out; have hnb12 := NB171_166.out; have hnc12 := NB166_171.out; have hcz13_0 : w10.cell? ⟨gb171, 0, none⟩ = some (.int .i64 0) := (blk_cell BK171.out 0).trans rfl; have hcz13_1 : w10.cell? ⟨gb171, 1, none⟩ = some (.int .i64 0) := (blk_cell BK171.out 1).trans rfl; have hcz13_2 : w10.cell? ⟨gb171, 2, none⟩ = some (.int .i64 0) := (blk_cell BK171.out 2).trans rfl; have hcz13_3 : w10.cell? ⟨gb171, 3, none⟩ = some (.int .i64 0) := (blk_cell BK171.out 3).trans rfl; have hfz13_0 := blk_frozen BK171.out 0; have hfz13_1 := blk_frozen BK171.out 1; have hfz13_2 := blk_frozen BK171.out 2; have hfz13_3 := blk_frozen BK171.out 3))
  (try simp only [Act.put, List.setIfInBounds_toArray, List.set_cons_zero, List.set_cons_succ])
  go_cut [29] (fun v29 wc => ∃ (kq : Nat) (x29_3 : Bool), v29 = .bool x29_3 ∧ Aside0 (impl_ytakePacked.j0 kq a0 a1_2 x29_3 a1_0 a1_1 a1_2 a1_3 t167 t168 t169 t170 = some (r1, r2, r3, r4)) ∧ Aside0 (kq ≤ k) ∧ Aside0 (wc.heap[gb165]? = some (.cells #[.int .i64 a1_0, .int .i64 a1_1, .int .i64 a1_2, .bool a1_3] 25 (0, 0))) ∧ Aside0 (wc.heap[gb166]? = some (.cells #[.int .i64 0, .int .i64 0, .int .i64 0, (.slice none 0 0)] 46 (0, 0))) ∧ Aside0 (wc.heap[gb171]? = some (.cells #[.int .i64 t167, .int .i64 t168, .int .i64 t169, .int .i64 t170] 112 (0, 0))) ∧ Aside0 (Below w.heap.size w wc))
  case first =>
    have H := HC4.out
    clear HC4
    replace H := Option.bind_eq_some_iff.mp H
    obtain ⟨t172, A140, H⟩ := H
    replace H : (if (t172 != a1_3) = true then (impl_ytakePacked.j0 k a0 a1_2 true a1_0 a1_1 a1_2 a1_3 t167 t168 t169 t170) else ((impl_ydesc_has.f t167 t168 t169 t170 32768).bind fun t173 => (impl_ytakePacked.j0 k a0 a1_2 (t173 == a1_3) a1_0 a1_1 a1_2 a1_3 t167 t168 t169 t170))) = some (r1, r2, r3, r4) := H
    have A14 := Aside0.mk A140
    clear A140
    by_cases c15 : (t172 != a1_3) = true
    · rw [if_pos c15] at H
      have c15b0 : (t172 != a1_3) = true := c15
      (try (have c15b1 : decide (t172 = a1_3) = false := by simpa using c15))
      (try (have c15b2 : (t172 == a1_3) = false := by simpa using c15))
      (try (have c15b3 : ¬ (t172 = a1_3) := by simpa using c15))
      clear c15
      (first | rw [c15b0] | (simp only [i64_w, i32_w]; rw [c15b0]) | skip)
      have H' := Aside0.mk H
      clear H
      try go_wp2
      have n0_ : Aside0 (((((w10.setCell ⟨gb171, 0, none⟩ (.int .i64 t167)).setCell ⟨gb171, 1, none⟩ (.int .i64 t168)).setCell ⟨gb171, 2, none⟩ (.int .i64 t169)).setCell ⟨gb171, 3, none⟩ (.int .i64 t170)).heap[gb165]? = some (.cells #[.int .i64 a1_0, .int .i64 a1_1, .int .i64 a1_2, .bool a1_3] 25 (0, 0))) := ⟨by (with_reducible repeat (first | refine blk_drewN ?_ _ | refine blk_drew ?_ | refine blk_alloc ?_ _)); refine blk_far ?_ NB165_171.out _; (with_reducible repeat (first | refine blk_drewN ?_ _ | refine blk_drew ?_ | refine blk_alloc ?_ _)); refine blk_far ?_ NB165_171.out _; (with_reducible repeat (first | refine blk_drewN ?_ _ | refine blk_drew ?_ | refine blk_alloc ?_ _)); refine blk_far ?_ NB165_171.out _; (with_reducible repeat (first | refine blk_drewN ?_ _ | refine blk_drew ?_ | refine blk_alloc ?_ _)); refine blk_far ?_ NB165_171.out _; (with_reducible repeat (first | refine blk_drewN ?_ _ | refine blk_drew ?_ | refine blk_alloc ?_ _)); exact BK165.out⟩
      have n1_ : Aside0 (((((w10.setCell ⟨gb171, 0, none⟩ (.int .i64 t167)).setCell ⟨gb171, 1, none⟩ (.int .i64 t168)).setCell ⟨gb171, 2, none⟩ (.int .i64 t169)).setCell ⟨gb171, 3, none⟩ (.int .i64 t170)).heap[gb166]? = some (.cells #[.int .i64 0, .int .i64 0, .int .i64 0, .slice none 0 0] 46 (0, 0))) := ⟨by (with_reducible repeat (first | refine blk_drewN ?_ _ | refine blk_drew ?_ | refine blk_alloc ?_ _)); refine blk_far ?_ NB166_171.out _; (with_reducible repeat (first | refine blk_drewN ?_ _ | refine blk_drew ?_ | refine blk_alloc ?_ _)); refine blk_far ?_ NB166_171.out _; (with_reducible repeat (first | refine blk_drewN ?_ _ | refine blk_drew ?_ | refine blk_alloc ?_ _)); refine blk_far ?_ NB166_171.out _; (with_reducible repeat (first | refine blk_drewN ?_ _ | refine blk_drew ?_ | refine blk_alloc ?_ _)); refine blk_far ?_ NB166_171.out _; (with_reducible repeat (first | refine blk_drewN ?_ _ | refine blk_drew ?_ | refine blk_alloc ?_ _)); exact BK166.out⟩
      have n2_ : Aside0 (((((w10.setCell ⟨gb171, 0, none⟩ (.int .i64 t167)).setCell ⟨gb171, 1, none⟩ (.int .i64 t168)).setCell ⟨gb171, 2, none⟩ (.int .i64 t169)).setCell ⟨gb171, 3, none⟩ (.int .i64 t170)).heap[gb171]? = some (.cells #[.int .i64 t167, .int .i64 t168, .int .i64 t169, .int .i64 t170] 112 (0, 0))) := ⟨by (with_reducible repeat (first | refine blk_drewN ?_ _ | refine blk_drew ?_ | refine blk_alloc ?_ _)); refine blk_put (cs := #[.int .i64 t167, .int .i64 t168, .int .i64 t169, .int .i64 0]) ?_ 3 _ rfl; (with_reducible repeat (first | refine blk_drewN ?_ _ | refine blk_drew ?_ | refine blk_alloc ?_ _)); refine blk_put (cs := #[.int .i64 t167, .int .i64 t168, .int .i64 0, .int .i64 0]) ?_ 2 _ rfl; (with_reducible repeat (first | refine blk_drewN ?_ _ | refine blk_drew ?_ | refine blk_alloc ?_ _)); refine blk_put (cs := #[.int .i64 t167, .int .i64 0, .int .i64 0, .int .i64 0]) ?_ 1 _ rfl; (with_reducible repeat (first | refine blk_drewN ?_ _ | refine blk_drew ?_ | refine blk_alloc ?_ _)); refine blk_put (cs := #[.int .i64 0, .int .i64 0, .int .i64 0, .int .i64 0]) ?_ 0 _ rfl; (with_reducible repeat (first | refine blk_drewN ?_ _ | refine blk_drew ?_ | refine blk_alloc ?_ _)); exact BK171.out⟩
      have n3_ : Aside0 (Below w.heap.size w ((((w10.setCell ⟨gb171, 0, none⟩ (.int .i64 t167)).setCell ⟨gb171, 1, none⟩ (.int .i64 t168)).setCell ⟨gb171, 2, none⟩ (.int .i64 t169)).setCell ⟨gb171, 3, none⟩ (.int .i64 t170))) := ⟨zW HB.out⟩
      (try clear BK165)
      (try clear BK166)
      (try clear BK171)
      (try clear HB)
      generalize ((((w10.setCell ⟨gb171, 0, none⟩ (.int .i64 t167)).setCell ⟨gb171, 1, none⟩ (.int .i64 t168)).setCell ⟨gb171, 2, none⟩ (.int .i64 t169)).setCell ⟨gb171, 3, none⟩ (.int .i64 t170)) = w16 at n0_ n1_ n2_ n3_ ⊢
      have BK165 := n0_
      have BK166 := n1_
      have BK171 := n2_
      have HB := n3_
      clear n0_ n1_ n2_ n3_
      have n0_ := Aside0.mk (blk_drew BK165.out)
      have n1_ := Aside0.mk (blk_drew BK166.out)
      have n2_ := Aside0.mk (blk_drew BK171.out)
      have n3_ := Aside0.mk (below_drew1 HB.out)
      clear BK165
      clear BK166
      clear BK171
      clear HB
      have BK165 := n0_
      have BK166 := n1_
      have BK171 := n2_
      have HB := n3_
      clear n0_ n1_ n2_ n3_
      refine start_ (n := 12) (S := fun w' => w'.cell? ⟨gb171, 0, none⟩ = some (.int .i64 t167) ∧ w'.cell? ⟨gb171, 1, none⟩ = some (.int .i64 t168) ∧ w'.cell? ⟨gb171, 2, none⟩ = some (.int .i64 t169) ∧ w'.cell? ⟨gb171, 3, none⟩ = some (.int .i64 t170) ∧ w'.cell? ⟨gb165, 0, none⟩ = some (.int .i64 a1_0) ∧ w'.cell? ⟨gb165, 1, none⟩ = some (.int .i64 a1_1) ∧ w'.cell? ⟨gb165, 2, none⟩ = some (.int .i64 a1_2) ∧ w'.cell? ⟨gb165, 3, none⟩ = some (.bool a1_3)) (ds := []) #[false, false, false, false, false, false, false, false, false, false, false, false] (by kernel_rfl) rfl rfl ⟨(blk_cell BK171.out 0).trans rfl, (blk_cell BK171.out 1).trans rfl, (blk_cell BK171.out 2).trans rfl, (blk_cell BK171.out 3).trans rfl, (blk_cell BK165.out 0).trans rfl, (blk_cell BK165.out 1).trans rfl, (blk_cell BK165.out 2).trans rfl, (blk_cell BK165.out 3).trans rfl⟩ (fun hHeld => ?_); refine with_tabW impl_ytakePacked.tab3 impl_ytakePacked.bits3 (fun HT_ HW_ => ?_)
      generalize w16.drew = w17 at BK165 BK166 BK171 HB hHeld ⊢
      refine pure_ (i := 2) (N := some 20) (v := ?_) (a' := ?_) #[false, false, true, false, false, false, false, false, false, false, false, false] rfl rfl (any_of HT_.out (by kernel_rfl)) (fun _ _ _ h => h) (Or.inl ⟨by rfl, ?_⟩) ?_ ?_
      rotate_left
      · intro w'
        go_simp
        first | with_reducible rfl | (rw [if_neg (by (try clear HT_ HW_); simp only [ByteArray.size_extract, ByteArray.size_append, decide_eq_true_eq] at *; omega)]; try with_reducible rfl)
      rotate_left
      · simp only [Act.put, List.setIfInBounds_toArray, List.set_cons_zero, List.set_cons_succ, i64_w, i32_w]
        rfl
      refine take_ (i := 0) (N := some 18) (v := ?_) (a' := ?_) #[true, false, true, false, false, false, false, false, false, false, false, false] rfl rfl (take_ofW HT_.out HW_.out (by kernel_rfl)) (fun _ _ _ h => h) (Or.inl ⟨by rfl, ?_⟩) hHeld ?_ ?_
      rotate_left
      · rintro w' ⟨s0, s1, s2, s3, s4, s5, s6, s7⟩
        go_simp
        first | with_reducible rfl | (rw [if_neg (by (try clear HT_ HW_); simp only [ByteArray.size_extract, ByteArray.size_append, decide_eq_true_eq] at *; omega)]; try with_reducible rfl)
      rotate_left
      · simp only [Act.put, List.setIfInBounds_toArray, List.set_cons_zero, List.set_cons_succ, i64_w, i32_w]
        rfl
      refine take_ (i := 3) (N := some 21) (v := ?_) (a' := ?_) #[true, false, true, true, false, false, false, false, false, false, false, false] rfl rfl (take_ofW HT_.out HW_.out (by kernel_rfl)) (fun _ _ _ h => h) (Or.inl ⟨by rfl, ?_⟩) hHeld ?_ ?_
      rotate_left
      · rintro w' ⟨s0, s1, s2, s3, s4, s5, s6, s7⟩
        go_simp
        first | with_reducible rfl | (rw [if_neg (by (try clear HT_ HW_); simp only [ByteArray.size_extract, ByteArray.size_append, decide_eq_true_eq] at *; omega)]; try with_reducible rfl)
      rotate_left
      · simp only [Act.put, List.setIfInBounds_toArray, List.set_cons_zero, List.set_cons_succ, i64_w, i32_w]
        rfl
      refine one_ (i := 1) (N := some 19) #[true, true, true, true, false, false, false, false, false, false, false, false] rfl rfl (one_of HT_.out (by kernel_rfl)) (by decide) (fun K hK => ?_)
      refine goes_ Try.func88 (by kernel_rfl) rfl #[.agg #[.int .i64 t167, .int .i64 t168, .int .i64 t169, .int .i64 t170], .int .i64 128] (by rfl) rfl rfl (by (try simp only [List.map_toArray, List.map_cons, List.map_nil]); first | done | rfl | (simp only [List.length_drop, List.length_take]; rfl)) ?_
      with_reducible refine (impl_ydesc_has.calls t167 t168 t169 t170 128 t172 _ A14.out).mono ?_
      rintro e w18 ⟨rfl, hb⟩
      refine ⟨_, rfl, ?_⟩
      have n0_ := Aside0.mk (blk_below (g := gb165) (o := .cells #[.int .i64 a1_0, .int .i64 a1_1, .int .i64 a1_2, .bool a1_3] 25 (0, 0)) (zB BK165.out) hb)
      have n1_ := Aside0.mk (blk_below (g := gb166) (o := .cells #[.int .i64 0, .int .i64 0, .int .i64 0, .slice none 0 0] 46 (0, 0)) (zB BK166.out) hb)
      have n2_ := Aside0.mk (blk_below (g := gb171) (o := .cells #[.int .i64 t167, .int .i64 t168, .int .i64 t169, .int .i64 t170] 112 (0, 0)) (zB BK171.out) hb)
      have n3_ := Aside0.mk (below_step (zW HB.out) hb)
      clear BK165
      clear BK166
      clear BK171
      clear HB
      have BK165 := n0_
      have BK166 := n1_
      have BK171 := n2_
      have HB := n3_
      clear n0_ n1_ n2_ n3_
      (try clear hb)
      (try clear hb2)
      (try clear hk)
      (try clear hi)
      refine hK.out _ _ ⟨(blk_cell BK171.out 0).trans rfl, (blk_cell BK171.out 1).trans rfl, (blk_cell BK171.out 2).trans rfl, (blk_cell BK171.out 3).trans rfl, (blk_cell BK165.out 0).trans rfl, (blk_cell BK165.out 1).trans rfl, (blk_cell BK165.out 2).trans rfl, (blk_cell BK165.out 3).trans rfl⟩ (fun hHeld => ?_)
      clear hK K
      refine norm_ (a' := ?_) ?_ ?_
      rotate_left
      · show Act.put _ (some 19) _ = _
        simp only [Act.put, List.setIfInBounds_toArray, List.set_cons_zero, List.set_cons_succ, i64_w, i32_w]
        rfl
      refine pure_ (i := 4) (N := some 22) (v := ?_) (a' := ?_) #[true, true, true, true, true, false, false, false, false, false, false, false] rfl rfl (any_of HT_.out (by kernel_rfl)) (fun _ _ _ h => h) (Or.inl ⟨by rfl, ?_⟩) ?_ ?_
      rotate_left
      · intro w'
        go_simp
        first | with_reducible rfl | (rw [if_neg (by (try clear HT_ HW_); simp only [ByteArray.size_extract, ByteArray.size_append, decide_eq_true_eq] at *; omega)]; try with_reducible rfl)
      rotate_left
      · simp only [Act.put, List.setIfInBounds_toArray, List.set_cons_zero, List.set_cons_succ, i64_w, i32_w]
        rfl
      refine pure_ (i := 5) (N := some 23) (v := ?_) (a' := ?_) #[true, true, true, true, true, true, false, false, false, false, false, false] rfl rfl (any_of HT_.out (by kernel_rfl)) (fun _ _ _ h => h) (Or.inl ⟨by rfl, ?_⟩) ?_ ?_
      rotate_left
      · intro w'
        go_simp
        first | with_reducible rfl | (rw [if_neg (by (try clear HT_ HW_); simp only [ByteArray.size_extract, ByteArray.size_append, decide_eq_true_eq] at *; omega)]; try with_reducible rfl)
      rotate_left
      · simp only [Act.put, List.setIfInBounds_toArray, List.set_cons_zero, List.set_cons_succ, i64_w, i32_w]
        rfl
      refine pure_ (i := 6) (N := some 24) (v := undef) (a' := ?_) #[true, true, true, true, true, true, true, false, false, false, false, false] rfl rfl (any_of HT_.out (by kernel_rfl)) (fun _ _ _ h => h) (Or.inr ⟨by rfl, rfl⟩) ?_ ?_
      rotate_left
      · simp only [Act.put, List.setIfInBounds_toArray, List.set_cons_zero, List.set_cons_succ, i64_w, i32_w]
        rfl
      refine pure_ (i := 7) (N := some 25) (v := undef) (a' := ?_) #[true, true, true, true, true, true, true, true, false, false, false, false] rfl rfl (any_of HT_.out (by kernel_rfl)) (fun _ _ _ h => h) (Or.inr ⟨by rfl, rfl⟩) ?_ ?_
      rotate_left
      · simp only [Act.put, List.setIfInBounds_toArray, List.set_cons_zero, List.set_cons_succ, i64_w, i32_w]
        rfl
      refine pure_ (i := 8) (N := some 26) (v := undef) (a' := ?_) #[true, true, true, true, true, true, true, true, true, false, false, false] rfl rfl (any_of HT_.out (by kernel_rfl)) (fun _ _ _ h => h) (Or.inr ⟨by rfl, rfl⟩) ?_ ?_
      rotate_left
      · simp only [Act.put, List.setIfInBounds_toArray, List.set_cons_zero, List.set_cons_succ, i64_w, i32_w]
        rfl
      refine pure_ (i := 9) (N := some 27) (v := undef) (a' := ?_) #[true, true, true, true, true, true, true, true, true, true, false, false] rfl rfl (any_of HT_.out (by kernel_rfl)) (fun _ _ _ h => h) (Or.inr ⟨by rfl, rfl⟩) ?_ ?_
      rotate_left
      · simp only [Act.put, List.setIfInBounds_toArray, List.set_cons_zero, List.set_cons_succ, i64_w, i32_w]
        rfl
      refine pure_ (i := 10) (N := some 28) (v := undef) (a' := ?_) #[true, true, true, true, true, true, true, true, true, true, true, false] rfl rfl (any_of HT_.out (by kernel_rfl)) (fun _ _ _ h => h) (Or.inr ⟨by rfl, rfl⟩) ?_ ?_
      rotate_left
      · simp only [Act.put, List.setIfInBounds_toArray, List.set_cons_zero, List.set_cons_succ, i64_w, i32_w]
        rfl
      refine pure_ (i := 11) (N := some 29) (v := ?_) (a' := ?_) #[true, true, true, true, true, true, true, true, true, true, true, true] rfl rfl (any_of HT_.out (by kernel_rfl)) (fun _ _ _ h => h) (Or.inl ⟨by rfl, ?_⟩) ?_ ?_
      rotate_left
      · intro w'
        go_simp
        first | with_reducible rfl | (rw [if_neg (by (try clear HT_ HW_); simp only [ByteArray.size_extract, ByteArray.size_append, decide_eq_true_eq] at *; omega)]; try with_reducible rfl)
      rotate_left
      · simp only [Act.put, List.setIfInBounds_toArray, List.set_cons_zero, List.set_cons_succ, i64_w, i32_w]
        rfl
      refine done_ (done_of HT_.out (by kernel_rfl)) ?_
      try go_wp2
      go_meet
      case rel => exact ⟨_, (true), (by first | rfl | (simp; done) | (simp [*]; done)), H', ⟨by first | omega | exact Nat.le_refl _⟩, ⟨by (with_reducible repeat (first | refine blk_drewN ?_ _ | refine blk_drew ?_ | refine blk_alloc ?_ _)); exact BK165.out⟩, ⟨by (with_reducible repeat (first | refine blk_drewN ?_ _ | refine blk_drew ?_ | refine blk_alloc ?_ _)); exact BK166.out⟩, ⟨by (with_reducible repeat (first | refine blk_drewN ?_ _ | refine blk_drew ?_ | refine blk_alloc ?_ _)); exact BK171.out⟩, ⟨zW HB.out⟩⟩
    · rw [if_neg c15] at H
      have c15b0 : (t172 != a1_3) = false := by simpa using c15
      (try (have c15b1 : decide (t172 = a1_3) = true := by simpa using c15))
      (try (have c15b2 : (t172 == a1_3) = true := by simpa using c15))
      clear c15
      (first | rw [c15b0] | (simp only [i64_w, i32_w]; rw [c15b0]) | skip)
      replace H := Option.bind_eq_some_iff.mp H
      obtain ⟨t173, A190, H⟩ := H
      replace H : (impl_ytakePacked.j0 k a0 a1_2 (t173 == a1_3) a1_0 a1_1 a1_2 a1_3 t167 t168 t169 t170) = some (r1, r2, r3, r4) := H
      have A19 := Aside0.mk A190
      clear A190
      have H' := Aside0.mk H
      clear H
      try go_wp2
      have n0_ : Aside0 (((((w10.setCell ⟨gb171, 0, none⟩ (.int .i64 t167)).setCell ⟨gb171, 1, none⟩ (.int .i64 t168)).setCell ⟨gb171, 2, none⟩ (.int .i64 t169)).setCell ⟨gb171, 3, none⟩ (.int .i64 t170)).heap[gb165]? = some (.cells #[.int .i64 a1_0, .int .i64 a1_1, .int .i64 a1_2, .bool a1_3] 25 (0, 0))) := ⟨by (with_reducible repeat (first | refine blk_drewN ?_ _ | refine blk_drew ?_ | refine blk_alloc ?_ _)); refine blk_far ?_ NB165_171.out _; (with_reducible repeat (first | refine blk_drewN ?_ _ | refine blk_drew ?_ | refine blk_alloc ?_ _)); refine blk_far ?_ NB165_171.out _; (with_reducible repeat (first | refine blk_drewN ?_ _ | refine blk_drew ?_ | refine blk_alloc ?_ _)); refine blk_far ?_ NB165_171.out _; (with_reducible repeat (first | refine blk_drewN ?_ _ | refine blk_drew ?_ | refine blk_alloc ?_ _)); refine blk_far ?_ NB165_171.out _; (with_reducible repeat (first | refine blk_drewN ?_ _ | refine blk_drew ?_ | refine blk_alloc ?_ _)); exact BK165.out⟩
      have n1_ : Aside0 (((((w10.setCell ⟨gb171, 0, none⟩ (.int .i64 t167)).setCell ⟨gb171, 1, none⟩ (.int .i64 t168)).setCell ⟨gb171, 2, none⟩ (.int .i64 t169)).setCell ⟨gb171, 3, none⟩ (.int .i64 t170)).heap[gb166]? = some (.cells #[.int .i64 0, .int .i64 0, .int .i64 0, .slice none 0 0] 46 (0, 0))) := ⟨by (with_reducible repeat (first | refine blk_drewN ?_ _ | refine blk_drew ?_ | refine blk_alloc ?_ _)); refine blk_far ?_ NB166_171.out _; (with_reducible repeat (first | refine blk_drewN ?_ _ | refine blk_drew ?_ | refine blk_alloc ?_ _)); refine blk_far ?_ NB166_171.out _; (with_reducible repeat (first | refine blk_drewN ?_ _ | refine blk_drew ?_ | refine blk_alloc ?_ _)); refine blk_far ?_ NB166_171.out _; (with_reducible repeat (first | refine blk_drewN ?_ _ | refine blk_drew ?_ | refine blk_alloc ?_ _)); refine blk_far ?_ NB166_171.out _; (with_reducible repeat (first | refine blk_drewN ?_ _ | refine blk_drew ?_ | refine blk_alloc ?_ _)); exact BK166.out⟩
      have n2_ : Aside0 (((((w10.setCell ⟨gb171, 0, none⟩ (.int .i64 t167)).setCell ⟨gb171, 1, none⟩ (.int .i64 t168)).setCell ⟨gb171, 2, none⟩ (.int .i64 t169)).setCell ⟨gb171, 3, none⟩ (.int .i64 t170)).heap[gb171]? = some (.cells #[.int .i64 t167, .int .i64 t168, .int .i64 t169, .int .i64 t170] 112 (0, 0))) := ⟨by (with_reducible repeat (first | refine blk_drewN ?_ _ | refine blk_drew ?_ | refine blk_alloc ?_ _)); refine blk_put (cs := #[.int .i64 t167, .int .i64 t168, .int .i64 t169, .int .i64 0]) ?_ 3 _ rfl; (with_reducible repeat (first | refine blk_drewN ?_ _ | refine blk_drew ?_ | refine blk_alloc ?_ _)); refine blk_put (cs := #[.int .i64 t167, .int .i64 t168, .int .i64 0, .int .i64 0]) ?_ 2 _ rfl; (with_reducible repeat (first | refine blk_drewN ?_ _ | refine blk_drew ?_ | refine blk_alloc ?_ _)); refine blk_put (cs := #[.int .i64 t167, .int .i64 0, .int .i64 0, .int .i64 0]) ?_ 1 _ rfl; (with_reducible repeat (first | refine blk_drewN ?_ _ | refine blk_drew ?_ | refine blk_alloc ?_ _)); refine blk_put (cs := #[.int .i64 0, .int .i64 0, .int .i64 0, .int .i64 0]) ?_ 0 _ rfl; (with_reducible repeat (first | refine blk_drewN ?_ _ | refine blk_drew ?_ | refine blk_alloc ?_ _)); exact BK171.out⟩
      have n3_ : Aside0 (Below w.heap.size w ((((w10.setCell ⟨gb171, 0, none⟩ (.int .i64 t167)).setCell ⟨gb171, 1, none⟩ (.int .i64 t168)).setCell ⟨gb171, 2, none⟩ (.int .i64 t169)).setCell ⟨gb171, 3, none⟩ (.int .i64 t170))) := ⟨zW HB.out⟩
      (try clear BK165)
      (try clear BK166)
      (try clear BK171)
      (try clear HB)
      generalize ((((w10.setCell ⟨gb171, 0, none⟩ (.int .i64 t167)).setCell ⟨gb171, 1, none⟩ (.int .i64 t168)).setCell ⟨gb171, 2, none⟩ (.int .i64 t169)).setCell ⟨gb171, 3, none⟩ (.int .i64 t170)) = w20 at n0_ n1_ n2_ n3_ ⊢
      have BK165 := n0_
      have BK166 := n1_
      have BK171 := n2_
      have HB := n3_
      clear n0_ n1_ n2_ n3_
      have n0_ := Aside0.mk (blk_drew BK165.out)
      have n1_ := Aside0.mk (blk_drew BK166.out)
      have n2_ := Aside0.mk (blk_drew BK171.out)
      have n3_ := Aside0.mk (below_drew1 HB.out)
      clear BK165
      clear BK166
      clear BK171
      clear HB
      have BK165 := n0_
      have BK166 := n1_
      have BK171 := n2_
      have HB := n3_
      clear n0_ n1_ n2_ n3_
      refine start_ (n := 12) (S := fun w' => w'.cell? ⟨gb171, 0, none⟩ = some (.int .i64 t167) ∧ w'.cell? ⟨gb171, 1, none⟩ = some (.int .i64 t168) ∧ w'.cell? ⟨gb171, 2, none⟩ = some (.int .i64 t169) ∧ w'.cell? ⟨gb171, 3, none⟩ = some (.int .i64 t170) ∧ w'.cell? ⟨gb165, 0, none⟩ = some (.int .i64 a1_0) ∧ w'.cell? ⟨gb165, 1, none⟩ = some (.int .i64 a1_1) ∧ w'.cell? ⟨gb165, 2, none⟩ = some (.int .i64 a1_2) ∧ w'.cell? ⟨gb165, 3, none⟩ = some (.bool a1_3)) (ds := []) #[false, false, false, false, false, false, false, false, false, false, false, false] (by kernel_rfl) rfl rfl ⟨(blk_cell BK171.out 0).trans rfl, (blk_cell BK171.out 1).trans rfl, (blk_cell BK171.out 2).trans rfl, (blk_cell BK171.out 3).trans rfl, (blk_cell BK165.out 0).trans rfl, (blk_cell BK165.out 1).trans rfl, (blk_cell BK165.out 2).trans rfl, (blk_cell BK165.out 3).trans rfl⟩ (fun hHeld => ?_); refine with_tabW impl_ytakePacked.tab3 impl_ytakePacked.bits3 (fun HT_ HW_ => ?_)
      generalize w20.drew = w21 at BK165 BK166 BK171 HB hHeld ⊢
      refine pure_ (i := 2) (N := some 20) (v := ?_) (a' := ?_) #[false, false, true, false, false, false, false, false, false, false, false, false] rfl rfl (any_of HT_.out (by kernel_rfl)) (fun _ _ _ h => h) (Or.inl ⟨by rfl, ?_⟩) ?_ ?_
      rotate_left
      · intro w'
        go_simp
        first | with_reducible rfl | (rw [if_neg (by (try clear HT_ HW_); simp only [ByteArray.size_extract, ByteArray.size_append, decide_eq_true_eq] at *; omega)]; try with_reducible rfl)
      rotate_left
      · simp only [Act.put, List.setIfInBounds_toArray, List.set_cons_zero, List.set_cons_succ, i64_w, i32_w]
        rfl
      refine take_ (i := 0) (N := some 18) (v := ?_) (a' := ?_) #[true, false, true, false, false, false, false, false, false, false, false, false] rfl rfl (take_ofW HT_.out HW_.out (by kernel_rfl)) (fun _ _ _ h => h) (Or.inl ⟨by rfl, ?_⟩) hHeld ?_ ?_
      rotate_left
      · rintro w' ⟨s0, s1, s2, s3, s4, s5, s6, s7⟩
        go_simp
        first | with_reducible rfl | (rw [if_neg (by (try clear HT_ HW_); simp only [ByteArray.size_extract, ByteArray.size_append, decide_eq_true_eq] at *; omega)]; try with_reducible rfl)
      rotate_left
      · simp only [Act.put, List.setIfInBounds_toArray, List.set_cons_zero, List.set_cons_succ, i64_w, i32_w]
        rfl
      refine take_ (i := 3) (N := some 21) (v := ?_) (a' := ?_) #[true, false, true, true, false, false, false, false, false, false, false, false] rfl rfl (take_ofW HT_.out HW_.out (by kernel_rfl)) (fun _ _ _ h => h) (Or.inl ⟨by rfl, ?_⟩) hHeld ?_ ?_
      rotate_left
      · rintro w' ⟨s0, s1, s2, s3, s4, s5, s6, s7⟩
        go_simp
        first | with_reducible rfl | (rw [if_neg (by (try clear HT_ HW_); simp only [ByteArray.size_extract, ByteArray.size_append, decide_eq_true_eq] at *; omega)]; try with_reducible rfl)
      rotate_left
      · simp only [Act.put, List.setIfInBounds_toArray, List.set_cons_zero, List.set_cons_succ, i64_w, i32_w]
        rfl
      refine one_ (i := 1) (N := some 19) #[true, true, true, true, false, false, false, false, false, false, false, false] rfl rfl (one_of HT_.out (by kernel_rfl)) (by decide) (fun K hK => ?_)
      refine goes_ Try.func88 (by kernel_rfl) rfl #[.agg #[.int .i64 t167, .int .i64 t168, .int .i64 t169, .int .i64 t170], .int .i64 128] (by rfl) rfl rfl (by (try simp only [List.map_toArray, List.map_cons, List.map_nil]); first | done | rfl | (simp only [List.length_drop, List.length_take]; rfl)) ?_
      with_reducible refine (impl_ydesc_has.calls t167 t168 t169 t170 128 t172 _ A14.out).mono ?_
      rintro e w22 ⟨rfl, hb⟩
      refine ⟨_, rfl, ?_⟩
      have n0_ := Aside0.mk (blk_below (g := gb165) (o := .cells #[.int .i64 a1_0, .int .i64 a1_1, .int .i64 a1_2, .bool a1_3] 25 (0, 0)) (zB BK165.out) hb)
      have n1_ := Aside0.mk (blk_below (g := gb166) (o := .cells #[.int .i64 0, .int .i64 0, .int .i64 0, .slice none 0 0] 46 (0, 0)) (zB BK166.out) hb)
      have n2_ := Aside0.mk (blk_below (g := gb171) (o := .cells #[.int .i64 t167, .int .i64 t168, .int .i64 t169, .int .i64 t170] 112 (0, 0)) (zB BK171.out) hb)
      have n3_ := Aside0.mk (below_step (zW HB.out) hb)
      clear BK165
      clear BK166
      clear BK171
      clear HB
      have BK165 := n0_
      have BK166 := n1_
      have BK171 := n2_
      have HB := n3_
      clear n0_ n1_ n2_ n3_
      (try clear hb)
      (try clear hb2)
      (try clear hk)
      (try clear hi)
      refine hK.out _ _ ⟨(blk_cell BK171.out 0).trans rfl, (blk_cell BK171.out 1).trans rfl, (blk_cell BK171.out 2).trans rfl, (blk_cell BK171.out 3).trans rfl, (blk_cell BK165.out 0).trans rfl, (blk_cell BK165.out 1).trans rfl, (blk_cell BK165.out 2).trans rfl, (blk_cell BK165.out 3).trans rfl⟩ (fun hHeld => ?_)
      clear hK K
      refine norm_ (a' := ?_) ?_ ?_
      rotate_left
      · show Act.put _ (some 19) _ = _
        simp only [Act.put, List.setIfInBounds_toArray, List.set_cons_zero, List.set_cons_succ, i64_w, i32_w]
        rfl
      refine pure_ (i := 4) (N := some 22) (v := ?_) (a' := ?_) #[true, true, true, true, true, false, false, false, false, false, false, false] rfl rfl (any_of HT_.out (by kernel_rfl)) (fun _ _ _ h => h) (Or.inl ⟨by rfl, ?_⟩) ?_ ?_
      rotate_left
      · intro w'
        go_simp
        first | with_reducible rfl | (rw [if_neg (by (try clear HT_ HW_); simp only [ByteArray.size_extract, ByteArray.size_append, decide_eq_true_eq] at *; omega)]; try with_reducible rfl)
      rotate_left
      · simp only [Act.put, List.setIfInBounds_toArray, List.set_cons_zero, List.set_cons_succ, i64_w, i32_w]
        rfl
      refine pure_ (i := 5) (N := some 23) (v := ?_) (a' := ?_) #[true, true, true, true, true, true, false, false, false, false, false, false] rfl rfl (any_of HT_.out (by kernel_rfl)) (fun _ _ _ h => h) (Or.inl ⟨by rfl, ?_⟩) ?_ ?_
      rotate_left
      · intro w'
        go_simp
        first | with_reducible rfl | (rw [if_neg (by (try clear HT_ HW_); simp only [ByteArray.size_extract, ByteArray.size_append, decide_eq_true_eq] at *; omega)]; try with_reducible rfl)
      rotate_left
      · simp only [Act.put, List.setIfInBounds_toArray, List.set_cons_zero, List.set_cons_succ, i64_w, i32_w]
        rfl
      refine pure_ (i := 8) (N := some 26) (v := ?_) (a' := ?_) #[true, true, true, true, true, true, false, false, true, false, false, false] rfl rfl (any_of HT_.out (by kernel_rfl)) (fun _ _ _ h => h) (Or.inl ⟨by rfl, ?_⟩) ?_ ?_
      rotate_left
      · intro w'
        go_simp
        first | with_reducible rfl | (rw [if_neg (by (try clear HT_ HW_); simp only [ByteArray.size_extract, ByteArray.size_append, decide_eq_true_eq] at *; omega)]; try with_reducible rfl)
      rotate_left
      · simp only [Act.put, List.setIfInBounds_toArray, List.set_cons_zero, List.set_cons_succ, i64_w, i32_w]
        rfl
      refine take_ (i := 6) (N := some 24) (v := ?_) (a' := ?_) #[true, true, true, true, true, true, true, false, true, false, false, false] rfl rfl (take_ofW HT_.out HW_.out (by kernel_rfl)) (fun _ _ _ h => h) (Or.inl ⟨by rfl, ?_⟩) hHeld ?_ ?_
      rotate_left
      · rintro w' ⟨s0, s1, s2, s3, s4, s5, s6, s7⟩
        go_simp
        first | with_reducible rfl | (rw [if_neg (by (try clear HT_ HW_); simp only [ByteArray.size_extract, ByteArray.size_append, decide_eq_true_eq] at *; omega)]; try with_reducible rfl)
      rotate_left
      · simp only [Act.put, List.setIfInBounds_toArray, List.set_cons_zero, List.set_cons_succ, i64_w, i32_w]
        rfl
      refine take_ (i := 9) (N := some 27) (v := ?_) (a' := ?_) #[true, true, true, true, true, true, true, false, true, true, false, false] rfl rfl (take_ofW HT_.out HW_.out (by kernel_rfl)) (fun _ _ _ h => h) (Or.inl ⟨by rfl, ?_⟩) hHeld ?_ ?_
      rotate_left
      · rintro w' ⟨s0, s1, s2, s3, s4, s5, s6, s7⟩
        go_simp
        first | with_reducible rfl | (rw [if_neg (by (try clear HT_ HW_); simp only [ByteArray.size_extract, ByteArray.size_append, decide_eq_true_eq] at *; omega)]; try with_reducible rfl)
      rotate_left
      · simp only [Act.put, List.setIfInBounds_toArray, List.set_cons_zero, List.set_cons_succ, i64_w, i32_w]
        rfl
      refine one_ (i := 7) (N := some 25) #[true, true, true, true, true, true, true, true, true, true, false, false] rfl rfl (one_of HT_.out (by kernel_rfl)) (by decide) (fun K hK => ?_)
      refine goes_ Try.func88 (by kernel_rfl) rfl #[.agg #[.int .i64 t167, .int .i64 t168, .int .i64 t169, .int .i64 t170], .int .i64 32768] (by rfl) rfl rfl (by (try simp only [List.map_toArray, List.map_cons, List.map_nil]); first | done | rfl | (simp only [List.length_drop, List.length_take]; rfl)) ?_
      with_reducible refine (impl_ydesc_has.calls t167 t168 t169 t170 32768 t173 _ A19.out).mono ?_
      rintro e w23 ⟨rfl, hb⟩
      refine ⟨_, rfl, ?_⟩
      have n0_ := Aside0.mk (blk_below (g := gb165) (o := .cells #[.int .i64 a1_0, .int .i64 a1_1, .int .i64 a1_2, .bool a1_3] 25 (0, 0)) (zB BK165.out) hb)
      have n1_ := Aside0.mk (blk_below (g := gb166) (o := .cells #[.int .i64 0, .int .i64 0, .int .i64 0, .slice none 0 0] 46 (0, 0)) (zB BK166.out) hb)
      have n2_ := Aside0.mk (blk_below (g := gb171) (o := .cells #[.int .i64 t167, .int .i64 t168, .int .i64 t169, .int .i64 t170] 112 (0, 0)) (zB BK171.out) hb)
      have n3_ := Aside0.mk (below_step (zW HB.out) hb)
      clear BK165
      clear BK166
      clear BK171
      clear HB
      have BK165 := n0_
      have BK166 := n1_
      have BK171 := n2_
      have HB := n3_
      clear n0_ n1_ n2_ n3_
      (try clear hb)
      (try clear hb2)
      (try clear hk)
      (try clear hi)
      refine hK.out _ _ ⟨(blk_cell BK171.out 0).trans rfl, (blk_cell BK171.out 1).trans rfl, (blk_cell BK171.out 2).trans rfl, (blk_cell BK171.out 3).trans rfl, (blk_cell BK165.out 0).trans rfl, (blk_cell BK165.out 1).trans rfl, (blk_cell BK165.out 2).trans rfl, (blk_cell BK165.out 3).trans rfl⟩ (fun hHeld => ?_)
      clear hK K
      refine norm_ (a' := ?_) ?_ ?_
      rotate_left
      · show Act.put _ (some 25) _ = _
        simp only [Act.put, List.setIfInBounds_toArray, List.set_cons_zero, List.set_cons_succ, i64_w, i32_w]
        rfl
      refine pure_ (i := 10) (N := some 28) (v := ?_) (a' := ?_) #[true, true, true, true, true, true, true, true, true, true, true, false] rfl rfl (any_of HT_.out (by kernel_rfl)) (fun _ _ _ h => h) (Or.inl ⟨by rfl, ?_⟩) ?_ ?_
      rotate_left
      · intro w'
        go_simp
        first | with_reducible rfl | (rw [if_neg (by (try clear HT_ HW_); simp only [ByteArray.size_extract, ByteArray.size_append, decide_eq_true_eq] at *; omega)]; try with_reducible rfl)
      rotate_left
      · simp only [Act.put, List.setIfInBounds_toArray, List.set_cons_zero, List.set_cons_succ, i64_w, i32_w]
        rfl
      refine pure_ (i := 11) (N := some 29) (v := ?_) (a' := ?_) #[true, true, true, true, true, true, true, true, true, true, true, true] rfl rfl (any_of HT_.out (by kernel_rfl)) (fun _ _ _ h => h) (Or.inl ⟨by rfl, ?_⟩) ?_ ?_
      rotate_left
      · intro w'
        go_simp
        first | with_reducible rfl | (rw [if_neg (by (try clear HT_ HW_); simp only [ByteArray.size_extract, ByteArray.size_append, decide_eq_true_eq] at *; omega)]; try with_reducible rfl)
      rotate_left
      · simp only [Act.put, List.setIfInBounds_toArray, List.set_cons_zero, List.set_cons_succ, i64_w, i32_w]
        rfl
      refine done_ (done_of HT_.out (by kernel_rfl)) ?_
      try go_wp2
      go_meet
      case rel => exact ⟨_, ((t173 == a1_3)), (by first | rfl | (simp; done) | (simp [*]; done)), H', ⟨by first | omega | exact Nat.le_refl _⟩, ⟨by (with_reducible repeat (first | refine blk_drewN ?_ _ | refine blk_drew ?_ | refine blk_alloc ?_ _)); exact BK165.out⟩, ⟨by (with_reducible repeat (first | refine blk_drewN ?_ _ | refine blk_drew ?_ | refine blk_alloc ?_ _)); exact BK166.out⟩, ⟨by (with_reducible repeat (first | refine blk_drewN ?_ _ | refine blk_drew ?_ | refine blk_alloc ?_ _)); exact BK171.out⟩, ⟨zW HB.out⟩⟩
  case rest =>
    clear HC4
    try clear c1
    try clear p2
    try clear c6
    try clear p6
    try clear c7
    try clear c8
    try clear c11
    try clear c12
    try clear c15
    try clear c15b0
    try clear c15b1
    try clear c15b2
    try clear hcz13_0
    try clear hcz13_1
    try clear hcz13_2
    try clear hcz13_3
    try clear hcz8_0
    try clear hcz8_1
    try clear hcz8_2
    try clear hcz8_3
    try clear hfz13_0
    try clear hfz13_1
    try clear hfz13_2
    try clear hfz13_3
    try clear hfz8_0
    try clear hfz8_1
    try clear hfz8_2
    try clear hfz8_3
    obtain ⟨kq, x29_3, rfl, HA, HJ3, BK165, BK166, BK171, HB⟩ := hcut
    cases kq with
    | zero => exact absurd HA.out (by simp [impl_ytakePacked.j0])
    | succ kj3 =>
      have H := HA.out
      clear HA
      simp only [impl_ytakePacked.j0] at H
      by_cases c24 : x29_3 = true
      · subst c24
        have H1 : (some (5, 0, 0, ([] : List (S75)))) = some (r1, r2, r3, r4) := by rw [if_pos rfl] at H; exact H
        clear H
        have H := H1
        clear H1
        simp only [Option.some.injEq, Prod.mk.injEq] at H
        obtain ⟨rfl, rfl, rfl, rfl⟩ := H
        have hnb25 := NB166_165.out
        have hnc25 := NB165_166.out
        have hnb26 := NB166_171.out
        have hnc26 := NB171_166.out
        have hcz27_0 : wc.cell? ⟨gb166, 0, none⟩ = some (.int .i64 0) := (blk_cell BK166.out 0).trans rfl
        have hcz27_1 : wc.cell? ⟨gb166, 1, none⟩ = some (.int .i64 0) := (blk_cell BK166.out 1).trans rfl
        have hcz27_2 : wc.cell? ⟨gb166, 2, none⟩ = some (.int .i64 0) := (blk_cell BK166.out 2).trans rfl
        have hcz27_3 : wc.cell? ⟨gb166, 3, none⟩ = some (.slice none 0 0) := (blk_cell BK166.out 3).trans rfl
        have hfz27_0 := blk_frozen BK166.out 0
        have hfz27_1 := blk_frozen BK166.out 1
        have hfz27_2 := blk_frozen BK166.out 2
        have hfz27_3 := blk_frozen BK166.out 3
        go_wp2
        refine bodyPost_ret (results_cell_row rfl _ _ gb166 46 #[.int .i64 5, .int .i64 0, .int .i64 0, .slice none 0 0] (0, 0) _ rfl (by (with_reducible repeat (first | refine blk_drewN ?_ _ | refine blk_drew ?_ | refine blk_alloc ?_ _)); refine blk_put (cs := #[.int .i64 5, .int .i64 0, .int .i64 0, .slice none 0 0]) ?_ 3 _ rfl; (with_reducible repeat (first | refine blk_drewN ?_ _ | refine blk_drew ?_ | refine blk_alloc ?_ _)); refine blk_put (cs := #[.int .i64 5, .int .i64 0, .int .i64 0, .slice none 0 0]) ?_ 2 _ rfl; (with_reducible repeat (first | refine blk_drewN ?_ _ | refine blk_drew ?_ | refine blk_alloc ?_ _)); refine blk_put (cs := #[.int .i64 5, .int .i64 0, .int .i64 0, .slice none 0 0]) ?_ 1 _ rfl; (with_reducible repeat (first | refine blk_drewN ?_ _ | refine blk_drew ?_ | refine blk_alloc ?_ _)); refine blk_put (cs := #[.int .i64 0, .int .i64 0, .int .i64 0, .slice none 0 0]) ?_ 0 _ rfl; (with_reducible repeat (first | refine blk_drewN ?_ _ | refine blk_drew ?_ | refine blk_alloc ?_ _)); exact BK166.out) Try.underlying46 rfl (by kernel_rfl)) rfl ?_
        exact ⟨_, by first | rfl | (simp [errW_none, errW_some] <;> rfl) | (simp [*, errW_none, errW_some] <;> rfl), by first | exact Kd.R_nil _ _ _ _ _ | exact Kd.N_nil _ _ _ _ _ | exact Kd.V_nil _ _ _ _ _ | exact Kd.Q_nil _ _ _ _ _ | exact Kd.S_nil _ _ _ _ _, zW HB.out⟩
      · replace c24 := Bool.eq_false_iff.mpr c24
        subst c24
        have H1 : (impl_ytakePacked.l0 kj3 a0 a1_2 a1_0 a1_1 a1_2 a1_3 t167 t168 t169 t170 0 0 0 ([] : List (S75))) = some (r1, r2, r3, r4) := by rw [if_neg (show ¬ (false = true) by decide)] at H; exact H
        clear H
        have H := H1
        clear H1
        have H' := Aside0.mk H
        clear H
        go_wp2_with (first | ((with_reducible refine gate_dst (N := 7) rfl ?_); refine box_event ?hg (N := 7) ?hd (cs := #[.int .i64 0, .int .i64 0, .int .i64 0, .slice none 0 0]) (t := 46) ?hr ?_; (case hd => rfl); (case hg => rfl); (case hr => first | (go_simp; done) | (go_simp; rfl)); intro gb174 hg w28 hbox hb; have n0_ := Aside0.mk (blk_below (g := gb165) (o := .cells #[.int .i64 a1_0, .int .i64 a1_1, .int .i64 a1_2, .bool a1_3] 25 (0, 0)) (zB BK165.out) hb); have n1_ := Aside0.mk (blk_below (g := gb166) (o := .cells #[.int .i64 0, .int .i64 0, .int .i64 0, .slice none 0 0] 46 (0, 0)) (zB BK166.out) hb); have n2_ := Aside0.mk (blk_below (g := gb171) (o := .cells #[.int .i64 t167, .int .i64 t168, .int .i64 t169, .int .i64 t170] 112 (0, 0)) (zB BK171.out) hb); have n3_ := Aside0.mk (below_step (zW HB.out) hb); have n4_ := Aside0.mk (hbox); have n5_ := zG hg (zW HB.out); have n6_ := zG hg (zW HB.out); have n7_ := Aside0.mk ((by rw [hg]; exact Nat.ne_of_lt (blk_lt (g := gb165) (o := .cells #[.int .i64 a1_0, .int .i64 a1_1, .int .i64 a1_2, .bool a1_3] 25 (0, 0)) (zB BK165.out)) : gb165 ≠ gb174)); have n8_ := Aside0.mk ((by rw [hg]; exact Nat.ne_of_gt (blk_lt (g := gb165) (o := .cells #[.int .i64 a1_0, .int .i64 a1_1, .int .i64 a1_2, .bool a1_3] 25 (0, 0)) (zB BK165.out)) : gb174 ≠ gb165)); have n9_ := Aside0.mk ((by rw [hg]; exact Nat.ne_of_lt (blk_lt (g := gb166) (o := .cells #[.int .i64 0, .int .i64 0, .int .i64 0, .slice none 0 0] 46 (0, 0)) (zB BK166.out)) : gb166 ≠ gb174)); have n10_ := Aside0.mk ((by rw [hg]; exact Nat.ne_of_gt (blk_lt (g := gb166) (o := .cells #[.int .i64 0, .int .i64 0, .int .i64 0, .slice none 0 0] 46 (0, 0)) (zB BK166.out)) : gb174 ≠ gb166)); have n11_ := Aside0.mk ((by rw [hg]; exact Nat.ne_of_lt (blk_lt (g := gb171) (o := .cells #[.int .i64 t167, .int .i64 t168, .int .i64 t169, .int .i64 t170] 112 (0, 0)) (zB BK171.out)) : gb171 ≠ gb174)); have n12_ := Aside0.mk ((by rw [hg]; exact Nat.ne_of_gt (blk_lt (g := gb171) (o := .cells #[.int .i64 t167, .int .i64 t168, .int .i64 t169, .int .i64 t170] 112 (0, 0)) (zB BK171.out)) : gb174 ≠ gb171)); clear BK165; clear BK166; clear BK171; clear HB; have BK165 := n0_; have BK166 := n1_; have BK171 := n2_; have HB := n3_; have BK174 := n4_; have GW174 := n5_; have GE174 := n6_; have NB165_174 := n7_; have NB174_165 := n8_; have NB166_174 := n9_; have NB174_166 := n10_; have NB171_174 := n11_; have NB174_171 := n12_; clear n0_ n1_ n2_ n3_ n4_ n5_ n6_ n7_ n8_ n9_ n10_ n11_ n12_; clear hb hbox hg; have hnb29 := NB174_165.out; have hnc29 := NB165_174.out; have hnb30 := NB174_166.out; have hnc30 := NB166_174.out; have hnb31 := NB174_171.out; have hnc31 := NB171_174.out; have hcz32_0 : w28.cell? ⟨gb174, 0, none⟩ = some (.int .i64 0) := (blk_cell BK174.out 0).trans rfl; have hcz32_1 : w28.cell? ⟨gb174, 1, none⟩ = some (.int .i64 0) := (blk_cell BK174.out 1).trans rfl; have hcz32_2 : w28.cell? ⟨gb174, 2, none⟩ = some (.int .i64 0) := (blk_cell BK174.out 2).trans rfl; have hcz32_3 : w28.cell? ⟨gb174, 3, none⟩ = some (.slice none 0 0) := (blk_cell BK174.out 3).trans rfl; have hfz32_0 := blk_frozen BK174.out 0; have hfz32_1 := blk_frozen BK174.out 1; have hfz32_2 := blk_frozen BK174.out 2; have hfz32_3 := blk_frozen BK174.out 3))
        go_loopg [5] kj3 (fun kq v5 w' => ∃ (x5_2 : Int) (x167000_2 : Int) (x167001_2 : Int) (x167002_2 : Int) (x172000_2 : Int) (x172001_2 : Int) (x172002_2 : Int) (x172003_2 : Int) (x175001_2 : Int) (x175002_2 : Int) (x175003_2 : List (S75)) (u175003 : Value), v5 = .int .i64 x5_2 ∧ Aside0 (impl_ytakePacked.l0 kq a0 x5_2 a1_0 a1_1 a1_2 a1_3 x172000_2 x172001_2 x172002_2 x172003_2 0 x175001_2 x175002_2 x175003_2 = some (r1, r2, r3, r4)) ∧ Aside0 (kq ≤ kj3) ∧ Aside0 (Kd.R k75 75 w' w.heap.size (fun _ => True) u175003 x175003_2) ∧ Aside0 (w'.heap[gb165]? = some (.cells #[.int .i64 a1_0, .int .i64 a1_1, .int .i64 a1_2, .bool a1_3] 25 (0, 0))) ∧ Aside0 (w'.heap[gb166]? = some (.cells #[.int .i64 x167000_2, .int .i64 x167001_2, .int .i64 x167002_2, (.slice none 0 0)] 46 (0, 0))) ∧ Aside0 (w'.heap[gb171]? = some (.cells #[.int .i64 x172000_2, .int .i64 x172001_2, .int .i64 x172002_2, .int .i64 x172003_2] 112 (0, 0))) ∧ Aside0 (w'.heap[gb174]? = some (.cells #[.int .i64 0, .int .i64 x175001_2, .int .i64 x175002_2, u175003] 46 (0, 0))) ∧ Aside0 (Below w.heap.size w w'))
        case atStart => exact ⟨(a1_2), (0), (0), (0), (t167), (t168), (t169), (t170), (0), (0), (([] : List (S75))), (.slice none 0 0), (by first | rfl | (simp; done) | (simp [*]; done)), H', ⟨Nat.le_refl _⟩, ⟨by first | exact Kd.R_nil _ _ _ _ _ | exact Kd.N_nil _ _ _ _ _ | exact Kd.V_nil _ _ _ _ _ | exact Kd.Q_nil _ _ _ _ _ | exact Kd.S_nil _ _ _ _ _⟩, ⟨by (with_reducible repeat (first | refine blk_drewN ?_ _ | refine blk_drew ?_ | refine blk_alloc ?_ _)); refine blk_far ?_ NB165_174.out _; (with_reducible repeat (first | refine blk_drewN ?_ _ | refine blk_drew ?_ | refine blk_alloc ?_ _)); refine blk_far ?_ NB165_174.out _; (with_reducible repeat (first | refine blk_drewN ?_ _ | refine blk_drew ?_ | refine blk_alloc ?_ _)); refine blk_far ?_ NB165_174.out _; (with_reducible repeat (first | refine blk_drewN ?_ _ | refine blk_drew ?_ | refine blk_alloc ?_ _)); refine blk_far ?_ NB165_174.out _; (with_reducible repeat (first | refine blk_drewN ?_ _ | refine blk_drew ?_ | refine blk_alloc ?_ _)); exact BK165.out⟩, ⟨by (with_reducible repeat (first | refine blk_drewN ?_ _ | refine blk_drew ?_ | refine blk_alloc ?_ _)); refine blk_far ?_ NB166_174.out _; (with_reducible repeat (first | refine blk_drewN ?_ _ | refine blk_drew ?_ | refine blk_alloc ?_ _)); refine blk_far ?_ NB166_174.out _; (with_reducible repeat (first | refine blk_drewN ?_ _ | refine blk_drew ?_ | refine blk_alloc ?_ _)); refine blk_far ?_ NB166_174.out _; (with_reducible repeat (first | refine blk_drewN ?_ _ | refine blk_drew ?_ | refine blk_alloc ?_ _)); refine blk_far ?_ NB166_174.out _; (with_reducible repeat (first | refine blk_drewN ?_ _ | refine blk_drew ?_ | refine blk_alloc ?_ _)); exact BK166.out⟩, ⟨by (with_reducible repeat (first | refine blk_drewN ?_ _ | refine blk_drew ?_ | refine blk_alloc ?_ _)); refine blk_far ?_ NB171_174.out _; (with_reducible repeat (first | refine blk_drewN ?_ _ | refine blk_drew ?_ | refine blk_alloc ?_ _)); refine blk_far ?_ NB171_174.out _; (with_reducible repeat (first | refine blk_drewN ?_ _ | refine blk_drew ?_ | refine blk_alloc ?_ _)); refine blk_far ?_ NB171_174.out _; (with_reducible repeat (first | refine blk_drewN ?_ _ | refine blk_drew ?_ | refine blk_alloc ?_ _)); refine blk_far ?_ NB171_174.out _; (with_reducible repeat (first | refine blk_drewN ?_ _ | refine blk_drew ?_ | refine blk_alloc ?_ _)); exact BK171.out⟩, ⟨by (with_reducible repeat (first | refine blk_drewN ?_ _ | refine blk_drew ?_ | refine blk_alloc ?_ _)); refine blk_put (cs := #[.int .i64 0, .int .i64 0, .int .i64 0, .slice none 0 0]) ?_ 3 _ rfl; (with_reducible repeat (first | refine blk_drewN ?_ _ | refine blk_drew ?_ | refine blk_alloc ?_ _)); refine blk_put (cs := #[.int .i64 0, .int .i64 0, .int .i64 0, .slice none 0 0]) ?_ 2 _ rfl; (with_reducible repeat (first | refine blk_drewN ?_ _ | refine blk_drew ?_ | refine blk_alloc ?_ _)); refine blk_put (cs := #[.int .i64 0, .int .i64 0, .int .i64 0, .slice none 0 0]) ?_ 1 _ rfl; (with_reducible repeat (first | refine blk_drewN ?_ _ | refine blk_drew ?_ | refine blk_alloc ?_ _)); refine blk_put (cs := #[.int .i64 0, .int .i64 0, .int .i64 0, .slice none 0 0]) ?_ 0 _ rfl; (with_reducible repeat (first | refine blk_drewN ?_ _ | refine blk_drew ?_ | refine blk_alloc ?_ _)); exact BK174.out⟩, ⟨zW HB.out⟩⟩
        case round =>
          clear H'
          try clear c1
          try clear c2
          try clear p2
          try clear c3
          try clear c6
          try clear p6
          try clear c7
          try clear c8
          try clear c11
          try clear c12
          try clear c15
          try clear c15b0
          try clear c15b1
          try clear c15b2
          try clear c24
          try clear c25
          try clear c26
          try clear c29
          try clear c30
          try clear c31
          try clear hcz13_0
          try clear hcz13_1
          try clear hcz13_2
          try clear hcz13_3
          try clear hcz27_0
          try clear hcz27_1
          try clear hcz27_2
          try clear hcz27_3
          try clear hcz32_0
          try clear hcz32_1
          try clear hcz32_2
          try clear hcz32_3
          try clear hcz8_0
          try clear hcz8_1
          try clear hcz8_2
          try clear hcz8_3
          try clear hfz13_0
          try clear hfz13_1
          try clear hfz13_2
          try clear hfz13_3
          try clear hfz27_0
          try clear hfz27_1
          try clear hfz27_2
          try clear hfz27_3
          try clear hfz32_0
          try clear hfz32_1
          try clear hfz32_2
          try clear hfz32_3
          try clear hfz8_0
          try clear hfz8_1
          try clear hfz8_2
          try clear hfz8_3
          try clear p2
          try clear p6
          obtain ⟨x5_2, x167000_2, x167001_2, x167002_2, x172000_2, x172001_2, x172002_2, x172003_2, x175001_2, x175002_2, x175003_2, u175003, rfl, HA, HK2, HO_175003, BK165, BK166, BK171, BK174, HB⟩ := hrel
          cases gk with
          | zero => exact absurd HA.out (by simp [impl_ytakePacked.l0])
          | succ k2 =>
            have H := HA.out
            clear HA
            simp only [impl_ytakePacked.l0] at H
            by_cases c33 : (wrap64 (x175002_2 + 1)) > a1_0
            · rw [if_pos c33] at H
              have c33b0 : decide (a1_0 < (wrap64 (x175002_2 + 1))) = true := decide_eq_true c33
              clear c33
              simp only [Option.some.injEq, Prod.mk.injEq] at H
              obtain ⟨rfl, rfl, rfl, rfl⟩ := H
              have hnb34 := NB174_165.out
              have hnc34 := NB165_174.out
              have hnb35 := NB174_166.out
              have hnc35 := NB166_174.out
              have hnb36 := NB174_171.out
              have hnc36 := NB171_174.out
              have hcz37_0 : wr.cell? ⟨gb174, 0, none⟩ = some (.int .i64 0) := (blk_cell BK174.out 0).trans rfl
              have hcz37_1 : wr.cell? ⟨gb174, 1, none⟩ = some (.int .i64 x175001_2) := (blk_cell BK174.out 1).trans rfl
              have hcz37_2 : wr.cell? ⟨gb174, 2, none⟩ = some (.int .i64 x175002_2) := (blk_cell BK174.out 2).trans rfl
              have hcz37_3 : wr.cell? ⟨gb174, 3, none⟩ = some (u175003) := (blk_cell BK174.out 3).trans rfl
              have hfz37_0 := blk_frozen BK174.out 0
              have hfz37_1 := blk_frozen BK174.out 1
              have hfz37_2 := blk_frozen BK174.out 2
              have hfz37_3 := blk_frozen BK174.out 3
              have hnb38 := NB165_166.out
              have hnc38 := NB166_165.out
              have hnb39 := NB165_171.out
              have hnc39 := NB171_165.out
              have hcz40_0 : wr.cell? ⟨gb165, 0, none⟩ = some (.int .i64 a1_0) := (blk_cell BK165.out 0).trans rfl
              have hcz40_1 : wr.cell? ⟨gb165, 1, none⟩ = some (.int .i64 a1_1) := (blk_cell BK165.out 1).trans rfl
              have hcz40_2 : wr.cell? ⟨gb165, 2, none⟩ = some (.int .i64 a1_2) := (blk_cell BK165.out 2).trans rfl
              have hcz40_3 : wr.cell? ⟨gb165, 3, none⟩ = some (.bool a1_3) := (blk_cell BK165.out 3).trans rfl
              have hfz40_0 := blk_frozen BK165.out 0
              have hfz40_1 := blk_frozen BK165.out 1
              have hfz40_2 := blk_frozen BK165.out 2
              have hfz40_3 := blk_frozen BK165.out 3
              have hnb41 := NB166_171.out
              have hnc41 := NB171_166.out
              have hcz42_0 : wr.cell? ⟨gb166, 0, none⟩ = some (.int .i64 x167000_2) := (blk_cell BK166.out 0).trans rfl
              have hcz42_1 : wr.cell? ⟨gb166, 1, none⟩ = some (.int .i64 x167001_2) := (blk_cell BK166.out 1).trans rfl
              have hcz42_2 : wr.cell? ⟨gb166, 2, none⟩ = some (.int .i64 x167002_2) := (blk_cell BK166.out 2).trans rfl
              have hcz42_3 : wr.cell? ⟨gb166, 3, none⟩ = some (.slice none 0 0) := (blk_cell BK166.out 3).trans rfl
              have hfz42_0 := blk_frozen BK166.out 0
              have hfz42_1 := blk_frozen BK166.out 1
              have hfz42_2 := blk_frozen BK166.out 2
              have hfz42_3 := blk_frozen BK166.out 3
              go_wp2
              refine bodyPost_ret (results_cell_row rfl _ _ gb166 46 #[.int .i64 9, .int .i64 0, .int .i64 0, .slice none 0 0] (0, 0) _ rfl (by (with_reducible repeat (first | refine blk_drewN ?_ _ | refine blk_drew ?_ | refine blk_alloc ?_ _)); refine blk_put (cs := #[.int .i64 9, .int .i64 0, .int .i64 0, .slice none 0 0]) ?_ 3 _ rfl; (with_reducible repeat (first | refine blk_drewN ?_ _ | refine blk_drew ?_ | refine blk_alloc ?_ _)); refine blk_put (cs := #[.int .i64 9, .int .i64 0, .int .i64 x167002_2, .slice none 0 0]) ?_ 2 _ rfl; (with_reducible repeat (first | refine blk_drewN ?_ _ | refine blk_drew ?_ | refine blk_alloc ?_ _)); refine blk_put (cs := #[.int .i64 9, .int .i64 x167001_2, .int .i64 x167002_2, .slice none 0 0]) ?_ 1 _ rfl; (with_reducible repeat (first | refine blk_drewN ?_ _ | refine blk_drew ?_ | refine blk_alloc ?_ _)); refine blk_put (cs := #[.int .i64 x167000_2, .int .i64 x167001_2, .int .i64 x167002_2, .slice none 0 0]) ?_ 0 _ rfl; (with_reducible repeat (first | refine blk_drewN ?_ _ | refine blk_drew ?_ | refine blk_alloc ?_ _)); refine blk_far ?_ NB166_174.out _; (with_reducible repeat (first | refine blk_drewN ?_ _ | refine blk_drew ?_ | refine blk_alloc ?_ _)); exact BK166.out) Try.underlying46 rfl (by kernel_rfl)) rfl ?_
              exact ⟨_, by first | rfl | (simp [errW_none, errW_some] <;> rfl) | (simp [*, errW_none, errW_some] <;> rfl), by first | exact Kd.R_nil _ _ _ _ _ | exact Kd.N_nil _ _ _ _ _ | exact Kd.V_nil _ _ _ _ _ | exact Kd.Q_nil _ _ _ _ _ | exact Kd.S_nil _ _ _ _ _, zW HB.out⟩
            · rw [if_neg c33] at H
              have c33b0 : decide (a1_0 < (wrap64 (x175002_2 + 1))) = false := decide_eq_false c33
              clear c33
              replace H := Option.bind_eq_some_iff.mp H
              obtain ⟨t175, A430, H⟩ := H
              replace H : (if t175 = true then (some (3, 0, 0, ([] : List (S75)))) else ((impl_yadd.f a0 x175003_2 x172000_2 x172001_2 x172002_2 x172003_2).bind fun bt176 => (if bt176.2 = 0 then ((impl_ydesc_has.f x172000_2 x172001_2 x172002_2 x172003_2 1).bind fun t180 => (if t180 = true then (if a1_0 = 0 then (none) else ((impl_yreadDesc.f k2 a0 (wrap64 (a1_1 + (wrap64 (16 * (Int.tmod (wrap64 (x5_2 + 1)) a1_0)))))).bind fun bt181 => (impl_ytakePacked.l0 k2 a0 (Int.tmod (wrap64 (x5_2 + 1)) a1_0) a1_0 a1_1 a1_2 a1_3 bt181.1 bt181.2.1 bt181.2.2.1 bt181.2.2.2 0 x175001_2 (wrap64 (x175002_2 + 1)) bt176.1))) else (some (0, Go.bits .and .i64 x172003_2 65535, wrap64 (x175002_2 + 1), bt176.1)))) else (some (bt176.2, 0, 0, ([] : List (S75))))))) = some (r1, r2, r3, r4) := H
              have A43 := Aside0.mk A430
              clear A430
              by_cases c44 : t175 = true
              · subst c44
                have H1 : (some (3, 0, 0, ([] : List (S75)))) = some (r1, r2, r3, r4) := by rw [if_pos rfl] at H; exact H
                clear H
                have H := H1
                clear H1
                simp only [Option.some.injEq, Prod.mk.injEq] at H
                obtain ⟨rfl, rfl, rfl, rfl⟩ := H
                have hnb45 := NB174_165.out
                have hnc45 := NB165_174.out
                have hnb46 := NB174_166.out
                have hnc46 := NB166_174.out
                have hnb47 := NB174_171.out
                have hnc47 := NB171_174.out
                have hcz48_0 : wr.cell? ⟨gb174, 0, none⟩ = some (.int .i64 0) := (blk_cell BK174.out 0).trans rfl
                have hcz48_1 : wr.cell? ⟨gb174, 1, none⟩ = some (.int .i64 x175001_2) := (blk_cell BK174.out 1).trans rfl
                have hcz48_2 : wr.cell? ⟨gb174, 2, none⟩ = some (.int .i64 x175002_2) := (blk_cell BK174.out 2).trans rfl
                have hcz48_3 : wr.cell? ⟨gb174, 3, none⟩ = some (u175003) := (blk_cell BK174.out 3).trans rfl
                have hfz48_0 := blk_frozen BK174.out 0
                have hfz48_1 := blk_frozen BK174.out 1
                have hfz48_2 := blk_frozen BK174.out 2
                have hfz48_3 := blk_frozen BK174.out 3
                have hnb49 := NB165_166.out
                have hnc49 := NB166_165.out
                have hnb50 := NB165_171.out
                have hnc50 := NB171_165.out
                have hcz51_0 : wr.cell? ⟨gb165, 0, none⟩ = some (.int .i64 a1_0) := (blk_cell BK165.out 0).trans rfl
                have hcz51_1 : wr.cell? ⟨gb165, 1, none⟩ = some (.int .i64 a1_1) := (blk_cell BK165.out 1).trans rfl
                have hcz51_2 : wr.cell? ⟨gb165, 2, none⟩ = some (.int .i64 a1_2) := (blk_cell BK165.out 2).trans rfl
                have hcz51_3 : wr.cell? ⟨gb165, 3, none⟩ = some (.bool a1_3) := (blk_cell BK165.out 3).trans rfl
                have hfz51_0 := blk_frozen BK165.out 0
                have hfz51_1 := blk_frozen BK165.out 1
                have hfz51_2 := blk_frozen BK165.out 2
                have hfz51_3 := blk_frozen BK165.out 3
                have hnb52 := NB171_166.out
                have hnc52 := NB166_171.out
                have hcz53_0 : wr.cell? ⟨gb171, 0, none⟩ = some (.int .i64 x172000_2) := (blk_cell BK171.out 0).trans rfl
                have hcz53_1 : wr.cell? ⟨gb171, 1, none⟩ = some (.int .i64 x172001_2) := (blk_cell BK171.out 1).trans rfl
                have hcz53_2 : wr.cell? ⟨gb171, 2, none⟩ = some (.int .i64 x172002_2) := (blk_cell BK171.out 2).trans rfl
                have hcz53_3 : wr.cell? ⟨gb171, 3, none⟩ = some (.int .i64 x172003_2) := (blk_cell BK171.out 3).trans rfl
                have hfz53_0 := blk_frozen BK171.out 0
                have hfz53_1 := blk_frozen BK171.out 1
                have hfz53_2 := blk_frozen BK171.out 2
                have hfz53_3 := blk_frozen BK171.out 3
                go_wp2_with (first | ((with_reducible refine gate_callee (f := 88) rfl ?_); refine goesL_ (some 43) rfl rfl Try.func88 (by kernel_rfl) rfl #[.agg #[.int .i64 x172000_2, .int .i64 x172001_2, .int .i64 x172002_2, .int .i64 x172003_2], .int .i64 4] rfl (by (try simp only [List.map_toArray, List.map_cons, List.map_nil]); first | done | rfl | (simp only [List.length_drop, List.length_take]; rfl)) ?_; (with_reducible refine (impl_ydesc_has.calls x172000_2 x172001_2 x172002_2 x172003_2 4 true _ A43.out).mono ?_); rintro e w54 ⟨rfl, hb⟩; refine ⟨_, rfl, ?_⟩; have n0_ := Aside0.mk (Kd.R_below (by (with_reducible repeat (first | apply Kd.R_alloc | apply Kd.R_drewN | apply Kd.R_drew)); exact (Kd.R_mono (Kd.R_far (p := ⟨gb174, 2, none⟩) (Kd.R_types HO_175003.out BK174.out (by decide)) (fun _ hk => hk.2) (.int .i64 (wrap64 (x175002_2 + 1)))) (fun _ h_ => h_.1))) hb); have n1_ := Aside0.mk (blk_below (g := gb165) (o := .cells #[.int .i64 a1_0, .int .i64 a1_1, .int .i64 a1_2, .bool a1_3] 25 (0, 0)) (by (with_reducible repeat (first | refine blk_drewN ?_ _ | refine blk_drew ?_ | refine blk_alloc ?_ _)); refine blk_far ?_ NB165_174.out _; (with_reducible repeat (first | refine blk_drewN ?_ _ | refine blk_drew ?_ | refine blk_alloc ?_ _)); exact BK165.out) hb); have n2_ := Aside0.mk (blk_below (g := gb166) (o := .cells #[.int .i64 x167000_2, .int .i64 x167001_2, .int .i64 x167002_2, .slice none 0 0] 46 (0, 0)) (by (with_reducible repeat (first | refine blk_drewN ?_ _ | refine blk_drew ?_ | refine blk_alloc ?_ _)); refine blk_far ?_ NB166_174.out _; (with_reducible repeat (first | refine blk_drewN ?_ _ | refine blk_drew ?_ | refine blk_alloc ?_ _)); exact BK166.out) hb); have n3_ := Aside0.mk (blk_below (g := gb171) (o := .cells #[.int .i64 x172000_2, .int .i64 x172001_2, .int .i64 x172002_2, .int .i64 x172003_2] 112 (0, 0)) (by (with_reducible repeat (first | refine blk_drewN ?_ _ | refine blk_drew ?_ | refine blk_alloc ?_ _)); refine blk_far ?_ NB171_174.out _; (with_reducible repeat (first | refine blk_drewN ?_ _ | refine blk_drew ?_ | refine blk_alloc ?_ _)); exact BK171.out) hb); have n4_ := Aside0.mk (blk_below (g := gb174) (o := .cells #[.int .i64 0, .int .i64 x175001_2, .int .i64 (wrap64 (x175002_2 + 1)), u175003] 46 (0, 0)) (by (with_reducible repeat (first | refine blk_drewN ?_ _ | refine blk_drew ?_ | refine blk_alloc ?_ _)); refine blk_put (cs := #[.int .i64 0, .int .i64 x175001_2, .int .i64 x175002_2, u175003]) ?_ 2 _ rfl; (with_reducible repeat (first | refine blk_drewN ?_ _ | refine blk_drew ?_ | refine blk_alloc ?_ _)); exact BK174.out) hb); have n5_ := Aside0.mk (below_step (zW HB.out) hb); clear HO_175003; clear BK165; clear BK166; clear BK171; clear BK174; clear HB; have HO_175003 := n0_; have BK165 := n1_; have BK166 := n2_; have BK171 := n3_; have BK174 := n4_; have HB := n5_; clear n0_ n1_ n2_ n3_ n4_ n5_; (try clear hb); (try clear hb2); (try clear hk); (try clear hi); have hcz55_0 : w54.cell? ⟨gb166, 0, none⟩ = some (.int .i64 x167000_2) := (blk_cell BK166.out 0).trans rfl; have hcz55_1 : w54.cell? ⟨gb166, 1, none⟩ = some (.int .i64 x167001_2) := (blk_cell BK166.out 1).trans rfl; have hcz55_2 : w54.cell? ⟨gb166, 2, none⟩ = some (.int .i64 x167002_2) := (blk_cell BK166.out 2).trans rfl; have hcz55_3 : w54.cell? ⟨gb166, 3, none⟩ = some (.slice none 0 0) := (blk_cell BK166.out 3).trans rfl; have hfz55_0 := blk_frozen BK166.out 0; have hfz55_1 := blk_frozen BK166.out 1; have hfz55_2 := blk_frozen BK166.out 2; have hfz55_3 := blk_frozen BK166.out 3))
                refine bodyPost_ret (results_cell_row rfl _ _ gb166 46 #[.int .i64 3, .int .i64 0, .int .i64 0, .slice none 0 0] (0, 0) _ rfl (by (with_reducible repeat (first | refine blk_drewN ?_ _ | refine blk_drew ?_ | refine blk_alloc ?_ _)); refine blk_put (cs := #[.int .i64 3, .int .i64 0, .int .i64 0, .slice none 0 0]) ?_ 3 _ rfl; (with_reducible repeat (first | refine blk_drewN ?_ _ | refine blk_drew ?_ | refine blk_alloc ?_ _)); refine blk_put (cs := #[.int .i64 3, .int .i64 0, .int .i64 x167002_2, .slice none 0 0]) ?_ 2 _ rfl; (with_reducible repeat (first | refine blk_drewN ?_ _ | refine blk_drew ?_ | refine blk_alloc ?_ _)); refine blk_put (cs := #[.int .i64 3, .int .i64 x167001_2, .int .i64 x167002_2, .slice none 0 0]) ?_ 1 _ rfl; (with_reducible repeat (first | refine blk_drewN ?_ _ | refine blk_drew ?_ | refine blk_alloc ?_ _)); refine blk_put (cs := #[.int .i64 x167000_2, .int .i64 x167001_2, .int .i64 x167002_2, .slice none 0 0]) ?_ 0 _ rfl; (with_reducible repeat (first | refine blk_drewN ?_ _ | refine blk_drew ?_ | refine blk_alloc ?_ _)); exact BK166.out) Try.underlying46 rfl (by kernel_rfl)) rfl ?_
                exact ⟨_, by first | rfl | (simp [errW_none, errW_some] <;> rfl) | (simp [*, errW_none, errW_some] <;> rfl), by first | exact Kd.R_nil _ _ _ _ _ | exact Kd.N_nil _ _ _ _ _ | exact Kd.V_nil _ _ _ _ _ | exact Kd.Q_nil _ _ _ _ _ | exact Kd.S_nil _ _ _ _ _, zW HB.out⟩
              · replace c44 := Bool.eq_false_iff.mpr c44
                subst c44
                have H1 : ((impl_yadd.f a0 x175003_2 x172000_2 x172001_2 x172002_2 x172003_2).bind fun bt176 => (if bt176.2 = 0 then ((impl_ydesc_has.f x172000_2 x172001_2 x172002_2 x172003_2 1).bind fun t180 => (if t180 = true then (if a1_0 = 0 then (none) else ((impl_yreadDesc.f k2 a0 (wrap64 (a1_1 + (wrap64 (16 * (Int.tmod (wrap64 (x5_2 + 1)) a1_0)))))).bind fun bt181 => (impl_ytakePacked.l0 k2 a0 (Int.tmod (wrap64 (x5_2 + 1)) a1_0) a1_0 a1_1 a1_2 a1_3 bt181.1 bt181.2.1 bt181.2.2.1 bt181.2.2.2 0 x175001_2 (wrap64 (x175002_2 + 1)) bt176.1))) else (some (0, Go.bits .and .i64 x172003_2 65535, wrap64 (x175002_2 + 1), bt176.1)))) else (some (bt176.2, 0, 0, ([] : List (S75)))))) = some (r1, r2, r3, r4) := by rw [if_neg (show ¬ (false = true) by decide)] at H; exact H
                clear H
                have H := H1
                clear H1
                replace H := Option.bind_eq_some_iff.mp H
                obtain ⟨⟨t176, t179⟩, A560, H⟩ := H
                replace H : (if t179 = 0 then ((impl_ydesc_has.f x172000_2 x172001_2 x172002_2 x172003_2 1).bind fun t180 => (if t180 = true then (if a1_0 = 0 then (none) else ((impl_yreadDesc.f k2 a0 (wrap64 (a1_1 + (wrap64 (16 * (Int.tmod (wrap64 (x5_2 + 1)) a1_0)))))).bind fun bt181 => (impl_ytakePacked.l0 k2 a0 (Int.tmod (wrap64 (x5_2 + 1)) a1_0) a1_0 a1_1 a1_2 a1_3 bt181.1 bt181.2.1 bt181.2.2.1 bt181.2.2.2 0 x175001_2 (wrap64 (x175002_2 + 1)) t176))) else (some (0, Go.bits .and .i64 x172003_2 65535, wrap64 (x175002_2 + 1), t176)))) else (some (t179, 0, 0, ([] : List (S75))))) = some (r1, r2, r3, r4) := H
                have A56 := Aside0.mk A560
                clear A560
                by_cases c57 : t179 = 0
                · rw [if_pos c57] at H
                  have c57b0 : (t179 == 0) = true := beq_iff_eq.mpr c57
                  have c57b1 : (t179 != 0) = false := bne_eq_false_iff_eq.mpr c57
                  clear c57
                  replace H := Option.bind_eq_some_iff.mp H
                  obtain ⟨t180, A580, H⟩ := H
                  replace H : (if t180 = true then (if a1_0 = 0 then (none) else ((impl_yreadDesc.f k2 a0 (wrap64 (a1_1 + (wrap64 (16 * (Int.tmod (wrap64 (x5_2 + 1)) a1_0)))))).bind fun bt181 => (impl_ytakePacked.l0 k2 a0 (Int.tmod (wrap64 (x5_2 + 1)) a1_0) a1_0 a1_1 a1_2 a1_3 bt181.1 bt181.2.1 bt181.2.2.1 bt181.2.2.2 0 x175001_2 (wrap64 (x175002_2 + 1)) t176))) else (some (0, Go.bits .and .i64 x172003_2 65535, wrap64 (x175002_2 + 1), t176))) = some (r1, r2, r3, r4) := H
                  have A58 := Aside0.mk A580
                  clear A580
                  by_cases c59 : t180 = true
                  · subst c59
                    have H1 : (if a1_0 = 0 then (none) else ((impl_yreadDesc.f k2 a0 (wrap64 (a1_1 + (wrap64 (16 * (Int.tmod (wrap64 (x5_2 + 1)) a1_0)))))).bind fun bt181 => (impl_ytakePacked.l0 k2 a0 (Int.tmod (wrap64 (x5_2 + 1)) a1_0) a1_0 a1_1 a1_2 a1_3 bt181.1 bt181.2.1 bt181.2.2.1 bt181.2.2.2 0 x175001_2 (wrap64 (x175002_2 + 1)) t176))) = some (r1, r2, r3, r4) := by rw [if_pos rfl] at H; exact H
                    clear H
                    have H := H1
                    clear H1
                    by_cases c60 : a1_0 = 0
                    · rw [if_pos c60] at H
                      exact absurd H (by simp)
                    · rw [if_neg c60] at H
                      have c60b0 : (a1_0 == 0) = false := beq_eq_false_iff_ne.mpr c60
                      have c60b1 : (a1_0 != 0) = true := bne_iff_ne.mpr c60
                      replace H := Option.bind_eq_some_iff.mp H
                      obtain ⟨⟨t181, t182, t183, t184⟩, A610, H⟩ := H
                      replace H : (impl_ytakePacked.l0 k2 a0 (Int.tmod (wrap64 (x5_2 + 1)) a1_0) a1_0 a1_1 a1_2 a1_3 t181 t182 t183 t184 0 x175001_2 (wrap64 (x175002_2 + 1)) t176) = some (r1, r2, r3, r4) := H
                      have A61 := Aside0.mk A610
                      clear A610
                      have H' := Aside0.mk H
                      clear H
                      have hnb62 := NB174_165.out
                      have hnc62 := NB165_174.out
                      have hnb63 := NB174_166.out
                      have hnc63 := NB166_174.out
                      have hnb64 := NB174_171.out
                      have hnc64 := NB171_174.out
                      have hcz65_0 : wr.cell? ⟨gb174, 0, none⟩ = some (.int .i64 0) := (blk_cell BK174.out 0).trans rfl
                      have hcz65_1 : wr.cell? ⟨gb174, 1, none⟩ = some (.int .i64 x175001_2) := (blk_cell BK174.out 1).trans rfl
                      have hcz65_2 : wr.cell? ⟨gb174, 2, none⟩ = some (.int .i64 x175002_2) := (blk_cell BK174.out 2).trans rfl
                      have hcz65_3 : wr.cell? ⟨gb174, 3, none⟩ = some (u175003) := (blk_cell BK174.out 3).trans rfl
                      have hfz65_0 := blk_frozen BK174.out 0
                      have hfz65_1 := blk_frozen BK174.out 1
                      have hfz65_2 := blk_frozen BK174.out 2
                      have hfz65_3 := blk_frozen BK174.out 3
                      have hnb66 := NB165_166.out
                      have hnc66 := NB166_165.out
                      have hnb67 := NB165_171.out
                      have hnc67 := NB171_165.out
                      have hcz68_0 : wr.cell? ⟨gb165, 0, none⟩ = some (.int .i64 a1_0) := (blk_cell BK165.out 0).trans rfl
                      have hcz68_1 : wr.cell? ⟨gb165, 1, none⟩ = some (.int .i64 a1_1) := (blk_cell BK165.out 1).trans rfl
                      have hcz68_2 : wr.cell? ⟨gb165, 2, none⟩ = some (.int .i64 a1_2) := (blk_cell BK165.out 2).trans rfl
                      have hcz68_3 : wr.cell? ⟨gb165, 3, none⟩ = some (.bool a1_3) := (blk_cell BK165.out 3).trans rfl
                      have hfz68_0 := blk_frozen BK165.out 0
                      have hfz68_1 := blk_frozen BK165.out 1
                      have hfz68_2 := blk_frozen BK165.out 2
                      have hfz68_3 := blk_frozen BK165.out 3
                      have hnb69 := NB171_166.out
                      have hnc69 := NB166_171.out
                      have hcz70_0 : wr.cell? ⟨gb171, 0, none⟩ = some (.int .i64 x172000_2) := (blk_cell BK171.out 0).trans rfl
                      have hcz70_1 : wr.cell? ⟨gb171, 1, none⟩ = some (.int .i64 x172001_2) := (blk_cell BK171.out 1).trans rfl
                      have hcz70_2 : wr.cell? ⟨gb171, 2, none⟩ = some (.int .i64 x172002_2) := (blk_cell BK171.out 2).trans rfl
                      have hcz70_3 : wr.cell? ⟨gb171, 3, none⟩ = some (.int .i64 x172003_2) := (blk_cell BK171.out 3).trans rfl
                      have hfz70_0 := blk_frozen BK171.out 0
                      have hfz70_1 := blk_frozen BK171.out 1
                      have hfz70_2 := blk_frozen BK171.out 2
                      have hfz70_3 := blk_frozen BK171.out 3
                      go_wp2_with (first | ((with_reducible refine gate_callee (f := 88) rfl ?_); refine goesL_ (some 43) rfl rfl Try.func88 (by kernel_rfl) rfl #[.agg #[.int .i64 x172000_2, .int .i64 x172001_2, .int .i64 x172002_2, .int .i64 x172003_2], .int .i64 4] rfl (by (try simp only [List.map_toArray, List.map_cons, List.map_nil]); first | done | rfl | (simp only [List.length_drop, List.length_take]; rfl)) ?_; (with_reducible refine (impl_ydesc_has.calls x172000_2 x172001_2 x172002_2 x172003_2 4 false _ A43.out).mono ?_); rintro e w71 ⟨rfl, hb⟩; refine ⟨_, rfl, ?_⟩; have n0_ := Aside0.mk (Kd.R_below (by (with_reducible repeat (first | apply Kd.R_alloc | apply Kd.R_drewN | apply Kd.R_drew)); exact (Kd.R_mono (Kd.R_far (p := ⟨gb174, 2, none⟩) (Kd.R_types HO_175003.out BK174.out (by decide)) (fun _ hk => hk.2) (.int .i64 (wrap64 (x175002_2 + 1)))) (fun _ h_ => h_.1))) hb); have n1_ := Aside0.mk (blk_below (g := gb165) (o := .cells #[.int .i64 a1_0, .int .i64 a1_1, .int .i64 a1_2, .bool a1_3] 25 (0, 0)) (by (with_reducible repeat (first | refine blk_drewN ?_ _ | refine blk_drew ?_ | refine blk_alloc ?_ _)); refine blk_far ?_ NB165_174.out _; (with_reducible repeat (first | refine blk_drewN ?_ _ | refine blk_drew ?_ | refine blk_alloc ?_ _)); exact BK165.out) hb); have n2_ := Aside0.mk (blk_below (g := gb166) (o := .cells #[.int .i64 x167000_2, .int .i64 x167001_2, .int .i64 x167002_2, .slice none 0 0] 46 (0, 0)) (by (with_reducible repeat (first | refine blk_drewN ?_ _ | refine blk_drew ?_ | refine blk_alloc ?_ _)); refine blk_far ?_ NB166_174.out _; (with_reducible repeat (first | refine blk_drewN ?_ _ | refine blk_drew ?_ | refine blk_alloc ?_ _)); exact BK166.out) hb); have n3_ := Aside0.mk (blk_below (g := gb171) (o := .cells #[.int .i64 x172000_2, .int .i64 x172001_2, .int .i64 x172002_2, .int .i64 x172003_2] 112 (0, 0)) (by (with_reducible repeat (first | refine blk_drewN ?_ _ | refine blk_drew ?_ | refine blk_alloc ?_ _)); refine blk_far ?_ NB171_174.out _; (with_reducible repeat (first | refine blk_drewN ?_ _ | refine blk_drew ?_ | refine blk_alloc ?_ _)); exact BK171.out) hb); have n4_ := Aside0.mk (blk_below (g := gb174) (o := .cells #[.int .i64 0, .int .i64 x175001_2, .int .i64 (wrap64 (x175002_2 + 1)), u175003] 46 (0, 0)) (by (with_reducible repeat (first | refine blk_drewN ?_ _ | refine blk_drew ?_ | refine blk_alloc ?_ _)); refine blk_put (cs := #[.int .i64 0, .int .i64 x175001_2, .int .i64 x175002_2, u175003]) ?_ 2 _ rfl; (with_reducible repeat (first | refine blk_drewN ?_ _ | refine blk_drew ?_ | refine blk_alloc ?_ _)); exact BK174.out) hb); have n5_ := Aside0.mk (below_step (zW HB.out) hb); clear HO_175003; clear BK165; clear BK166; clear BK171; clear BK174; clear HB; have HO_175003 := n0_; have BK165 := n1_; have BK166 := n2_; have BK171 := n3_; have BK174 := n4_; have HB := n5_; clear n0_ n1_ n2_ n3_ n4_ n5_; (try clear hb); (try clear hb2); (try clear hk); (try clear hi); have hcz72_0 : w71.cell? ⟨gb174, 0, none⟩ = some (.int .i64 0) := (blk_cell BK174.out 0).trans rfl; have hcz72_1 : w71.cell? ⟨gb174, 1, none⟩ = some (.int .i64 x175001_2) := (blk_cell BK174.out 1).trans rfl; have hcz72_2 : w71.cell? ⟨gb174, 2, none⟩ = some (.int .i64 (wrap64 (x175002_2 + 1))) := (blk_cell BK174.out 2).trans rfl; have hcz72_3 : w71.cell? ⟨gb174, 3, none⟩ = some (u175003) := (blk_cell BK174.out 3).trans rfl; have hfz72_0 := blk_frozen BK174.out 0; have hfz72_1 := blk_frozen BK174.out 1; have hfz72_2 := blk_frozen BK174.out 2; have hfz72_3 := blk_frozen BK174.out 3; have hcz73_0 : w71.cell? ⟨gb171, 0, none⟩ = some (.int .i64 x172000_2) := (blk_cell BK171.out 0).trans rfl; have hcz73_1 : w71.cell? ⟨gb171, 1, none⟩ = some (.int .i64 x172001_2) := (blk_cell BK171.out 1).trans rfl; have hcz73_2 : w71.cell? ⟨gb171, 2, none⟩ = some (.int .i64 x172002_2) := (blk_cell BK171.out 2).trans rfl; have hcz73_3 : w71.cell? ⟨gb171, 3, none⟩ = some (.int .i64 x172003_2) := (blk_cell BK171.out 3).trans rfl; have hfz73_0 := blk_frozen BK171.out 0; have hfz73_1 := blk_frozen BK171.out 1; have hfz73_2 := blk_frozen BK171.out 2; have hfz73_3 := blk_frozen BK171.out 3; obtain ⟨Ao74, co74, eo74⟩ := Kd.R_slice HO_175003.out; subst eo74) | ((with_reducible refine gate_callee (f := 89) rfl ?_); refine goesL_ (some 50) rfl rfl Try.func89 (by kernel_rfl) rfl #[.string a0, .slice Ao74 x175003_2.length co74, .agg #[.int .i64 x172000_2, .int .i64 x172001_2, .int .i64 x172002_2, .int .i64 x172003_2]] rfl (by (try simp only [List.map_toArray, List.map_cons, List.map_nil]); first | done | rfl | (simp only [List.length_drop, List.length_take]; rfl)) ?_; (with_reducible refine (impl_yadd.calls a0 (fun k_ => some k_ = (.slice Ao74 x175003_2.length co74 : Value).ownBlock) (.slice Ao74 x175003_2.length co74) x175003_2 x172000_2 x172001_2 x172002_2 x172003_2 t176 t179 w _ ?side1 ?side2 A56.out).mono ?_); (case side1 => repeat (first | (with_reducible first | exact HB.out | apply below_alloc | apply pw_below_drewN | apply below_drew1 | refine below_set ?_ GE165.out | refine below_set ?_ GE166.out | refine below_set ?_ GE171.out | refine below_set ?_ GE174.out) | exact HB.out)); (case side2 => exact Kd.R_tight rfl HO_175003.out); rintro e w75 ⟨v177, rfl, ho0, hb, hkp⟩; refine ⟨_, rfl, ?_⟩; have n0_ := Aside0.mk (blk_kept (zB BK165.out) hkp (fun hs_ => (fun e_ => (Kd.R_ne HO_175003.out BK165.out (by decide)) e_) hs_)); have n1_ := Aside0.mk (blk_kept (zB BK166.out) hkp (fun hs_ => (fun e_ => (Kd.R_ne HO_175003.out BK166.out (by decide)) e_) hs_)); have n2_ := Aside0.mk (blk_kept (zB BK171.out) hkp (fun hs_ => (fun e_ => (Kd.R_ne HO_175003.out BK171.out (by decide)) e_) hs_)); have n3_ := Aside0.mk (blk_kept (zB BK174.out) hkp (fun hs_ => (fun e_ => (Kd.R_ne HO_175003.out BK174.out (by decide)) e_) hs_)); have n4_ := Aside0.mk (Kd.R_mono (ok' := fun k_ => True) ho0 (fun k_ hk_ => trivial)); have n5_ := Aside0.mk (hb); clear BK165; clear BK166; clear BK171; clear BK174; clear HB; clear HO_175003; have BK165 := n0_; have BK166 := n1_; have BK171 := n2_; have BK174 := n3_; have HO178 := n4_; have HB := n5_; clear n0_ n1_ n2_ n3_ n4_ n5_; (try clear hb); (try clear hkp); (try clear ho0); obtain ⟨Ao76, co76, eo76⟩ := Kd.R_slice HO178.out; subst eo76; have hcz77_0 : w75.cell? ⟨gb174, 0, none⟩ = some (.int .i64 0) := (blk_cell BK174.out 0).trans rfl; have hcz77_1 : w75.cell? ⟨gb174, 1, none⟩ = some (.int .i64 x175001_2) := (blk_cell BK174.out 1).trans rfl; have hcz77_2 : w75.cell? ⟨gb174, 2, none⟩ = some (.int .i64 (wrap64 (x175002_2 + 1))) := (blk_cell BK174.out 2).trans rfl; have hcz77_3 : w75.cell? ⟨gb174, 3, none⟩ = some (.slice Ao74 x175003_2.length co74) := (blk_cell BK174.out 3).trans rfl; have hfz77_0 := blk_frozen BK174.out 0; have hfz77_1 := blk_frozen BK174.out 1; have hfz77_2 := blk_frozen BK174.out 2; have hfz77_3 := blk_frozen BK174.out 3; have hcz78_0 : w75.cell? ⟨gb171, 0, none⟩ = some (.int .i64 x172000_2) := (blk_cell BK171.out 0).trans rfl; have hcz78_1 : w75.cell? ⟨gb171, 1, none⟩ = some (.int .i64 x172001_2) := (blk_cell BK171.out 1).trans rfl; have hcz78_2 : w75.cell? ⟨gb171, 2, none⟩ = some (.int .i64 x172002_2) := (blk_cell BK171.out 2).trans rfl; have hcz78_3 : w75.cell? ⟨gb171, 3, none⟩ = some (.int .i64 x172003_2) := (blk_cell BK171.out 3).trans rfl; have hfz78_0 := blk_frozen BK171.out 0; have hfz78_1 := blk_frozen BK171.out 1; have hfz78_2 := blk_frozen BK171.out 2; have hfz78_3 := blk_frozen BK171.out 3) | ((with_reducible refine gate_callee (f := 88) rfl ?_); refine goesL_ (some 59) rfl rfl Try.func88 (by kernel_rfl) rfl #[.agg #[.int .i64 x172000_2, .int .i64 x172001_2, .int .i64 x172002_2, .int .i64 x172003_2], .int .i64 1] rfl (by (try simp only [List.map_toArray, List.map_cons, List.map_nil]); first | done | rfl | (simp only [List.length_drop, List.length_take]; rfl)) ?_; (with_reducible refine (impl_ydesc_has.calls x172000_2 x172001_2 x172002_2 x172003_2 1 true _ A58.out).mono ?_); rintro e w79 ⟨rfl, hb⟩; refine ⟨_, rfl, ?_⟩; have n0_ := Aside0.mk (Kd.R_below (by (with_reducible repeat (first | apply Kd.R_alloc | apply Kd.R_drewN | apply Kd.R_drew)); exact (Kd.R_mono (Kd.R_far (p := ⟨gb174, 3, none⟩) (Kd.R_types HO178.out BK174.out (by decide)) (fun _ hk => hk.2) (.slice Ao76 t176.length co76)) (fun _ h_ => h_.1))) hb); have n1_ := Aside0.mk (blk_below (g := gb165) (o := .cells #[.int .i64 a1_0, .int .i64 a1_1, .int .i64 a1_2, .bool a1_3] 25 (0, 0)) (by (with_reducible repeat (first | refine blk_drewN ?_ _ | refine blk_drew ?_ | refine blk_alloc ?_ _)); refine blk_far ?_ NB165_174.out _; (with_reducible repeat (first | refine blk_drewN ?_ _ | refine blk_drew ?_ | refine blk_alloc ?_ _)); exact BK165.out) hb); have n2_ := Aside0.mk (blk_below (g := gb166) (o := .cells #[.int .i64 x167000_2, .int .i64 x167001_2, .int .i64 x167002_2, .slice none 0 0] 46 (0, 0)) (by (with_reducible repeat (first | refine blk_drewN ?_ _ | refine blk_drew ?_ | refine blk_alloc ?_ _)); refine blk_far ?_ NB166_174.out _; (with_reducible repeat (first | refine blk_drewN ?_ _ | refine blk_drew ?_ | refine blk_alloc ?_ _)); exact BK166.out) hb); have n3_ := Aside0.mk (blk_below (g := gb171) (o := .cells #[.int .i64 x172000_2, .int .i64 x172001_2, .int .i64 x172002_2, .int .i64 x172003_2] 112 (0, 0)) (by (with_reducible repeat (first | refine blk_drewN ?_ _ | refine blk_drew ?_ | refine blk_alloc ?_ _)); refine blk_far ?_ NB171_174.out _; (with_reducible repeat (first | refine blk_drewN ?_ _ | refine blk_drew ?_ | refine blk_alloc ?_ _)); exact BK171.out) hb); have n4_ := Aside0.mk (blk_below (g := gb174) (o := .cells #[.int .i64 0, .int .i64 x175001_2, .int .i64 (wrap64 (x175002_2 + 1)), .slice Ao76 t176.length co76] 46 (0, 0)) (by (with_reducible repeat (first | refine blk_drewN ?_ _ | refine blk_drew ?_ | refine blk_alloc ?_ _)); refine blk_put (cs := #[.int .i64 0, .int .i64 x175001_2, .int .i64 (wrap64 (x175002_2 + 1)), .slice Ao74 x175003_2.length co74]) ?_ 3 _ rfl; (with_reducible repeat (first | refine blk_drewN ?_ _ | refine blk_drew ?_ | refine blk_alloc ?_ _)); exact BK174.out) hb); have n5_ := Aside0.mk (below_step (zW HB.out) hb); clear HO178; clear BK165; clear BK166; clear BK171; clear BK174; clear HB; have HO178 := n0_; have BK165 := n1_; have BK166 := n2_; have BK171 := n3_; have BK174 := n4_; have HB := n5_; clear n0_ n1_ n2_ n3_ n4_ n5_; (try clear hb); (try clear hb2); (try clear hk); (try clear hi); have hcz80_0 : w79.cell? ⟨gb165, 0, none⟩ = some (.int .i64 a1_0) := (blk_cell BK165.out 0).trans rfl; have hcz80_1 : w79.cell? ⟨gb165, 1, none⟩ = some (.int .i64 a1_1) := (blk_cell BK165.out 1).trans rfl; have hcz80_2 : w79.cell? ⟨gb165, 2, none⟩ = some (.int .i64 a1_2) := (blk_cell BK165.out 2).trans rfl; have hcz80_3 : w79.cell? ⟨gb165, 3, none⟩ = some (.bool a1_3) := (blk_cell BK165.out 3).trans rfl; have hfz80_0 := blk_frozen BK165.out 0; have hfz80_1 := blk_frozen BK165.out 1; have hfz80_2 := blk_frozen BK165.out 2; have hfz80_3 := blk_frozen BK165.out 3) | ((with_reducible refine gate_callee (f := 87) rfl ?_); refine goesL_ (some 77) rfl rfl Try.func87 (by kernel_rfl) rfl #[.string a0, .int .i64 (wrap64 (a1_1 + (wrap64 (16 * (Int.tmod (wrap64 (x5_2 + 1)) a1_0)))))] rfl (by (try simp only [List.map_toArray, List.map_cons, List.map_nil]); first | done | rfl | (simp only [List.length_drop, List.length_take]; rfl)) ?_; (with_reducible refine (impl_yreadDesc.calls k2 a0 (wrap64 (a1_1 + (wrap64 (16 * (Int.tmod (wrap64 (x5_2 + 1)) a1_0))))) t181 t182 t183 t184 _ A61.out).mono ?_); rintro e w81 ⟨rfl, hb⟩; refine ⟨_, rfl, ?_⟩; have n0_ := Aside0.mk (Kd.R_below (zR HO178.out) hb); have n1_ := Aside0.mk (blk_below (g := gb165) (o := .cells #[.int .i64 a1_0, .int .i64 a1_1, .int .i64 a1_2, .bool a1_3] 25 (0, 0)) (zB BK165.out) hb); have n2_ := Aside0.mk (blk_below (g := gb166) (o := .cells #[.int .i64 x167000_2, .int .i64 x167001_2, .int .i64 x167002_2, .slice none 0 0] 46 (0, 0)) (zB BK166.out) hb); have n3_ := Aside0.mk (blk_below (g := gb171) (o := .cells #[.int .i64 x172000_2, .int .i64 x172001_2, .int .i64 x172002_2, .int .i64 x172003_2] 112 (0, 0)) (zB BK171.out) hb); have n4_ := Aside0.mk (blk_below (g := gb174) (o := .cells #[.int .i64 0, .int .i64 x175001_2, .int .i64 (wrap64 (x175002_2 + 1)), .slice Ao76 t176.length co76] 46 (0, 0)) (zB BK174.out) hb); have n5_ := Aside0.mk (below_step (zW HB.out) hb); clear HO178; clear BK165; clear BK166; clear BK171; clear BK174; clear HB; have HO178 := n0_; have BK165 := n1_; have BK166 := n2_; have BK171 := n3_; have BK174 := n4_; have HB := n5_; clear n0_ n1_ n2_ n3_ n4_ n5_; (try clear hb); (try clear hb2); (try clear hk); (try clear hi); have hcz82_0 : w81.cell? ⟨gb171, 0, none⟩ = some (.int .i64 x172000_2) := (blk_cell BK171.out 0).trans rfl; have hcz82_1 : w81.cell? ⟨gb171, 1, none⟩ = some (.int .i64 x172001_2) := (blk_cell BK171.out 1).trans rfl; have hcz82_2 : w81.cell? ⟨gb171, 2, none⟩ = some (.int .i64 x172002_2) := (blk_cell BK171.out 2).trans rfl; have hcz82_3 : w81.cell? ⟨gb171, 3, none⟩ = some (.int .i64 x172003_2) := (blk_cell BK171.out 3).trans rfl; have hfz82_0 := blk_frozen BK171.out 0; have hfz82_1 := blk_frozen BK171.out 1; have hfz82_2 := blk_frozen BK171.out 2; have hfz82_3 := blk_frozen BK171.out 3))
                      go_roundg k2
                      case measure => have := HJ3.out; have := HK2.out; omega
                      case rel => exact ⟨(Int.tmod (wrap64 (x5_2 + 1)) a1_0), (x167000_2), (x167001_2), (x167002_2), (t181), (t182), (t183), (t184), (x175001_2), (wrap64 (x175002_2 + 1)), (t176), (.slice Ao76 t176.length co76), (by first | rfl | (simp; done) | (simp [*]; done)), H', ⟨by have := HJ3.out; have := HK2.out; omega⟩, ⟨by (with_reducible repeat (first | apply Kd.R_alloc | apply Kd.R_drewN | apply Kd.R_drew)); exact Kd.R_mono (Kd.R_far (p := ⟨gb171, 3, none⟩) (Kd.R_far (p := ⟨gb171, 2, none⟩) (Kd.R_far (p := ⟨gb171, 1, none⟩) (Kd.R_far (p := ⟨gb171, 0, none⟩) (Kd.R_types HO178.out BK171.out (by decide)) (fun _ hk => hk.2) (.int .i64 t181)) (fun _ hk => hk.2) (.int .i64 t182)) (fun _ hk => hk.2) (.int .i64 t183)) (fun _ hk => hk.2) (.int .i64 t184)) (fun _ hk => trivial)⟩, ⟨by (with_reducible repeat (first | refine blk_drewN ?_ _ | refine blk_drew ?_ | refine blk_alloc ?_ _)); refine blk_far ?_ NB165_171.out _; (with_reducible repeat (first | refine blk_drewN ?_ _ | refine blk_drew ?_ | refine blk_alloc ?_ _)); refine blk_far ?_ NB165_171.out _; (with_reducible repeat (first | refine blk_drewN ?_ _ | refine blk_drew ?_ | refine blk_alloc ?_ _)); refine blk_far ?_ NB165_171.out _; (with_reducible repeat (first | refine blk_drewN ?_ _ | refine blk_drew ?_ | refine blk_alloc ?_ _)); refine blk_far ?_ NB165_171.out _; (with_reducible repeat (first | refine blk_drewN ?_ _ | refine blk_drew ?_ | refine blk_alloc ?_ _)); exact BK165.out⟩, ⟨by (with_reducible repeat (first | refine blk_drewN ?_ _ | refine blk_drew ?_ | refine blk_alloc ?_ _)); refine blk_far ?_ NB166_171.out _; (with_reducible repeat (first | refine blk_drewN ?_ _ | refine blk_drew ?_ | refine blk_alloc ?_ _)); refine blk_far ?_ NB166_171.out _; (with_reducible repeat (first | refine blk_drewN ?_ _ | refine blk_drew ?_ | refine blk_alloc ?_ _)); refine blk_far ?_ NB166_171.out _; (with_reducible repeat (first | refine blk_drewN ?_ _ | refine blk_drew ?_ | refine blk_alloc ?_ _)); refine blk_far ?_ NB166_171.out _; (with_reducible repeat (first | refine blk_drewN ?_ _ | refine blk_drew ?_ | refine blk_alloc ?_ _)); exact BK166.out⟩, ⟨by (with_reducible repeat (first | refine blk_drewN ?_ _ | refine blk_drew ?_ | refine blk_alloc ?_ _)); refine blk_put (cs := #[.int .i64 t181, .int .i64 t182, .int .i64 t183, .int .i64 x172003_2]) ?_ 3 _ rfl; (with_reducible repeat (first | refine blk_drewN ?_ _ | refine blk_drew ?_ | refine blk_alloc ?_ _)); refine blk_put (cs := #[.int .i64 t181, .int .i64 t182, .int .i64 x172002_2, .int .i64 x172003_2]) ?_ 2 _ rfl; (with_reducible repeat (first | refine blk_drewN ?_ _ | refine blk_drew ?_ | refine blk_alloc ?_ _)); refine blk_put (cs := #[.int .i64 t181, .int .i64 x172001_2, .int .i64 x172002_2, .int .i64 x172003_2]) ?_ 1 _ rfl; (with_reducible repeat (first | refine blk_drewN ?_ _ | refine blk_drew ?_ | refine blk_alloc ?_ _)); refine blk_put (cs := #[.int .i64 x172000_2, .int .i64 x172001_2, .int .i64 x172002_2, .int .i64 x172003_2]) ?_ 0 _ rfl; (with_reducible repeat (first | refine blk_drewN ?_ _ | refine blk_drew ?_ | refine blk_alloc ?_ _)); exact BK171.out⟩, ⟨by (with_reducible repeat (first | refine blk_drewN ?_ _ | refine blk_drew ?_ | refine blk_alloc ?_ _)); refine blk_far ?_ NB174_171.out _; (with_reducible repeat (first | refine blk_drewN ?_ _ | refine blk_drew ?_ | refine blk_alloc ?_ _)); refine blk_far ?_ NB174_171.out _; (with_reducible repeat (first | refine blk_drewN ?_ _ | refine blk_drew ?_ | refine blk_alloc ?_ _)); refine blk_far ?_ NB174_171.out _; (with_reducible repeat (first | refine blk_drewN ?_ _ | refine blk_drew ?_ | refine blk_alloc ?_ _)); refine blk_far ?_ NB174_171.out _; (with_reducible repeat (first | refine blk_drewN ?_ _ | refine blk_drew ?_ | refine blk_alloc ?_ _)); exact BK174.out⟩, ⟨zW HB.out⟩⟩
                  · replace c59 := Bool.eq_false_iff.mpr c59
                    subst c59
                    have H1 : (some (0, Go.bits .and .i64 x172003_2 65535, wrap64 (x175002_2 + 1), t176)) = some (r1, r2, r3, r4) := by rw [if_neg (show ¬ (false = true) by decide)] at H; exact H
                    clear H
                    have H := H1
                    clear H1
                    simp only [Option.some.injEq, Prod.mk.injEq] at H
                    obtain ⟨rfl, rfl, rfl, rfl⟩ := H
                    have hnb83 := NB174_165.out
                    have hnc83 := NB165_174.out
                    have hnb84 := NB174_166.out
                    have hnc84 := NB166_174.out
                    have hnb85 := NB174_171.out
                    have hnc85 := NB171_174.out
                    have hcz86_0 : wr.cell? ⟨gb174, 0, none⟩ = some (.int .i64 0) := (blk_cell BK174.out 0).trans rfl
                    have hcz86_1 : wr.cell? ⟨gb174, 1, none⟩ = some (.int .i64 x175001_2) := (blk_cell BK174.out 1).trans rfl
                    have hcz86_2 : wr.cell? ⟨gb174, 2, none⟩ = some (.int .i64 x175002_2) := (blk_cell BK174.out 2).trans rfl
                    have hcz86_3 : wr.cell? ⟨gb174, 3, none⟩ = some (u175003) := (blk_cell BK174.out 3).trans rfl
                    have hfz86_0 := blk_frozen BK174.out 0
                    have hfz86_1 := blk_frozen BK174.out 1
                    have hfz86_2 := blk_frozen BK174.out 2
                    have hfz86_3 := blk_frozen BK174.out 3
                    have hnb87 := NB165_166.out
                    have hnc87 := NB166_165.out
                    have hnb88 := NB165_171.out
                    have hnc88 := NB171_165.out
                    have hcz89_0 : wr.cell? ⟨gb165, 0, none⟩ = some (.int .i64 a1_0) := (blk_cell BK165.out 0).trans rfl
                    have hcz89_1 : wr.cell? ⟨gb165, 1, none⟩ = some (.int .i64 a1_1) := (blk_cell BK165.out 1).trans rfl
                    have hcz89_2 : wr.cell? ⟨gb165, 2, none⟩ = some (.int .i64 a1_2) := (blk_cell BK165.out 2).trans rfl
                    have hcz89_3 : wr.cell? ⟨gb165, 3, none⟩ = some (.bool a1_3) := (blk_cell BK165.out 3).trans rfl
                    have hfz89_0 := blk_frozen BK165.out 0
                    have hfz89_1 := blk_frozen BK165.out 1
                    have hfz89_2 := blk_frozen BK165.out 2
                    have hfz89_3 := blk_frozen BK165.out 3
                    have hnb90 := NB171_166.out
                    have hnc90 := NB166_171.out
                    have hcz91_0 : wr.cell? ⟨gb171, 0, none⟩ = some (.int .i64 x172000_2) := (blk_cell BK171.out 0).trans rfl
                    have hcz91_1 : wr.cell? ⟨gb171, 1, none⟩ = some (.int .i64 x172001_2) := (blk_cell BK171.out 1).trans rfl
                    have hcz91_2 : wr.cell? ⟨gb171, 2, none⟩ = some (.int .i64 x172002_2) := (blk_cell BK171.out 2).trans rfl
                    have hcz91_3 : wr.cell? ⟨gb171, 3, none⟩ = some (.int .i64 x172003_2) := (blk_cell BK171.out 3).trans rfl
                    have hfz91_0 := blk_frozen BK171.out 0
                    have hfz91_1 := blk_frozen BK171.out 1
                    have hfz91_2 := blk_frozen BK171.out 2
                    have hfz91_3 := blk_frozen BK171.out 3
                    go_wp2_with (first | ((with_reducible refine gate_callee (f := 88) rfl ?_); refine goesL_ (some 43) rfl rfl Try.func88 (by kernel_rfl) rfl #[.agg #[.int .i64 x172000_2, .int .i64 x172001_2, .int .i64 x172002_2, .int .i64 x172003_2], .int .i64 4] rfl (by (try simp only [List.map_toArray, List.map_cons, List.map_nil]); first | done | rfl | (simp only [List.length_drop, List.length_take]; rfl)) ?_; (with_reducible refine (impl_ydesc_has.calls x172000_2 x172001_2 x172002_2 x172003_2 4 false _ A43.out).mono ?_); rintro e w92 ⟨rfl, hb⟩; refine ⟨_, rfl, ?_⟩; have n0_ := Aside0.mk (Kd.R_below (by (with_reducible repeat (first | apply Kd.R_alloc | apply Kd.R_drewN | apply Kd.R_drew)); exact (Kd.R_mono (Kd.R_far (p := ⟨gb174, 2, none⟩) (Kd.R_types HO_175003.out BK174.out (by decide)) (fun _ hk => hk.2) (.int .i64 (wrap64 (x175002_2 + 1)))) (fun _ h_ => h_.1))) hb); have n1_ := Aside0.mk (blk_below (g := gb165) (o := .cells #[.int .i64 a1_0, .int .i64 a1_1, .int .i64 a1_2, .bool a1_3] 25 (0, 0)) (by (with_reducible repeat (first | refine blk_drewN ?_ _ | refine blk_drew ?_ | refine blk_alloc ?_ _)); refine blk_far ?_ NB165_174.out _; (with_reducible repeat (first | refine blk_drewN ?_ _ | refine blk_drew ?_ | refine blk_alloc ?_ _)); exact BK165.out) hb); have n2_ := Aside0.mk (blk_below (g := gb166) (o := .cells #[.int .i64 x167000_2, .int .i64 x167001_2, .int .i64 x167002_2, .slice none 0 0] 46 (0, 0)) (by (with_reducible repeat (first | refine blk_drewN ?_ _ | refine blk_drew ?_ | refine blk_alloc ?_ _)); refine blk_far ?_ NB166_174.out _; (with_reducible repeat (first | refine blk_drewN ?_ _ | refine blk_drew ?_ | refine blk_alloc ?_ _)); exact BK166.out) hb); have n3_ := Aside0.mk (blk_below (g := gb171) (o := .cells #[.int .i64 x172000_2, .int .i64 x172001_2, .int .i64 x172002_2, .int .i64 x172003_2] 112 (0, 0)) (by (with_reducible repeat (first | refine blk_drewN ?_ _ | refine blk_drew ?_ | refine blk_alloc ?_ _)); refine blk_far ?_ NB171_174.out _; (with_reducible repeat (first | refine blk_drewN ?_ _ | refine blk_drew ?_ | refine blk_alloc ?_ _)); exact BK171.out) hb); have n4_ := Aside0.mk (blk_below (g := gb174) (o := .cells #[.int .i64 0, .int .i64 x175001_2, .int .i64 (wrap64 (x175002_2 + 1)), u175003] 46 (0, 0)) (by (with_reducible repeat (first | refine blk_drewN ?_ _ | refine blk_drew ?_ | refine blk_alloc ?_ _)); refine blk_put (cs := #[.int .i64 0, .int .i64 x175001_2, .int .i64 x175002_2, u175003]) ?_ 2 _ rfl; (with_reducible repeat (first | refine blk_drewN ?_ _ | refine blk_drew ?_ | refine blk_alloc ?_ _)); exact BK174.out) hb); have n5_ := Aside0.mk (below_step (zW HB.out) hb); clear HO_175003; clear BK165; clear BK166; clear BK171; clear BK174; clear HB; have HO_175003 := n0_; have BK165 := n1_; have BK166 := n2_; have BK171 := n3_; have BK174 := n4_; have HB := n5_; clear n0_ n1_ n2_ n3_ n4_ n5_; (try clear hb); (try clear hb2); (try clear hk); (try clear hi); have hcz93_0 : w92.cell? ⟨gb174, 0, none⟩ = some (.int .i64 0) := (blk_cell BK174.out 0).trans rfl; have hcz93_1 : w92.cell? ⟨gb174, 1, none⟩ = some (.int .i64 x175001_2) := (blk_cell BK174.out 1).trans rfl; have hcz93_2 : w92.cell? ⟨gb174, 2, none⟩ = some (.int .i64 (wrap64 (x175002_2 + 1))) := (blk_cell BK174.out 2).trans rfl; have hcz93_3 : w92.cell? ⟨gb174, 3, none⟩ = some (u175003) := (blk_cell BK174.out 3).trans rfl; have hfz93_0 := blk_frozen BK174.out 0; have hfz93_1 := blk_frozen BK174.out 1; have hfz93_2 := blk_frozen BK174.out 2; have hfz93_3 := blk_frozen BK174.out 3; have hcz94_0 : w92.cell? ⟨gb171, 0, none⟩ = some (.int .i64 x172000_2) := (blk_cell BK171.out 0).trans rfl; have hcz94_1 : w92.cell? ⟨gb171, 1, none⟩ = some (.int .i64 x172001_2) := (blk_cell BK171.out 1).trans rfl; have hcz94_2 : w92.cell? ⟨gb171, 2, none⟩ = some (.int .i64 x172002_2) := (blk_cell BK171.out 2).trans rfl; have hcz94_3 : w92.cell? ⟨gb171, 3, none⟩ = some (.int .i64 x172003_2) := (blk_cell BK171.out 3).trans rfl; have hfz94_0 := blk_frozen BK171.out 0; have hfz94_1 := blk_frozen BK171.out 1; have hfz94_2 := blk_frozen BK171.out 2; have hfz94_3 := blk_frozen BK171.out 3; obtain ⟨Ao95, co95, eo95⟩ := Kd.R_slice HO_175003.out; subst eo95) | ((with_reducible refine gate_callee (f := 89) rfl ?_); refine goesL_ (some 50) rfl rfl Try.func89 (by kernel_rfl) rfl #[.string a0, .slice Ao95 x175003_2.length co95, .agg #[.int .i64 x172000_2, .int .i64 x172001_2, .int .i64 x172002_2, .int .i64 x172003_2]] rfl (by (try simp only [List.map_toArray, List.map_cons, List.map_nil]); first | done | rfl | (simp only [List.length_drop, List.length_take]; rfl)) ?_; (with_reducible refine (impl_yadd.calls a0 (fun k_ => some k_ = (.slice Ao95 x175003_2.length co95 : Value).ownBlock) (.slice Ao95 x175003_2.length co95) x175003_2 x172000_2 x172001_2 x172002_2 x172003_2 t176 t179 w _ ?side1 ?side2 A56.out).mono ?_); (case side1 => repeat (first | (with_reducible first | exact HB.out | apply below_alloc | apply pw_below_drewN | apply below_drew1 | refine below_set ?_ GE165.out | refine below_set ?_ GE166.out | refine below_set ?_ GE171.out | refine below_set ?_ GE174.out) | exact HB.out)); (case side2 => exact Kd.R_tight rfl HO_175003.out); rintro e w96 ⟨v177, rfl, ho0, hb, hkp⟩; refine ⟨_, rfl, ?_⟩; have n0_ := Aside0.mk (blk_kept (zB BK165.out) hkp (fun hs_ => (fun e_ => (Kd.R_ne HO_175003.out BK165.out (by decide)) e_) hs_)); have n1_ := Aside0.mk (blk_kept (zB BK166.out) hkp (fun hs_ => (fun e_ => (Kd.R_ne HO_175003.out BK166.out (by decide)) e_) hs_)); have n2_ := Aside0.mk (blk_kept (zB BK171.out) hkp (fun hs_ => (fun e_ => (Kd.R_ne HO_175003.out BK171.out (by decide)) e_) hs_)); have n3_ := Aside0.mk (blk_kept (zB BK174.out) hkp (fun hs_ => (fun e_ => (Kd.R_ne HO_175003.out BK174.out (by decide)) e_) hs_)); have n4_ := Aside0.mk (Kd.R_mono (ok' := fun k_ => True) ho0 (fun k_ hk_ => trivial)); have n5_ := Aside0.mk (hb); clear BK165; clear BK166; clear BK171; clear BK174; clear HB; clear HO_175003; have BK165 := n0_; have BK166 := n1_; have BK171 := n2_; have BK174 := n3_; have HO178 := n4_; have HB := n5_; clear n0_ n1_ n2_ n3_ n4_ n5_; (try clear hb); (try clear hkp); (try clear ho0); obtain ⟨Ao97, co97, eo97⟩ := Kd.R_slice HO178.out; subst eo97; have hcz98_0 : w96.cell? ⟨gb174, 0, none⟩ = some (.int .i64 0) := (blk_cell BK174.out 0).trans rfl; have hcz98_1 : w96.cell? ⟨gb174, 1, none⟩ = some (.int .i64 x175001_2) := (blk_cell BK174.out 1).trans rfl; have hcz98_2 : w96.cell? ⟨gb174, 2, none⟩ = some (.int .i64 (wrap64 (x175002_2 + 1))) := (blk_cell BK174.out 2).trans rfl; have hcz98_3 : w96.cell? ⟨gb174, 3, none⟩ = some (.slice Ao95 x175003_2.length co95) := (blk_cell BK174.out 3).trans rfl; have hfz98_0 := blk_frozen BK174.out 0; have hfz98_1 := blk_frozen BK174.out 1; have hfz98_2 := blk_frozen BK174.out 2; have hfz98_3 := blk_frozen BK174.out 3; have hcz99_0 : w96.cell? ⟨gb171, 0, none⟩ = some (.int .i64 x172000_2) := (blk_cell BK171.out 0).trans rfl; have hcz99_1 : w96.cell? ⟨gb171, 1, none⟩ = some (.int .i64 x172001_2) := (blk_cell BK171.out 1).trans rfl; have hcz99_2 : w96.cell? ⟨gb171, 2, none⟩ = some (.int .i64 x172002_2) := (blk_cell BK171.out 2).trans rfl; have hcz99_3 : w96.cell? ⟨gb171, 3, none⟩ = some (.int .i64 x172003_2) := (blk_cell BK171.out 3).trans rfl; have hfz99_0 := blk_frozen BK171.out 0; have hfz99_1 := blk_frozen BK171.out 1; have hfz99_2 := blk_frozen BK171.out 2; have hfz99_3 := blk_frozen BK171.out 3) | ((with_reducible refine gate_callee (f := 88) rfl ?_); refine goesL_ (some 59) rfl rfl Try.func88 (by kernel_rfl) rfl #[.agg #[.int .i64 x172000_2, .int .i64 x172001_2, .int .i64 x172002_2, .int .i64 x172003_2], .int .i64 1] rfl (by (try simp only [List.map_toArray, List.map_cons, List.map_nil]); first | done | rfl | (simp only [List.length_drop, List.length_take]; rfl)) ?_; (with_reducible refine (impl_ydesc_has.calls x172000_2 x172001_2 x172002_2 x172003_2 1 false _ A58.out).mono ?_); rintro e w100 ⟨rfl, hb⟩; refine ⟨_, rfl, ?_⟩; have n0_ := Aside0.mk (Kd.R_below (by (with_reducible repeat (first | apply Kd.R_alloc | apply Kd.R_drewN | apply Kd.R_drew)); exact (Kd.R_mono (Kd.R_far (p := ⟨gb174, 3, none⟩) (Kd.R_types HO178.out BK174.out (by decide)) (fun _ hk => hk.2) (.slice Ao97 t176.length co97)) (fun _ h_ => h_.1))) hb); have n1_ := Aside0.mk (blk_below (g := gb165) (o := .cells #[.int .i64 a1_0, .int .i64 a1_1, .int .i64 a1_2, .bool a1_3] 25 (0, 0)) (by (with_reducible repeat (first | refine blk_drewN ?_ _ | refine blk_drew ?_ | refine blk_alloc ?_ _)); refine blk_far ?_ NB165_174.out _; (with_reducible repeat (first | refine blk_drewN ?_ _ | refine blk_drew ?_ | refine blk_alloc ?_ _)); exact BK165.out) hb); have n2_ := Aside0.mk (blk_below (g := gb166) (o := .cells #[.int .i64 x167000_2, .int .i64 x167001_2, .int .i64 x167002_2, .slice none 0 0] 46 (0, 0)) (by (with_reducible repeat (first | refine blk_drewN ?_ _ | refine blk_drew ?_ | refine blk_alloc ?_ _)); refine blk_far ?_ NB166_174.out _; (with_reducible repeat (first | refine blk_drewN ?_ _ | refine blk_drew ?_ | refine blk_alloc ?_ _)); exact BK166.out) hb); have n3_ := Aside0.mk (blk_below (g := gb171) (o := .cells #[.int .i64 x172000_2, .int .i64 x172001_2, .int .i64 x172002_2, .int .i64 x172003_2] 112 (0, 0)) (by (with_reducible repeat (first | refine blk_drewN ?_ _ | refine blk_drew ?_ | refine blk_alloc ?_ _)); refine blk_far ?_ NB171_174.out _; (with_reducible repeat (first | refine blk_drewN ?_ _ | refine blk_drew ?_ | refine blk_alloc ?_ _)); exact BK171.out) hb); have n4_ := Aside0.mk (blk_below (g := gb174) (o := .cells #[.int .i64 0, .int .i64 x175001_2, .int .i64 (wrap64 (x175002_2 + 1)), .slice Ao97 t176.length co97] 46 (0, 0)) (by (with_reducible repeat (first | refine blk_drewN ?_ _ | refine blk_drew ?_ | refine blk_alloc ?_ _)); refine blk_put (cs := #[.int .i64 0, .int .i64 x175001_2, .int .i64 (wrap64 (x175002_2 + 1)), .slice Ao95 x175003_2.length co95]) ?_ 3 _ rfl; (with_reducible repeat (first | refine blk_drewN ?_ _ | refine blk_drew ?_ | refine blk_alloc ?_ _)); exact BK174.out) hb); have n5_ := Aside0.mk (below_step (zW HB.out) hb); clear HO178; clear BK165; clear BK166; clear BK171; clear BK174; clear HB; have HO178 := n0_; have BK165 := n1_; have BK166 := n2_; have BK171 := n3_; have BK174 := n4_; have HB := n5_; clear n0_ n1_ n2_ n3_ n4_ n5_; (try clear hb); (try clear hb2); (try clear hk); (try clear hi); have hcz101_0 : w100.cell? ⟨gb171, 0, none⟩ = some (.int .i64 x172000_2) := (blk_cell BK171.out 0).trans rfl; have hcz101_1 : w100.cell? ⟨gb171, 1, none⟩ = some (.int .i64 x172001_2) := (blk_cell BK171.out 1).trans rfl; have hcz101_2 : w100.cell? ⟨gb171, 2, none⟩ = some (.int .i64 x172002_2) := (blk_cell BK171.out 2).trans rfl; have hcz101_3 : w100.cell? ⟨gb171, 3, none⟩ = some (.int .i64 x172003_2) := (blk_cell BK171.out 3).trans rfl; have hfz101_0 := blk_frozen BK171.out 0; have hfz101_1 := blk_frozen BK171.out 1; have hfz101_2 := blk_frozen BK171.out 2; have hfz101_3 := blk_frozen BK171.out 3; have hcz102_0 : w100.cell? ⟨gb174, 0, none⟩ = some (.int .i64 0) := (blk_cell BK174.out 0).trans rfl; have hcz102_1 : w100.cell? ⟨gb174, 1, none⟩ = some (.int .i64 x175001_2) := (blk_cell BK174.out 1).trans rfl; have hcz102_2 : w100.cell? ⟨gb174, 2, none⟩ = some (.int .i64 (wrap64 (x175002_2 + 1))) := (blk_cell BK174.out 2).trans rfl; have hcz102_3 : w100.cell? ⟨gb174, 3, none⟩ = some (.slice Ao97 t176.length co97) := (blk_cell BK174.out 3).trans rfl; have hfz102_0 := blk_frozen BK174.out 0; have hfz102_1 := blk_frozen BK174.out 1; have hfz102_2 := blk_frozen BK174.out 2; have hfz102_3 := blk_frozen BK174.out 3; have hcz103_0 : w100.cell? ⟨gb166, 0, none⟩ = some (.int .i64 x167000_2) := (blk_cell BK166.out 0).trans rfl; have hcz103_1 : w100.cell? ⟨gb166, 1, none⟩ = some (.int .i64 x167001_2) := (blk_cell BK166.out 1).trans rfl; have hcz103_2 : w100.cell? ⟨gb166, 2, none⟩ = some (.int .i64 x167002_2) := (blk_cell BK166.out 2).trans rfl; have hcz103_3 : w100.cell? ⟨gb166, 3, none⟩ = some (.slice none 0 0) := (blk_cell BK166.out 3).trans rfl; have hfz103_0 := blk_frozen BK166.out 0; have hfz103_1 := blk_frozen BK166.out 1; have hfz103_2 := blk_frozen BK166.out 2; have hfz103_3 := blk_frozen BK166.out 3))
                    refine bodyPost_ret (results_cell_row rfl _ _ gb166 46 #[.int .i64 0, .int .i64 (Go.bits .and .i64 x172003_2 65535), .int .i64 (wrap64 (x175002_2 + 1)), .slice Ao97 t176.length co97] (0, 0) _ rfl (by (with_reducible repeat (first | refine blk_drewN ?_ _ | refine blk_drew ?_ | refine blk_alloc ?_ _)); refine blk_put (cs := #[.int .i64 0, .int .i64 (Go.bits .and .i64 x172003_2 65535), .int .i64 (wrap64 (x175002_2 + 1)), .slice none 0 0]) ?_ 3 _ rfl; (with_reducible repeat (first | refine blk_drewN ?_ _ | refine blk_drew ?_ | refine blk_alloc ?_ _)); refine blk_put (cs := #[.int .i64 0, .int .i64 (Go.bits .and .i64 x172003_2 65535), .int .i64 x167002_2, .slice none 0 0]) ?_ 2 _ rfl; (with_reducible repeat (first | refine blk_drewN ?_ _ | refine blk_drew ?_ | refine blk_alloc ?_ _)); refine blk_put (cs := #[.int .i64 0, .int .i64 x167001_2, .int .i64 x167002_2, .slice none 0 0]) ?_ 1 _ rfl; (with_reducible repeat (first | refine blk_drewN ?_ _ | refine blk_drew ?_ | refine blk_alloc ?_ _)); refine blk_put (cs := #[.int .i64 x167000_2, .int .i64 x167001_2, .int .i64 x167002_2, .slice none 0 0]) ?_ 0 _ rfl; (with_reducible repeat (first | refine blk_drewN ?_ _ | refine blk_drew ?_ | refine blk_alloc ?_ _)); refine blk_far ?_ NB166_174.out _; (with_reducible repeat (first | refine blk_drewN ?_ _ | refine blk_drew ?_ | refine blk_alloc ?_ _)); exact BK166.out) Try.underlying46 rfl (by kernel_rfl)) rfl ?_
                    exact ⟨_, by first | rfl | (simp [errW_none, errW_some] <;> rfl) | (simp [*, errW_none, errW_some] <;> rfl), by (with_reducible repeat (first | apply Kd.R_alloc | apply Kd.R_drewN | apply Kd.R_drew)); exact Kd.R_mono (Kd.R_far (p := ⟨gb166, 3, none⟩) (Kd.R_far (p := ⟨gb166, 2, none⟩) (Kd.R_far (p := ⟨gb166, 1, none⟩) (Kd.R_far (p := ⟨gb166, 0, none⟩) (Kd.R_far (p := ⟨gb174, 1, none⟩) (Kd.R_types (Kd.R_types HO178.out BK174.out (by decide)) BK166.out (by decide)) (fun _ hk => hk.1.2) (.int .i64 (Go.bits .and .i64 x172003_2 65535))) (fun _ hk => hk.2) (.int .i64 0)) (fun _ hk => hk.2) (.int .i64 (Go.bits .and .i64 x172003_2 65535))) (fun _ hk => hk.2) (.int .i64 (wrap64 (x175002_2 + 1)))) (fun _ hk => hk.2) (.slice Ao97 t176.length co97)) (fun _ hk => trivial), zW HB.out⟩
                · rw [if_neg c57] at H
                  have c57b0 : (t179 == 0) = false := beq_eq_false_iff_ne.mpr c57
                  have c57b1 : (t179 != 0) = true := bne_iff_ne.mpr c57
                  simp only [Option.some.injEq, Prod.mk.injEq] at H
                  obtain ⟨rfl, rfl, rfl, rfl⟩ := H
                  have hnb104 := NB174_165.out
                  have hnc104 := NB165_174.out
                  have hnb105 := NB174_166.out
                  have hnc105 := NB166_174.out
                  have hnb106 := NB174_171.out
                  have hnc106 := NB171_174.out
                  have hcz107_0 : wr.cell? ⟨gb174, 0, none⟩ = some (.int .i64 0) := (blk_cell BK174.out 0).trans rfl
                  have hcz107_1 : wr.cell? ⟨gb174, 1, none⟩ = some (.int .i64 x175001_2) := (blk_cell BK174.out 1).trans rfl
                  have hcz107_2 : wr.cell? ⟨gb174, 2, none⟩ = some (.int .i64 x175002_2) := (blk_cell BK174.out 2).trans rfl
                  have hcz107_3 : wr.cell? ⟨gb174, 3, none⟩ = some (u175003) := (blk_cell BK174.out 3).trans rfl
                  have hfz107_0 := blk_frozen BK174.out 0
                  have hfz107_1 := blk_frozen BK174.out 1
                  have hfz107_2 := blk_frozen BK174.out 2
                  have hfz107_3 := blk_frozen BK174.out 3
                  have hnb108 := NB165_166.out
                  have hnc108 := NB166_165.out
                  have hnb109 := NB165_171.out
                  have hnc109 := NB171_165.out
                  have hcz110_0 : wr.cell? ⟨gb165, 0, none⟩ = some (.int .i64 a1_0) := (blk_cell BK165.out 0).trans rfl
                  have hcz110_1 : wr.cell? ⟨gb165, 1, none⟩ = some (.int .i64 a1_1) := (blk_cell BK165.out 1).trans rfl
                  have hcz110_2 : wr.cell? ⟨gb165, 2, none⟩ = some (.int .i64 a1_2) := (blk_cell BK165.out 2).trans rfl
                  have hcz110_3 : wr.cell? ⟨gb165, 3, none⟩ = some (.bool a1_3) := (blk_cell BK165.out 3).trans rfl
                  have hfz110_0 := blk_frozen BK165.out 0
                  have hfz110_1 := blk_frozen BK165.out 1
                  have hfz110_2 := blk_frozen BK165.out 2
                  have hfz110_3 := blk_frozen BK165.out 3
                  have hnb111 := NB171_166.out
                  have hnc111 := NB166_171.out
                  have hcz112_0 : wr.cell? ⟨gb171, 0, none⟩ = some (.int .i64 x172000_2) := (blk_cell BK171.out 0).trans rfl
                  have hcz112_1 : wr.cell? ⟨gb171, 1, none⟩ = some (.int .i64 x172001_2) := (blk_cell BK171.out 1).trans rfl
                  have hcz112_2 : wr.cell? ⟨gb171, 2, none⟩ = some (.int .i64 x172002_2) := (blk_cell BK171.out 2).trans rfl
                  have hcz112_3 : wr.cell? ⟨gb171, 3, none⟩ = some (.int .i64 x172003_2) := (blk_cell BK171.out 3).trans rfl
                  have hfz112_0 := blk_frozen BK171.out 0
                  have hfz112_1 := blk_frozen BK171.out 1
                  have hfz112_2 := blk_frozen BK171.out 2
                  have hfz112_3 := blk_frozen BK171.out 3
                  go_wp2_with (first | ((with_reducible refine gate_callee (f := 88) rfl ?_); refine goesL_ (some 43) rfl rfl Try.func88 (by kernel_rfl) rfl #[.agg #[.int .i64 x172000_2, .int .i64 x172001_2, .int .i64 x172002_2, .int .i64 x172003_2], .int .i64 4] rfl (by (try simp only [List.map_toArray, List.map_cons, List.map_nil]); first | done | rfl | (simp only [List.length_drop, List.length_take]; rfl)) ?_; (with_reducible refine (impl_ydesc_has.calls x172000_2 x172001_2 x172002_2 x172003_2 4 false _ A43.out).mono ?_); rintro e w113 ⟨rfl, hb⟩; refine ⟨_, rfl, ?_⟩; have n0_ := Aside0.mk (Kd.R_below (by (with_reducible repeat (first | apply Kd.R_alloc | apply Kd.R_drewN | apply Kd.R_drew)); exact (Kd.R_mono (Kd.R_far (p := ⟨gb174, 2, none⟩) (Kd.R_types HO_175003.out BK174.out (by decide)) (fun _ hk => hk.2) (.int .i64 (wrap64 (x175002_2 + 1)))) (fun _ h_ => h_.1))) hb); have n1_ := Aside0.mk (blk_below (g := gb165) (o := .cells #[.int .i64 a1_0, .int .i64 a1_1, .int .i64 a1_2, .bool a1_3] 25 (0, 0)) (by (with_reducible repeat (first | refine blk_drewN ?_ _ | refine blk_drew ?_ | refine blk_alloc ?_ _)); refine blk_far ?_ NB165_174.out _; (with_reducible repeat (first | refine blk_drewN ?_ _ | refine blk_drew ?_ | refine blk_alloc ?_ _)); exact BK165.out) hb); have n2_ := Aside0.mk (blk_below (g := gb166) (o := .cells #[.int .i64 x167000_2, .int .i64 x167001_2, .int .i64 x167002_2, .slice none 0 0] 46 (0, 0)) (by (with_reducible repeat (first | refine blk_drewN ?_ _ | refine blk_drew ?_ | refine blk_alloc ?_ _)); refine blk_far ?_ NB166_174.out _; (with_reducible repeat (first | refine blk_drewN ?_ _ | refine blk_drew ?_ | refine blk_alloc ?_ _)); exact BK166.out) hb); have n3_ := Aside0.mk (blk_below (g := gb171) (o := .cells #[.int .i64 x172000_2, .int .i64 x172001_2, .int .i64 x172002_2, .int .i64 x172003_2] 112 (0, 0)) (by (with_reducible repeat (first | refine blk_drewN ?_ _ | refine blk_drew ?_ | refine blk_alloc ?_ _)); refine blk_far ?_ NB171_174.out _; (with_reducible repeat (first | refine blk_drewN ?_ _ | refine blk_drew ?_ | refine blk_alloc ?_ _)); exact BK171.out) hb); have n4_ := Aside0.mk (blk_below (g := gb174) (o := .cells #[.int .i64 0, .int .i64 x175001_2, .int .i64 (wrap64 (x175002_2 + 1)), u175003] 46 (0, 0)) (by (with_reducible repeat (first | refine blk_drewN ?_ _ | refine blk_drew ?_ | refine blk_alloc ?_ _)); refine blk_put (cs := #[.int .i64 0, .int .i64 x175001_2, .int .i64 x175002_2, u175003]) ?_ 2 _ rfl; (with_reducible repeat (first | refine blk_drewN ?_ _ | refine blk_drew ?_ | refine blk_alloc ?_ _)); exact BK174.out) hb); have n5_ := Aside0.mk (below_step (zW HB.out) hb); clear HO_175003; clear BK165; clear BK166; clear BK171; clear BK174; clear HB; have HO_175003 := n0_; have BK165 := n1_; have BK166 := n2_; have BK171 := n3_; have BK174 := n4_; have HB := n5_; clear n0_ n1_ n2_ n3_ n4_ n5_; (try clear hb); (try clear hb2); (try clear hk); (try clear hi); have hcz114_0 : w113.cell? ⟨gb174, 0, none⟩ = some (.int .i64 0) := (blk_cell BK174.out 0).trans rfl; have hcz114_1 : w113.cell? ⟨gb174, 1, none⟩ = some (.int .i64 x175001_2) := (blk_cell BK174.out 1).trans rfl; have hcz114_2 : w113.cell? ⟨gb174, 2, none⟩ = some (.int .i64 (wrap64 (x175002_2 + 1))) := (blk_cell BK174.out 2).trans rfl; have hcz114_3 : w113.cell? ⟨gb174, 3, none⟩ = some (u175003) := (blk_cell BK174.out 3).trans rfl; have hfz114_0 := blk_frozen BK174.out 0; have hfz114_1 := blk_frozen BK174.out 1; have hfz114_2 := blk_frozen BK174.out 2; have hfz114_3 := blk_frozen BK174.out 3; have hcz115_0 : w113.cell? ⟨gb171, 0, none⟩ = some (.int .i64 x172000_2) := (blk_cell BK171.out 0).trans rfl; have hcz115_1 : w113.cell? ⟨gb171, 1, none⟩ = some (.int .i64 x172001_2) := (blk_cell BK171.out 1).trans rfl; have hcz115_2 : w113.cell? ⟨gb171, 2, none⟩ = some (.int .i64 x172002_2) := (blk_cell BK171.out 2).trans rfl; have hcz115_3 : w113.cell? ⟨gb171, 3, none⟩ = some (.int .i64 x172003_2) := (blk_cell BK171.out 3).trans rfl; have hfz115_0 := blk_frozen BK171.out 0; have hfz115_1 := blk_frozen BK171.out 1; have hfz115_2 := blk_frozen BK171.out 2; have hfz115_3 := blk_frozen BK171.out 3; obtain ⟨Ao116, co116, eo116⟩ := Kd.R_slice HO_175003.out; subst eo116) | ((with_reducible refine gate_callee (f := 89) rfl ?_); refine goesL_ (some 50) rfl rfl Try.func89 (by kernel_rfl) rfl #[.string a0, .slice Ao116 x175003_2.length co116, .agg #[.int .i64 x172000_2, .int .i64 x172001_2, .int .i64 x172002_2, .int .i64 x172003_2]] rfl (by (try simp only [List.map_toArray, List.map_cons, List.map_nil]); first | done | rfl | (simp only [List.length_drop, List.length_take]; rfl)) ?_; (with_reducible refine (impl_yadd.calls a0 (fun k_ => some k_ = (.slice Ao116 x175003_2.length co116 : Value).ownBlock) (.slice Ao116 x175003_2.length co116) x175003_2 x172000_2 x172001_2 x172002_2 x172003_2 t176 t179 w _ ?side1 ?side2 A56.out).mono ?_); (case side1 => repeat (first | (with_reducible first | exact HB.out | apply below_alloc | apply pw_below_drewN | apply below_drew1 | refine below_set ?_ GE165.out | refine below_set ?_ GE166.out | refine below_set ?_ GE171.out | refine below_set ?_ GE174.out) | exact HB.out)); (case side2 => exact Kd.R_tight rfl HO_175003.out); rintro e w117 ⟨v177, rfl, ho0, hb, hkp⟩; refine ⟨_, rfl, ?_⟩; have n0_ := Aside0.mk (blk_kept (zB BK165.out) hkp (fun hs_ => (fun e_ => (Kd.R_ne HO_175003.out BK165.out (by decide)) e_) hs_)); have n1_ := Aside0.mk (blk_kept (zB BK166.out) hkp (fun hs_ => (fun e_ => (Kd.R_ne HO_175003.out BK166.out (by decide)) e_) hs_)); have n2_ := Aside0.mk (blk_kept (zB BK171.out) hkp (fun hs_ => (fun e_ => (Kd.R_ne HO_175003.out BK171.out (by decide)) e_) hs_)); have n3_ := Aside0.mk (blk_kept (zB BK174.out) hkp (fun hs_ => (fun e_ => (Kd.R_ne HO_175003.out BK174.out (by decide)) e_) hs_)); have n4_ := Aside0.mk (Kd.R_mono (ok' := fun k_ => True) ho0 (fun k_ hk_ => trivial)); have n5_ := Aside0.mk (hb); clear BK165; clear BK166; clear BK171; clear BK174; clear HB; clear HO_175003; have BK165 := n0_; have BK166 := n1_; have BK171 := n2_; have BK174 := n3_; have HO178 := n4_; have HB := n5_; clear n0_ n1_ n2_ n3_ n4_ n5_; (try clear hb); (try clear hkp); (try clear ho0); obtain ⟨Ao118, co118, eo118⟩ := Kd.R_slice HO178.out; subst eo118; have hcz119_0 : w117.cell? ⟨gb174, 0, none⟩ = some (.int .i64 0) := (blk_cell BK174.out 0).trans rfl; have hcz119_1 : w117.cell? ⟨gb174, 1, none⟩ = some (.int .i64 x175001_2) := (blk_cell BK174.out 1).trans rfl; have hcz119_2 : w117.cell? ⟨gb174, 2, none⟩ = some (.int .i64 (wrap64 (x175002_2 + 1))) := (blk_cell BK174.out 2).trans rfl; have hcz119_3 : w117.cell? ⟨gb174, 3, none⟩ = some (.slice Ao116 x175003_2.length co116) := (blk_cell BK174.out 3).trans rfl; have hfz119_0 := blk_frozen BK174.out 0; have hfz119_1 := blk_frozen BK174.out 1; have hfz119_2 := blk_frozen BK174.out 2; have hfz119_3 := blk_frozen BK174.out 3; have hcz120_0 : w117.cell? ⟨gb166, 0, none⟩ = some (.int .i64 x167000_2) := (blk_cell BK166.out 0).trans rfl; have hcz120_1 : w117.cell? ⟨gb166, 1, none⟩ = some (.int .i64 x167001_2) := (blk_cell BK166.out 1).trans rfl; have hcz120_2 : w117.cell? ⟨gb166, 2, none⟩ = some (.int .i64 x167002_2) := (blk_cell BK166.out 2).trans rfl; have hcz120_3 : w117.cell? ⟨gb166, 3, none⟩ = some (.slice none 0 0) := (blk_cell BK166.out 3).trans rfl; have hfz120_0 := blk_frozen BK166.out 0; have hfz120_1 := blk_frozen BK166.out 1; have hfz120_2 := blk_frozen BK166.out 2; have hfz120_3 := blk_frozen BK166.out 3))
                  refine bodyPost_ret (results_cell_row rfl _ _ gb166 46 #[.int .i64 t179, .int .i64 0, .int .i64 0, .slice none 0 0] (0, 0) _ rfl (by (with_reducible repeat (first | refine blk_drewN ?_ _ | refine blk_drew ?_ | refine blk_alloc ?_ _)); refine blk_put (cs := #[.int .i64 t179, .int .i64 0, .int .i64 0, .slice none 0 0]) ?_ 3 _ rfl; (with_reducible repeat (first | refine blk_drewN ?_ _ | refine blk_drew ?_ | refine blk_alloc ?_ _)); refine blk_put (cs := #[.int .i64 t179, .int .i64 0, .int .i64 x167002_2, .slice none 0 0]) ?_ 2 _ rfl; (with_reducible repeat (first | refine blk_drewN ?_ _ | refine blk_drew ?_ | refine blk_alloc ?_ _)); refine blk_put (cs := #[.int .i64 t179, .int .i64 x167001_2, .int .i64 x167002_2, .slice none 0 0]) ?_ 1 _ rfl; (with_reducible repeat (first | refine blk_drewN ?_ _ | refine blk_drew ?_ | refine blk_alloc ?_ _)); refine blk_put (cs := #[.int .i64 x167000_2, .int .i64 x167001_2, .int .i64 x167002_2, .slice none 0 0]) ?_ 0 _ rfl; (with_reducible repeat (first | refine blk_drewN ?_ _ | refine blk_drew ?_ | refine blk_alloc ?_ _)); refine blk_far ?_ NB166_174.out _; (with_reducible repeat (first | refine blk_drewN ?_ _ | refine blk_drew ?_ | refine blk_alloc ?_ _)); exact BK166.out) Try.underlying46 rfl (by kernel_rfl)) rfl ?_
                  exact ⟨_, by first | rfl | (simp [errW_none, errW_some] <;> rfl) | (simp [*, errW_none, errW_some] <;> rfl), by first | exact Kd.R_nil _ _ _ _ _ | exact Kd.N_nil _ _ _ _ _ | exact Kd.V_nil _ _ _ _ _ | exact Kd.Q_nil _ _ _ _ _ | exact Kd.S_nil _ _ _ _ _, zW HB.out⟩

/-! ### impl_TakePacked: function 25 -/
def impl_TakePacked.f (k : Nat) (a0 : ByteArray) (a1_0 : Int) (a1_1 : Int) (a1_2 : Int) (a1_3 : Bool) : Option (Int × Int × Int × (List (S75))) := (impl_ymemPacked.f k a0 a1_0 a1_1 a1_2 a1_3).bind fun t187 => (if t187 = 0 then ((impl_ytakePacked.f k a0 a1_0 a1_1 a1_2 a1_3).bind fun bt188 => (some (bt188.1, bt188.2.1, bt188.2.2.1, bt188.2.2.2))) else (some (t187, 0, 0, ([] : List (S75)))))
theorem impl_TakePacked.mono : ∀ a0 a1 a2 a3 a4 k, LeO (impl_TakePacked.f k a0 a1 a2 a3 a4) (impl_TakePacked.f (k + 1) a0 a1 a2 a3 a4) := by
  intro a0 a1 a2 a3 a4 k
  unfold impl_TakePacked.f
  repeat' first
      | (with_reducible exact impl_ymemPacked.mono _ _ _ _ _ _)
      | (with_reducible exact impl_ytakePacked.mono _ _ _ _ _ _)
      | (with_reducible exact LeO.refl _)
      | (with_reducible exact LeO.none _)
      | (with_reducible refine LeO.ite ?_ ?_)
      | (with_reducible refine LeO.bind ?_ (fun _ => ?_))
      | exact impl_ymemPacked.mono _ _ _ _ _ _
      | exact impl_ytakePacked.mono _ _ _ _ _ _
      | exact LeO.none _
      | refine LeO.ite ?_ ?_
      | refine LeO.bind ?_ (fun _ => ?_)
set_option maxHeartbeats 8000000 in
set_option maxRecDepth 100000 in
theorem impl_TakePacked.calls (k : Nat) (a0 : ByteArray) (a1_0 : Int) (a1_1 : Int) (a1_2 : Int) (a1_3 : Bool) (r1 : Int) (r2 : Int) (r3 : Int) (r4 : List (S75)) (w : World) (h : impl_TakePacked.f k a0 a1_0 a1_1 a1_2 a1_3 = some (r1, r2, r3, r4)) :
    Calls Try.prog 25 #[.string a0, .agg #[.int .i64 a1_0, .int .i64 a1_1, .int .i64 a1_2, .bool a1_3]] w fun e w' => ∃ v3_ : Value, e = .returned (.agg #[.int .i64 r1, .int .i64 r2, .int .i64 r3, v3_]) ∧ Kd.R k75 75 w' w.heap.size (fun _ => True) v3_ r4 ∧ Below w.heap.size w w' := by
  have hu25 := Try.underlying25
  have hu46 := Try.underlying46
  have HB := Aside0.mk (Below.refl w.heap.size w)
  have H : ((impl_ymemPacked.f k a0 a1_0 a1_1 a1_2 a1_3).bind fun t187 => (if t187 = 0 then ((impl_ytakePacked.f k a0 a1_0 a1_1 a1_2 a1_3).bind fun bt188 => (some (bt188.1, bt188.2.1, bt188.2.2.1, bt188.2.2.2))) else (some (t187, 0, 0, ([] : List (S75)))))) = some (r1, r2, r3, r4) := h
  clear h
  replace H := Option.bind_eq_some_iff.mp H
  obtain ⟨t187, A30, H⟩ := H
  replace H : (if t187 = 0 then ((impl_ytakePacked.f k a0 a1_0 a1_1 a1_2 a1_3).bind fun bt188 => (some (bt188.1, bt188.2.1, bt188.2.2.1, bt188.2.2.2))) else (some (t187, 0, 0, ([] : List (S75))))) = some (r1, r2, r3, r4) := H
  have A3 := Aside0.mk A30
  clear A30
  by_cases c4 : t187 = 0
  · rw [if_pos c4] at H
    have c4b0 : (t187 == 0) = true := beq_iff_eq.mpr c4
    have c4b1 : (t187 != 0) = false := bne_eq_false_iff_eq.mpr c4
    clear c4
    replace H := Option.bind_eq_some_iff.mp H
    obtain ⟨⟨t188, t189, t190, t191⟩, A50, H⟩ := H
    replace H : (some (t188, t189, t190, t191)) = some (r1, r2, r3, r4) := H
    have A5 := Aside0.mk A50
    clear A50
    simp only [Option.some.injEq, Prod.mk.injEq] at H
    obtain ⟨rfl, rfl, rfl, rfl⟩ := H
    go_enter Try.func25, Try.ntmps25
    go_wp2_with (first | ((with_reducible refine gate_dst (N := 3) rfl ?_); refine box_event ?hg (N := 3) ?hd (cs := #[.int .i64 a1_0, .int .i64 a1_1, .int .i64 a1_2, .bool a1_3]) (t := 25) ?hr ?_; (case hd => rfl); (case hg => rfl); (case hr => first | (go_simp; done) | (go_simp; rfl)); intro gb185 hg w6 hbox hb; have n0_ := Aside0.mk (below_step (zW HB.out) hb); have n1_ := Aside0.mk (hbox); have n2_ := zG hg (zW HB.out); have n3_ := zG hg (zW HB.out); clear HB; have HB := n0_; have BK185 := n1_; have GW185 := n2_; have GE185 := n3_; clear n0_ n1_ n2_ n3_; clear hb hbox hg) | ((with_reducible refine gate_dst (N := 4) rfl ?_); refine box_event ?hg (N := 4) ?hd (cs := #[.int .i64 0, .int .i64 0, .int .i64 0, .slice none 0 0]) (t := 46) ?hr ?_; (case hd => rfl); (case hg => rfl); (case hr => first | (go_simp; done) | (go_simp; rfl)); intro gb186 hg w7 hbox hb; have n0_ := Aside0.mk (blk_below (g := gb185) (o := .cells #[.int .i64 a1_0, .int .i64 a1_1, .int .i64 a1_2, .bool a1_3] 25 (0, 0)) (zB BK185.out) hb); have n1_ := Aside0.mk (below_step (zW HB.out) hb); have n2_ := Aside0.mk (hbox); have n3_ := zG hg (zW HB.out); have n4_ := zG hg (zW HB.out); have n5_ := Aside0.mk ((by rw [hg]; exact Nat.ne_of_lt (blk_lt (g := gb185) (o := .cells #[.int .i64 a1_0, .int .i64 a1_1, .int .i64 a1_2, .bool a1_3] 25 (0, 0)) (zB BK185.out)) : gb185 ≠ gb186)); have n6_ := Aside0.mk ((by rw [hg]; exact Nat.ne_of_gt (blk_lt (g := gb185) (o := .cells #[.int .i64 a1_0, .int .i64 a1_1, .int .i64 a1_2, .bool a1_3] 25 (0, 0)) (zB BK185.out)) : gb186 ≠ gb185)); clear BK185; clear HB; have BK185 := n0_; have HB := n1_; have BK186 := n2_; have GW186 := n3_; have GE186 := n4_; have NB185_186 := n5_; have NB186_185 := n6_; clear n0_ n1_ n2_ n3_ n4_ n5_ n6_; clear hb hbox hg; have hnb8 := NB185_186.out; have hnc8 := NB186_185.out; have hcz9_0 : w7.cell? ⟨gb185, 0, none⟩ = some (.int .i64 a1_0) := (blk_cell BK185.out 0).trans rfl; have hcz9_1 : w7.cell? ⟨gb185, 1, none⟩ = some (.int .i64 a1_1) := (blk_cell BK185.out 1).trans rfl; have hcz9_2 : w7.cell? ⟨gb185, 2, none⟩ = some (.int .i64 a1_2) := (blk_cell BK185.out 2).trans rfl; have hcz9_3 : w7.cell? ⟨gb185, 3, none⟩ = some (.bool a1_3) := (blk_cell BK185.out 3).trans rfl; have hfz9_0 := blk_frozen BK185.out 0; have hfz9_1 := blk_frozen BK185.out 1; have hfz9_2 := blk_frozen BK185.out 2; have hfz9_3 := blk_frozen BK185.out 3) | ((with_reducible refine gate_callee (f := 56) rfl ?_); refine goesL_ (some 8) rfl rfl Try.func56 (by kernel_rfl) rfl #[.string a0, .agg #[.int .i64 a1_0, .int .i64 a1_1, .int .i64 a1_2, .bool a1_3]] rfl (by (try simp only [List.map_toArray, List.map_cons, List.map_nil]); first | done | rfl | (simp only [List.length_drop, List.length_take]; rfl)) ?_; (with_reducible refine (impl_ymemPacked.calls k a0 a1_0 a1_1 a1_2 a1_3 t187 _ A3.out).mono ?_); rintro e w10 ⟨rfl, hb⟩; refine ⟨_, rfl, ?_⟩; have n0_ := Aside0.mk (blk_below (g := gb185) (o := .cells #[.int .i64 a1_0, .int .i64 a1_1, .int .i64 a1_2, .bool a1_3] 25 (0, 0)) (zB BK185.out) hb); have n1_ := Aside0.mk (blk_below (g := gb186) (o := .cells #[.int .i64 0, .int .i64 0, .int .i64 0, .slice none 0 0] 46 (0, 0)) (zB BK186.out) hb); have n2_ := Aside0.mk (below_step (zW HB.out) hb); clear BK185; clear BK186; clear HB; have BK185 := n0_; have BK186 := n1_; have HB := n2_; clear n0_ n1_ n2_; (try clear hb); (try clear hb2); (try clear hk); (try clear hi); have hcz11_0 : w10.cell? ⟨gb185, 0, none⟩ = some (.int .i64 a1_0) := (blk_cell BK185.out 0).trans rfl; have hcz11_1 : w10.cell? ⟨gb185, 1, none⟩ = some (.int .i64 a1_1) := (blk_cell BK185.out 1).trans rfl; have hcz11_2 : w10.cell? ⟨gb185, 2, none⟩ = some (.int .i64 a1_2) := (blk_cell BK185.out 2).trans rfl; have hcz11_3 : w10.cell? ⟨gb185, 3, none⟩ = some (.bool a1_3) := (blk_cell BK185.out 3).trans rfl; have hfz11_0 := blk_frozen BK185.out 0; have hfz11_1 := blk_frozen BK185.out 1; have hfz11_2 := blk_frozen BK185.out 2; have hfz11_3 := blk_frozen BK185.out 3) | ((with_reducible refine gate_callee (f := 65) rfl ?_); refine goesL_ (some 15) rfl rfl Try.func65 (by kernel_rfl) rfl #[.string a0, .agg #[.int .i64 a1_0, .int .i64 a1_1, .int .i64 a1_2, .bool a1_3]] rfl (by (try simp only [List.map_toArray, List.map_cons, List.map_nil]); first | done | rfl | (simp only [List.length_drop, List.length_take]; rfl)) ?_; (with_reducible refine (impl_ytakePacked.calls k a0 a1_0 a1_1 a1_2 a1_3 t188 t189 t190 t191 _ A5.out).mono ?_); rintro e w12 ⟨v192, rfl, ho0, hb⟩; refine ⟨_, rfl, ?_⟩; have n0_ := Aside0.mk (Kd.R_lower ho0 (below_size (zW HB.out))); have n1_ := Aside0.mk (blk_below (g := gb185) (o := .cells #[.int .i64 a1_0, .int .i64 a1_1, .int .i64 a1_2, .bool a1_3] 25 (0, 0)) (zB BK185.out) hb); have n2_ := Aside0.mk (blk_below (g := gb186) (o := .cells #[.int .i64 0, .int .i64 0, .int .i64 0, .slice none 0 0] 46 (0, 0)) (zB BK186.out) hb); have n3_ := Aside0.mk (below_step (zW HB.out) hb); clear BK185; clear BK186; clear HB; have HO193 := n0_; have BK185 := n1_; have BK186 := n2_; have HB := n3_; clear n0_ n1_ n2_ n3_; (try clear hb); (try clear hb2); (try clear hk); (try clear hi); (try clear ho0); have hcz13_0 : w12.cell? ⟨gb186, 0, none⟩ = some (.int .i64 0) := (blk_cell BK186.out 0).trans rfl; have hcz13_1 : w12.cell? ⟨gb186, 1, none⟩ = some (.int .i64 0) := (blk_cell BK186.out 1).trans rfl; have hcz13_2 : w12.cell? ⟨gb186, 2, none⟩ = some (.int .i64 0) := (blk_cell BK186.out 2).trans rfl; have hcz13_3 : w12.cell? ⟨gb186, 3, none⟩ = some (.slice none 0 0) := (blk_cell BK186.out 3).trans rfl; have hfz13_0 := blk_frozen BK186.out 0; have hfz13_1 := blk_frozen BK186.out 1; have hfz13_2 := blk_frozen BK186.out 2; have hfz13_3 := blk_frozen BK186.out 3; obtain ⟨Ao14, co14, eo14⟩ := Kd.R_slice HO193.out; subst eo14))
    refine bodyPost_ret (results_cell_row rfl _ _ gb186 46 #[.int .i64 t188, .int .i64 t189, .int .i64 t190, .slice Ao14 t191.length co14] (0, 0) _ rfl (by (with_reducible repeat (first | refine blk_drewN ?_ _ | refine blk_drew ?_ | refine blk_alloc ?_ _)); refine blk_put (cs := #[.int .i64 t188, .int .i64 t189, .int .i64 t190, .slice none 0 0]) ?_ 3 _ rfl; (with_reducible repeat (first | refine blk_drewN ?_ _ | refine blk_drew ?_ | refine blk_alloc ?_ _)); refine blk_put (cs := #[.int .i64 t188, .int .i64 t189, .int .i64 0, .slice none 0 0]) ?_ 2 _ rfl; (with_reducible repeat (first | refine blk_drewN ?_ _ | refine blk_drew ?_ | refine blk_alloc ?_ _)); refine blk_put (cs := #[.int .i64 t188, .int .i64 0, .int .i64 0, .slice none 0 0]) ?_ 1 _ rfl; (with_reducible repeat (first | refine blk_drewN ?_ _ | refine blk_drew ?_ | refine blk_alloc ?_ _)); refine blk_put (cs := #[.int .i64 0, .int .i64 0, .int .i64 0, .slice none 0 0]) ?_ 0 _ rfl; (with_reducible repeat (first | refine blk_drewN ?_ _ | refine blk_drew ?_ | refine blk_alloc ?_ _)); exact BK186.out) Try.underlying46 rfl (by kernel_rfl)) rfl ?_
    exact ⟨_, by first | rfl | (simp [errW_none, errW_some] <;> rfl) | (simp [*, errW_none, errW_some] <;> rfl), by (with_reducible repeat (first | apply Kd.R_alloc | apply Kd.R_drewN | apply Kd.R_drew)); exact Kd.R_mono (Kd.R_far (p := ⟨gb186, 3, none⟩) (Kd.R_far (p := ⟨gb186, 2, none⟩) (Kd.R_far (p := ⟨gb186, 1, none⟩) (Kd.R_far (p := ⟨gb186, 0, none⟩) (Kd.R_types HO193.out BK186.out (by decide)) (fun _ hk => hk.2) (.int .i64 t188)) (fun _ hk => hk.2) (.int .i64 t189)) (fun _ hk => hk.2) (.int .i64 t190)) (fun _ hk => hk.2) (.slice Ao14 t191.length co14)) (fun _ hk => trivial), zW HB.out⟩
  · rw [if_neg c4] at H
    have c4b0 : (t187 == 0) = false := beq_eq_false_iff_ne.mpr c4
    have c4b1 : (t187 != 0) = true := bne_iff_ne.mpr c4
    simp only [Option.some.injEq, Prod.mk.injEq] at H
    obtain ⟨rfl, rfl, rfl, rfl⟩ := H
    go_enter Try.func25, Try.ntmps25
    go_wp2_with (first | ((with_reducible refine gate_dst (N := 3) rfl ?_); refine box_event ?hg (N := 3) ?hd (cs := #[.int .i64 a1_0, .int .i64 a1_1, .int .i64 a1_2, .bool a1_3]) (t := 25) ?hr ?_; (case hd => rfl); (case hg => rfl); (case hr => first | (go_simp; done) | (go_simp; rfl)); intro gb185 hg w15 hbox hb; have n0_ := Aside0.mk (below_step (zW HB.out) hb); have n1_ := Aside0.mk (hbox); have n2_ := zG hg (zW HB.out); have n3_ := zG hg (zW HB.out); clear HB; have HB := n0_; have BK185 := n1_; have GW185 := n2_; have GE185 := n3_; clear n0_ n1_ n2_ n3_; clear hb hbox hg) | ((with_reducible refine gate_dst (N := 4) rfl ?_); refine box_event ?hg (N := 4) ?hd (cs := #[.int .i64 0, .int .i64 0, .int .i64 0, .slice none 0 0]) (t := 46) ?hr ?_; (case hd => rfl); (case hg => rfl); (case hr => first | (go_simp; done) | (go_simp; rfl)); intro gb186 hg w16 hbox hb; have n0_ := Aside0.mk (blk_below (g := gb185) (o := .cells #[.int .i64 a1_0, .int .i64 a1_1, .int .i64 a1_2, .bool a1_3] 25 (0, 0)) (zB BK185.out) hb); have n1_ := Aside0.mk (below_step (zW HB.out) hb); have n2_ := Aside0.mk (hbox); have n3_ := zG hg (zW HB.out); have n4_ := zG hg (zW HB.out); have n5_ := Aside0.mk ((by rw [hg]; exact Nat.ne_of_lt (blk_lt (g := gb185) (o := .cells #[.int .i64 a1_0, .int .i64 a1_1, .int .i64 a1_2, .bool a1_3] 25 (0, 0)) (zB BK185.out)) : gb185 ≠ gb186)); have n6_ := Aside0.mk ((by rw [hg]; exact Nat.ne_of_gt (blk_lt (g := gb185) (o := .cells #[.int .i64 a1_0, .int .i64 a1_1, .int .i64 a1_2, .bool a1_3] 25 (0, 0)) (zB BK185.out)) : gb186 ≠ gb185)); clear BK185; clear HB; have BK185 := n0_; have HB := n1_; have BK186 := n2_; have GW186 := n3_; have GE186 := n4_; have NB185_186 := n5_; have NB186_185 := n6_; clear n0_ n1_ n2_ n3_ n4_ n5_ n6_; clear hb hbox hg; have hnb17 := NB185_186.out; have hnc17 := NB186_185.out; have hcz18_0 : w16.cell? ⟨gb185, 0, none⟩ = some (.int .i64 a1_0) := (blk_cell BK185.out 0).trans rfl; have hcz18_1 : w16.cell? ⟨gb185, 1, none⟩ = some (.int .i64 a1_1) := (blk_cell BK185.out 1).trans rfl; have hcz18_2 : w16.cell? ⟨gb185, 2, none⟩ = some (.int .i64 a1_2) := (blk_cell BK185.out 2).trans rfl; have hcz18_3 : w16.cell? ⟨gb185, 3, none⟩ = some (.bool a1_3) := (blk_cell BK185.out 3).trans rfl; have hfz18_0 := blk_frozen BK185.out 0; have hfz18_1 := blk_frozen BK185.out 1; have hfz18_2 := blk_frozen BK185.out 2; have hfz18_3 := blk_frozen BK185.out 3) | ((with_reducible refine gate_callee (f := 56) rfl ?_); refine goesL_ (some 8) rfl rfl Try.func56 (by kernel_rfl) rfl #[.string a0, .agg #[.int .i64 a1_0, .int .i64 a1_1, .int .i64 a1_2, .bool a1_3]] rfl (by (try simp only [List.map_toArray, List.map_cons, List.map_nil]); first | done | rfl | (simp only [List.length_drop, List.length_take]; rfl)) ?_; (with_reducible refine (impl_ymemPacked.calls k a0 a1_0 a1_1 a1_2 a1_3 t187 _ A3.out).mono ?_); rintro e w19 ⟨rfl, hb⟩; refine ⟨_, rfl, ?_⟩; have n0_ := Aside0.mk (blk_below (g := gb185) (o := .cells #[.int .i64 a1_0, .int .i64 a1_1, .int .i64 a1_2, .bool a1_3] 25 (0, 0)) (zB BK185.out) hb); have n1_ := Aside0.mk (blk_below (g := gb186) (o := .cells #[.int .i64 0, .int .i64 0, .int .i64 0, .slice none 0 0] 46 (0, 0)) (zB BK186.out) hb); have n2_ := Aside0.mk (below_step (zW HB.out) hb); clear BK185; clear BK186; clear HB; have BK185 := n0_; have BK186 := n1_; have HB := n2_; clear n0_ n1_ n2_; (try clear hb); (try clear hb2); (try clear hk); (try clear hi); have hcz20_0 : w19.cell? ⟨gb186, 0, none⟩ = some (.int .i64 0) := (blk_cell BK186.out 0).trans rfl; have hcz20_1 : w19.cell? ⟨gb186, 1, none⟩ = some (.int .i64 0) := (blk_cell BK186.out 1).trans rfl; have hcz20_2 : w19.cell? ⟨gb186, 2, none⟩ = some (.int .i64 0) := (blk_cell BK186.out 2).trans rfl; have hcz20_3 : w19.cell? ⟨gb186, 3, none⟩ = some (.slice none 0 0) := (blk_cell BK186.out 3).trans rfl; have hfz20_0 := blk_frozen BK186.out 0; have hfz20_1 := blk_frozen BK186.out 1; have hfz20_2 := blk_frozen BK186.out 2; have hfz20_3 := blk_frozen BK186.out 3))
    refine bodyPost_ret (results_cell_row rfl _ _ gb186 46 #[.int .i64 t187, .int .i64 0, .int .i64 0, .slice none 0 0] (0, 0) _ rfl (by (with_reducible repeat (first | refine blk_drewN ?_ _ | refine blk_drew ?_ | refine blk_alloc ?_ _)); refine blk_put (cs := #[.int .i64 t187, .int .i64 0, .int .i64 0, .slice none 0 0]) ?_ 3 _ rfl; (with_reducible repeat (first | refine blk_drewN ?_ _ | refine blk_drew ?_ | refine blk_alloc ?_ _)); refine blk_put (cs := #[.int .i64 t187, .int .i64 0, .int .i64 0, .slice none 0 0]) ?_ 2 _ rfl; (with_reducible repeat (first | refine blk_drewN ?_ _ | refine blk_drew ?_ | refine blk_alloc ?_ _)); refine blk_put (cs := #[.int .i64 t187, .int .i64 0, .int .i64 0, .slice none 0 0]) ?_ 1 _ rfl; (with_reducible repeat (first | refine blk_drewN ?_ _ | refine blk_drew ?_ | refine blk_alloc ?_ _)); refine blk_put (cs := #[.int .i64 0, .int .i64 0, .int .i64 0, .slice none 0 0]) ?_ 0 _ rfl; (with_reducible repeat (first | refine blk_drewN ?_ _ | refine blk_drew ?_ | refine blk_alloc ?_ _)); exact BK186.out) Try.underlying46 rfl (by kernel_rfl)) rfl ?_
    exact ⟨_, by first | rfl | (simp [errW_none, errW_some] <;> rfl) | (simp [*, errW_none, errW_some] <;> rfl), by first | exact Kd.R_nil _ _ _ _ _ | exact Kd.N_nil _ _ _ _ _ | exact Kd.V_nil _ _ _ _ _ | exact Kd.Q_nil _ _ _ _ _ | exact Kd.S_nil _ _ _ _ _, zW HB.out⟩

end Go.Proofs.Ythcmgjbkmnpibaa.PFnExactTakePacked
