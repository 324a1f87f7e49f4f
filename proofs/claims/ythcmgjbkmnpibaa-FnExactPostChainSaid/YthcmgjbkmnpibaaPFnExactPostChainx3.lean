-- Printed for this claim by this session's own program.
import Derived.Test.YthcmgjbkmnpibaaPFnExactPostChainx0
import Derived.Test.YthcmgjbkmnpibaaPFnExactPostChainx1
import Derived.Test.YthcmgjbkmnpibaaPFnExactPostChainx2
namespace Go.Proofs.Ythcmgjbkmnpibaa.PFnExactPostChain
open Go.RowKit Go.Proofs.YthcmgjbkmnpibaaW.PrintWords Go.Proofs.YthcmgjbkmnpibaaW.PrintLast Go.Proofs.YthcmgjbkmnpibaaW.PrintMore
attribute [local go_sem] max2_int min2_int max_two min_two max_three min_three max_four min_four   -- for this text's walks alone
set_option linter.unusedVariables false
set_option linter.unusedSimpArgs false

/-! ### spec_PostChain: function 30 -/
mutual
def spec_PostChain.j0 : Nat → ByteArray → Int → List (S75) → Bool → Int → Int → Int → Int → Int → Int → Option (Int × ByteArray × Int × Int × Int × Int × Int × Int × Bool)
  | 0, _, _, _, _, _, _, _, _, _, _ => none
  | k + 1, x0, x2, x3, x22, x136000, x136001, x136002, x136003, x136004, x136005 => if x22 = true then (some (2, (⟨#[]⟩ : ByteArray), 0, 0, 0, 0, 0, 0, false)) else ((spec_QueueFault.f k x0 x136000 x136001 x136002 x136003 x136004 x136005).bind fun t137 => (if t137 = 0 then (if x2 < 0 then (spec_PostChain.j1 k x0 x2 x3 true x136000 x136001 x136002 x136003 x136004 x136005) else (if x2 ≥ x136000 then (spec_PostChain.j1 k x0 x2 x3 true x136000 x136001 x136002 x136003 x136004 x136005) else (if (x3.length : Int) < 1 then (spec_PostChain.j1 k x0 x2 x3 true x136000 x136001 x136002 x136003 x136004 x136005) else (spec_PostChain.j1 k x0 x2 x3 (decide ((x3.length : Int) > x136000)) x136000 x136001 x136002 x136003 x136004 x136005)))) else (spec_PostChain.j1 k x0 x2 x3 true x136000 x136001 x136002 x136003 x136004 x136005)))
def spec_PostChain.j1 : Nat → ByteArray → Int → List (S75) → Bool → Int → Int → Int → Int → Int → Int → Option (Int × ByteArray × Int × Int × Int × Int × Int × Int × Bool)
  | 0, _, _, _, _, _, _, _, _, _, _ => none
  | k + 1, x0, x2, x3, x49, x136000, x136001, x136002, x136003, x136004, x136005 => if x49 = true then (some (1, (⟨#[]⟩ : ByteArray), 0, 0, 0, 0, 0, 0, false)) else (spec_PostChain.l0 k x0 x2 x3 0 x136000 x136001 x136002 x136003 x136004 x136005)
def spec_PostChain.l0 : Nat → ByteArray → Int → List (S75) → Int → Int → Int → Int → Int → Int → Int → Option (Int × ByteArray × Int × Int × Int × Int × Int × Int × Bool)
  | 0, _, _, _, _, _, _, _, _, _, _ => none
  | k + 1, x0, x2, x3, x9, x136000, x136001, x136002, x136003, x136004, x136005 => if x9 < (x3.length : Int) then (if 0 ≤ x9 then ((spec_l01IsWord.f ((rd_T75 x3 x9).f0)).bind fun t139 => (if t139 = true then ((spec_l01IsWord.f ((rd_T75 x3 x9).f1)).bind fun t141 => (if t141 = true then (spec_PostChain.l0 k x0 x2 x3 (wrap64 (x9 + 1)) x136000 x136001 x136002 x136003 x136004 x136005) else (some (1, (⟨#[]⟩ : ByteArray), 0, 0, 0, 0, 0, 0, false)))) else (some (1, (⟨#[]⟩ : ByteArray), 0, 0, 0, 0, 0, 0, false)))) else (none)) else (spec_PostChain.l1 k x0 x2 x3 0 x136000 x136001 x136002 x136003 x136004 x136005)
def spec_PostChain.l1 : Nat → ByteArray → Int → List (S75) → Int → Int → Int → Int → Int → Int → Int → Option (Int × ByteArray × Int × Int × Int × Int × Int × Int × Bool)
  | 0, _, _, _, _, _, _, _, _, _, _ => none
  | k + 1, x0, x2, x3, x10, x136000, x136001, x136002, x136003, x136004, x136005 => if x10 < (x3.length : Int) then (if x136000 = 0 then (none) else (if 0 ≤ x10 then ((spec_l01Bool.f ((rd_T75 x3 x10).f2)).bind fun t146 => (if (wrap64 (x10 + 1)) < (x3.length : Int) then (spec_PostChain.j4 k x0 x2 x3 x10 (wrap64 (x136001 + (wrap64 (16 * (Int.tmod (wrap64 (x2 + x10)) x136000))))) (wrap64 ((wrap64 (2 * t146)) + 1)) (Int.tmod (wrap64 ((wrap64 (x2 + x10)) + 1)) x136000) x136000 x136001 x136002 x136003 x136004 x136005) else (spec_PostChain.j4 k x0 x2 x3 x10 (wrap64 (x136001 + (wrap64 (16 * (Int.tmod (wrap64 (x2 + x10)) x136000))))) (wrap64 (2 * t146)) 0 x136000 x136001 x136002 x136003 x136004 x136005))) else (none))) else ((spec_l01Word.f x0 (wrap64 (x136002 + 4))).bind fun t142 => (if x136000 = 0 then (none) else ((spec_SetWord.f x0 (wrap64 ((wrap64 (x136002 + 8)) + (wrap64 (4 * (Int.tmod (Int.tmod t142 65536) x136000))))) x2).bind fun t143 => ((spec_SetWord.f t143 (wrap64 (x136002 + 4)) (Int.tmod (wrap64 ((Int.tmod t142 65536) + 1)) 65536)).bind fun t144 => (some (0, t144, x136000, x136001, x136002, x136003, x136004, x136005, false))))))
def spec_PostChain.j4 : Nat → ByteArray → Int → List (S75) → Int → Int → Int → Int → Int → Int → Int → Int → Int → Int → Option (Int × ByteArray × Int × Int × Int × Int × Int × Int × Bool)
  | 0, _, _, _, _, _, _, _, _, _, _, _, _, _ => none
  | k + 1, x0, x2, x3, x10, x11, x12, x13, x136000, x136001, x136002, x136003, x136004, x136005 => if 0 ≤ x10 then (if x10 < (x3.length : Int) then ((spec_SetWord.f x0 x11 ((rd_T75 x3 x10).f0)).bind fun t148 => ((spec_SetWord.f t148 (wrap64 (x11 + 4)) ((rd_T75 x3 x10).f1)).bind fun t150 => ((spec_SetWord.f t150 (wrap64 (x11 + 8)) x12).bind fun t151 => ((spec_SetWord.f t151 (wrap64 (x11 + 12)) x13).bind fun t152 => (spec_PostChain.l1 k t152 x2 x3 (wrap64 (x10 + 1)) x136000 x136001 x136002 x136003 x136004 x136005))))) else (none)) else (none)
end
def spec_PostChain.f (k : Nat) (a0 : ByteArray) (a1_0 : Int) (a1_1 : Int) (a1_2 : Int) (a1_3 : Int) (a1_4 : Int) (a1_5 : Int) (a2 : Int) (l3 : List (S75)) : Option (Int × ByteArray × Int × Int × Int × Int × Int × Int × Bool) := if (l3.length : Int) > 1000 then (spec_PostChain.j0 k a0 a2 l3 true a1_0 a1_1 a1_2 a1_3 a1_4 a1_5) else (spec_PostChain.j0 k a0 a2 l3 (decide ((a0.size : Int) > 65536)) a1_0 a1_1 a1_2 a1_3 a1_4 a1_5)
theorem spec_PostChain.mono_l : ∀ k, (∀ y0 y1 y2 y3 y4 y5 y6 y7 y8 y9, LeO (spec_PostChain.j0 k y0 y1 y2 y3 y4 y5 y6 y7 y8 y9) (spec_PostChain.j0 (k + 1) y0 y1 y2 y3 y4 y5 y6 y7 y8 y9)) ∧ (∀ y0 y1 y2 y3 y4 y5 y6 y7 y8 y9, LeO (spec_PostChain.j1 k y0 y1 y2 y3 y4 y5 y6 y7 y8 y9) (spec_PostChain.j1 (k + 1) y0 y1 y2 y3 y4 y5 y6 y7 y8 y9)) ∧ (∀ y0 y1 y2 y3 y4 y5 y6 y7 y8 y9, LeO (spec_PostChain.l0 k y0 y1 y2 y3 y4 y5 y6 y7 y8 y9) (spec_PostChain.l0 (k + 1) y0 y1 y2 y3 y4 y5 y6 y7 y8 y9)) ∧ (∀ y0 y1 y2 y3 y4 y5 y6 y7 y8 y9, LeO (spec_PostChain.l1 k y0 y1 y2 y3 y4 y5 y6 y7 y8 y9) (spec_PostChain.l1 (k + 1) y0 y1 y2 y3 y4 y5 y6 y7 y8 y9)) ∧ (∀ y0 y1 y2 y3 y4 y5 y6 y7 y8 y9 y10 y11 y12, LeO (spec_PostChain.j4 k y0 y1 y2 y3 y4 y5 y6 y7 y8 y9 y10 y11 y12) (spec_PostChain.j4 (k + 1) y0 y1 y2 y3 y4 y5 y6 y7 y8 y9 y10 y11 y12))
  | 0 => ⟨fun _ _ _ _ _ _ _ _ _ _ r h => by simp [spec_PostChain.j0] at h, fun _ _ _ _ _ _ _ _ _ _ r h => by simp [spec_PostChain.j1] at h, fun _ _ _ _ _ _ _ _ _ _ r h => by simp [spec_PostChain.l0] at h, fun _ _ _ _ _ _ _ _ _ _ r h => by simp [spec_PostChain.l1] at h, fun _ _ _ _ _ _ _ _ _ _ _ _ _ r h => by simp [spec_PostChain.j4] at h⟩
  | k + 1 => by
    obtain ⟨ih0, ih1, ih2, ih3, ih4⟩ := spec_PostChain.mono_l k
    refine ⟨?_, ?_, ?_, ?_, ?_⟩
    · intro y0 y1 y2 y3 y4 y5 y6 y7 y8 y9
      unfold spec_PostChain.j0
      repeat' first
      | (with_reducible exact ih0 _ _ _ _ _ _ _ _ _ _)
      | (with_reducible exact ih1 _ _ _ _ _ _ _ _ _ _)
      | (with_reducible exact ih2 _ _ _ _ _ _ _ _ _ _)
      | (with_reducible exact ih3 _ _ _ _ _ _ _ _ _ _)
      | (with_reducible exact ih4 _ _ _ _ _ _ _ _ _ _ _ _ _)
      | (with_reducible exact spec_QueueFault.mono _ _ _ _ _ _ _ _)
      | (with_reducible exact LeO.refl _)
      | (with_reducible exact LeO.none _)
      | (with_reducible refine LeO.ite ?_ ?_)
      | (with_reducible refine LeO.bind ?_ (fun _ => ?_))
      | exact ih0 _ _ _ _ _ _ _ _ _ _
      | exact ih1 _ _ _ _ _ _ _ _ _ _
      | exact ih2 _ _ _ _ _ _ _ _ _ _
      | exact ih3 _ _ _ _ _ _ _ _ _ _
      | exact ih4 _ _ _ _ _ _ _ _ _ _ _ _ _
      | exact spec_QueueFault.mono _ _ _ _ _ _ _ _
      | exact LeO.none _
      | refine LeO.ite ?_ ?_
      | refine LeO.bind ?_ (fun _ => ?_)
    · intro y0 y1 y2 y3 y4 y5 y6 y7 y8 y9
      unfold spec_PostChain.j1
      repeat' first
      | (with_reducible exact ih0 _ _ _ _ _ _ _ _ _ _)
      | (with_reducible exact ih1 _ _ _ _ _ _ _ _ _ _)
      | (with_reducible exact ih2 _ _ _ _ _ _ _ _ _ _)
      | (with_reducible exact ih3 _ _ _ _ _ _ _ _ _ _)
      | (with_reducible exact ih4 _ _ _ _ _ _ _ _ _ _ _ _ _)
      | (with_reducible exact spec_QueueFault.mono _ _ _ _ _ _ _ _)
      | (with_reducible exact LeO.refl _)
      | (with_reducible exact LeO.none _)
      | (with_reducible refine LeO.ite ?_ ?_)
      | (with_reducible refine LeO.bind ?_ (fun _ => ?_))
      | exact ih0 _ _ _ _ _ _ _ _ _ _
      | exact ih1 _ _ _ _ _ _ _ _ _ _
      | exact ih2 _ _ _ _ _ _ _ _ _ _
      | exact ih3 _ _ _ _ _ _ _ _ _ _
      | exact ih4 _ _ _ _ _ _ _ _ _ _ _ _ _
      | exact spec_QueueFault.mono _ _ _ _ _ _ _ _
      | exact LeO.none _
      | refine LeO.ite ?_ ?_
      | refine LeO.bind ?_ (fun _ => ?_)
    · intro y0 y1 y2 y3 y4 y5 y6 y7 y8 y9
      unfold spec_PostChain.l0
      repeat' first
      | (with_reducible exact ih0 _ _ _ _ _ _ _ _ _ _)
      | (with_reducible exact ih1 _ _ _ _ _ _ _ _ _ _)
      | (with_reducible exact ih2 _ _ _ _ _ _ _ _ _ _)
      | (with_reducible exact ih3 _ _ _ _ _ _ _ _ _ _)
      | (with_reducible exact ih4 _ _ _ _ _ _ _ _ _ _ _ _ _)
      | (with_reducible exact spec_QueueFault.mono _ _ _ _ _ _ _ _)
      | (with_reducible exact LeO.refl _)
      | (with_reducible exact LeO.none _)
      | (with_reducible refine LeO.ite ?_ ?_)
      | (with_reducible refine LeO.bind ?_ (fun _ => ?_))
      | exact ih0 _ _ _ _ _ _ _ _ _ _
      | exact ih1 _ _ _ _ _ _ _ _ _ _
      | exact ih2 _ _ _ _ _ _ _ _ _ _
      | exact ih3 _ _ _ _ _ _ _ _ _ _
      | exact ih4 _ _ _ _ _ _ _ _ _ _ _ _ _
      | exact spec_QueueFault.mono _ _ _ _ _ _ _ _
      | exact LeO.none _
      | refine LeO.ite ?_ ?_
      | refine LeO.bind ?_ (fun _ => ?_)
    · intro y0 y1 y2 y3 y4 y5 y6 y7 y8 y9
      unfold spec_PostChain.l1
      repeat' first
      | (with_reducible exact ih0 _ _ _ _ _ _ _ _ _ _)
      | (with_reducible exact ih1 _ _ _ _ _ _ _ _ _ _)
      | (with_reducible exact ih2 _ _ _ _ _ _ _ _ _ _)
      | (with_reducible exact ih3 _ _ _ _ _ _ _ _ _ _)
      | (with_reducible exact ih4 _ _ _ _ _ _ _ _ _ _ _ _ _)
      | (with_reducible exact spec_QueueFault.mono _ _ _ _ _ _ _ _)
      | (with_reducible exact LeO.refl _)
      | (with_reducible exact LeO.none _)
      | (with_reducible refine LeO.ite ?_ ?_)
      | (with_reducible refine LeO.bind ?_ (fun _ => ?_))
      | exact ih0 _ _ _ _ _ _ _ _ _ _
      | exact ih1 _ _ _ _ _ _ _ _ _ _
      | exact ih2 _ _ _ _ _ _ _ _ _ _
      | exact ih3 _ _ _ _ _ _ _ _ _ _
      | exact ih4 _ _ _ _ _ _ _ _ _ _ _ _ _
      | exact spec_QueueFault.mono _ _ _ _ _ _ _ _
      | exact LeO.none _
      | refine LeO.ite ?_ ?_
      | refine LeO.bind ?_ (fun _ => ?_)
    · intro y0 y1 y2 y3 y4 y5 y6 y7 y8 y9 y10 y11 y12
      unfold spec_PostChain.j4
      repeat' first
      | (with_reducible exact ih0 _ _ _ _ _ _ _ _ _ _)
      | (with_reducible exact ih1 _ _ _ _ _ _ _ _ _ _)
      | (with_reducible exact ih2 _ _ _ _ _ _ _ _ _ _)
      | (with_reducible exact ih3 _ _ _ _ _ _ _ _ _ _)
      | (with_reducible exact ih4 _ _ _ _ _ _ _ _ _ _ _ _ _)
      | (with_reducible exact spec_QueueFault.mono _ _ _ _ _ _ _ _)
      | (with_reducible exact LeO.refl _)
      | (with_reducible exact LeO.none _)
      | (with_reducible refine LeO.ite ?_ ?_)
      | (with_reducible refine LeO.bind ?_ (fun _ => ?_))
      | exact ih0 _ _ _ _ _ _ _ _ _ _
      | exact ih1 _ _ _ _ _ _ _ _ _ _
      | exact ih2 _ _ _ _ _ _ _ _ _ _
      | exact ih3 _ _ _ _ _ _ _ _ _ _
      | exact ih4 _ _ _ _ _ _ _ _ _ _ _ _ _
      | exact spec_QueueFault.mono _ _ _ _ _ _ _ _
      | exact LeO.none _
      | refine LeO.ite ?_ ?_
      | refine LeO.bind ?_ (fun _ => ?_)
theorem spec_PostChain.mono : ∀ a0 a1 a2 a3 a4 a5 a6 a7 a8 k, LeO (spec_PostChain.f k a0 a1 a2 a3 a4 a5 a6 a7 a8) (spec_PostChain.f (k + 1) a0 a1 a2 a3 a4 a5 a6 a7 a8) := by
  intro a0 a1 a2 a3 a4 a5 a6 a7 a8 k
  obtain ⟨ih0, ih1, ih2, ih3, ih4⟩ := spec_PostChain.mono_l k
  unfold spec_PostChain.f
  repeat' first
      | (with_reducible exact ih0 _ _ _ _ _ _ _ _ _ _)
      | (with_reducible exact ih1 _ _ _ _ _ _ _ _ _ _)
      | (with_reducible exact ih2 _ _ _ _ _ _ _ _ _ _)
      | (with_reducible exact ih3 _ _ _ _ _ _ _ _ _ _)
      | (with_reducible exact ih4 _ _ _ _ _ _ _ _ _ _ _ _ _)
      | (with_reducible exact spec_QueueFault.mono _ _ _ _ _ _ _ _)
      | (with_reducible exact LeO.refl _)
      | (with_reducible exact LeO.none _)
      | (with_reducible refine LeO.ite ?_ ?_)
      | (with_reducible refine LeO.bind ?_ (fun _ => ?_))
      | exact ih0 _ _ _ _ _ _ _ _ _ _
      | exact ih1 _ _ _ _ _ _ _ _ _ _
      | exact ih2 _ _ _ _ _ _ _ _ _ _
      | exact ih3 _ _ _ _ _ _ _ _ _ _
      | exact ih4 _ _ _ _ _ _ _ _ _ _ _ _ _
      | exact spec_QueueFault.mono _ _ _ _ _ _ _ _
      | exact LeO.none _
      | refine LeO.ite ?_ ?_
      | refine LeO.bind ?_ (fun _ => ?_)
def spec_PostChain.T13 : Bool × List (List Nat × List Nat) := (true, [([], []), ([0], [0]), ([], []), ([], []), ([2, 3], [2, 3]), ([], []), ([5], [5]), ([4, 6], [4, 6]), ([7], [7]), ([1, 8], [1, 8]), ([9, 0, 1, 2, 3, 4, 5, 6, 7, 8, 9], [9])])
def spec_PostChain.B13 : List Nat := [0, 1, 0, 0, 12, 0, 32, 124, 252, 511, 1023]
theorem spec_PostChain.tab13 : rtab .any (opsOf Try.f30 13) = spec_PostChain.T13 := by kernel_rfl
theorem spec_PostChain.bits13 : waitsOk spec_PostChain.T13.2 spec_PostChain.B13 = true := by kernel_rfl
def spec_PostChain.T19 : Bool × List (List Nat × List Nat) := (true, [([], []), ([], []), ([], []), ([], []), ([2, 3], [2, 3]), ([4], [4]), ([5], [5]), ([0, 1, 6], [0, 1, 6]), ([], []), ([8], [8]), ([], []), ([], []), ([10, 11], [10, 11]), ([12], [12]), ([13], [13]), ([7, 9, 14, 7], [7, 9, 14]), ([15, 15, 0, 1, 2, 3, 4, 5, 6, 7, 8, 9, 10, 11, 12, 13, 14, 15], [0, 15])])
def spec_PostChain.B19 : List Nat := [0, 0, 0, 0, 12, 28, 60, 127, 0, 256, 0, 0, 3072, 7168, 15360, 32767, 65535]
theorem spec_PostChain.tab19 : rtab .any (opsOf Try.f30 19) = spec_PostChain.T19 := by kernel_rfl
theorem spec_PostChain.bits19 : waitsOk spec_PostChain.T19.2 spec_PostChain.B19 = true := by kernel_rfl
def spec_PostChain.T22 : Bool × List (List Nat × List Nat) := (true, [([], []), ([], []), ([1], [1]), ([2], [2]), ([], []), ([], []), ([5], [5]), ([4, 6], [4, 6]), ([7], [7]), ([3, 8], [3, 8]), ([], []), ([0, 9, 10], [0, 9, 10]), ([11, 11, 0, 1, 2, 3, 4, 5, 6, 7, 8, 9, 10, 11], [0, 11])])
def spec_PostChain.B22 : List Nat := [0, 0, 2, 6, 0, 0, 32, 112, 240, 510, 0, 2047, 4095]
theorem spec_PostChain.tab22 : rtab .any (opsOf Try.f30 22) = spec_PostChain.T22 := by kernel_rfl
theorem spec_PostChain.bits22 : waitsOk spec_PostChain.T22.2 spec_PostChain.B22 = true := by kernel_rfl
def spec_PostChain.T23 : Bool × List (List Nat × List Nat) := (true, [([], []), ([], []), ([1], [1]), ([2], [2]), ([], []), ([4], [4]), ([5], [5]), ([0, 3, 6], [0, 3, 6]), ([], []), ([7, 8], [7, 8]), ([9, 7, 0, 1, 2, 3, 4, 5, 6, 7, 8, 9], [9])])
def spec_PostChain.B23 : List Nat := [0, 0, 2, 6, 0, 16, 48, 127, 0, 511, 1023]
theorem spec_PostChain.tab23 : rtab .any (opsOf Try.f30 23) = spec_PostChain.T23 := by kernel_rfl
theorem spec_PostChain.bits23 : waitsOk spec_PostChain.T23.2 spec_PostChain.B23 = true := by kernel_rfl
set_option maxHeartbeats 8000000 in
set_option maxRecDepth 100000 in
theorem spec_PostChain.calls (k : Nat) (a0 : ByteArray) (a1_0 : Int) (a1_1 : Int) (a1_2 : Int) (a1_3 : Int) (a1_4 : Int) (a1_5 : Int) (a2 : Int) (A3 : Option Addr) (c3 : Nat) (l3 : List (S75)) (r1 : Int) (r2 : ByteArray) (r3 : Int) (r4 : Int) (r5 : Int) (r6 : Int) (r7 : Int) (r8 : Int) (r9 : Bool) (w : World) (hr3 : Kd.C k75 w A3 l3.length l3) (hc3 : l3.length ≤ c3) (h : spec_PostChain.f k a0 a1_0 a1_1 a1_2 a1_3 a1_4 a1_5 a2 l3 = some (r1, r2, r3, r4, r5, r6, r7, r8, r9)) :
    Calls Try.prog 30 #[.string a0, .agg #[.int .i64 a1_0, .int .i64 a1_1, .int .i64 a1_2, .int .i64 a1_3, .int .i64 a1_4, .int .i64 a1_5], .int .i64 a2, .slice A3 l3.length c3] w fun e w' => e = .returned (.agg #[.int .i64 r1, .string r2, .int .i64 r3, .int .i64 r4, .int .i64 r5, .int .i64 r6, .int .i64 r7, .int .i64 r8, .bool r9]) ∧ Below w.heap.size w w' := by
  have hu31 := Try.underlying31
  have hu40 := Try.underlying40
  have HR3 := Aside0.mk hr3
  have HC3 := Aside0.mk hc3
  clear hr3 hc3
  have HB := Aside0.mk (Below.refl w.heap.size w)
  have H : (if (l3.length : Int) > 1000 then (spec_PostChain.j0 k a0 a2 l3 true a1_0 a1_1 a1_2 a1_3 a1_4 a1_5) else (spec_PostChain.j0 k a0 a2 l3 (decide ((a0.size : Int) > 65536)) a1_0 a1_1 a1_2 a1_3 a1_4 a1_5)) = some (r1, r2, r3, r4, r5, r6, r7, r8, r9) := h
  clear h
  have HC5 := Aside0.mk H
  clear H
  go_enter Try.func30, Try.ntmps30
  go_upto_region 1 with (first | ((with_reducible refine gate_dst (N := 5) rfl ?_); (try (refine gate_guard (by rfl) ?_; dsimp only)); refine box_event ?hg (N := 5) ?hd (cs := #[.int .i64 a1_0, .int .i64 a1_1, .int .i64 a1_2, .int .i64 a1_3, .int .i64 a1_4, .int .i64 a1_5]) (t := 31) ?hr ?_; (case hd => rfl); (case hg => rfl); (case hr => first | (go_simp; done) | (go_simp; rfl)); intro gb135 hg w6 hbox hb; have n0_ := Aside0.mk (below_step (by repeat (first | (with_reducible first | exact HB.out | apply below_alloc | apply pw_below_drewN | apply below_drew1) | exact HB.out)) hb); have n1_ := Aside0.mk (hbox); have n2_ := Aside0.mk ((by rw [hg]; exact (below_size (by repeat (first | (with_reducible first | exact HB.out | apply below_alloc | apply pw_below_drewN | apply below_drew1) | exact HB.out))) : w.heap.size ≤ gb135)); have n3_ := Aside0.mk ((by rw [hg]; exact (below_size (by repeat (first | (with_reducible first | exact HB.out | apply below_alloc | apply pw_below_drewN | apply below_drew1) | exact HB.out))) : w.heap.size ≤ gb135)); clear HB; have HB := n0_; have BK135 := n1_; have GW135 := n2_; have GE135 := n3_; clear n0_ n1_ n2_ n3_; clear hb hbox hg) | ((with_reducible refine gate_dst (N := 8) rfl ?_); (try (refine gate_guard (by rfl) ?_; dsimp only)); refine box_event ?hg (N := 8) ?hd (cs := #[.int .i64 0, .string (⟨#[]⟩ : ByteArray), .int .i64 0, .int .i64 0, .int .i64 0, .int .i64 0, .int .i64 0, .int .i64 0, .bool false]) (t := 40) ?hr ?_; (case hd => rfl); (case hg => rfl); (case hr => first | (go_simp; done) | (go_simp; rfl)); intro gb136 hg w7 hbox hb; have n0_ := Aside0.mk (blk_below (g := gb135) (o := .cells #[.int .i64 a1_0, .int .i64 a1_1, .int .i64 a1_2, .int .i64 a1_3, .int .i64 a1_4, .int .i64 a1_5] 31 (0, 0)) (by (with_reducible repeat (first | refine blk_drewN ?_ _ | refine blk_drew ?_ | refine blk_alloc ?_ _)); exact BK135.out) hb); have n1_ := Aside0.mk (below_step (by repeat (first | (with_reducible first | exact HB.out | apply below_alloc | apply pw_below_drewN | apply below_drew1 | refine below_set ?_ GE135.out) | exact HB.out)) hb); have n2_ := Aside0.mk (hbox); have n3_ := Aside0.mk ((by rw [hg]; exact (below_size (by repeat (first | (with_reducible first | exact HB.out | apply below_alloc | apply pw_below_drewN | apply below_drew1 | refine below_set ?_ GE135.out) | exact HB.out))) : w.heap.size ≤ gb136)); have n4_ := Aside0.mk ((by rw [hg]; exact (below_size (by repeat (first | (with_reducible first | exact HB.out | apply below_alloc | apply pw_below_drewN | apply below_drew1 | refine below_set ?_ GE135.out) | exact HB.out))) : w.heap.size ≤ gb136)); have n5_ := Aside0.mk ((by rw [hg]; exact Nat.ne_of_lt (blk_lt (g := gb135) (o := .cells #[.int .i64 a1_0, .int .i64 a1_1, .int .i64 a1_2, .int .i64 a1_3, .int .i64 a1_4, .int .i64 a1_5] 31 (0, 0)) (by (with_reducible repeat (first | refine blk_drewN ?_ _ | refine blk_drew ?_ | refine blk_alloc ?_ _)); exact BK135.out)) : gb135 ≠ gb136)); have n6_ := Aside0.mk ((by rw [hg]; exact Nat.ne_of_gt (blk_lt (g := gb135) (o := .cells #[.int .i64 a1_0, .int .i64 a1_1, .int .i64 a1_2, .int .i64 a1_3, .int .i64 a1_4, .int .i64 a1_5] 31 (0, 0)) (by (with_reducible repeat (first | refine blk_drewN ?_ _ | refine blk_drew ?_ | refine blk_alloc ?_ _)); exact BK135.out)) : gb136 ≠ gb135)); clear BK135; clear HB; have BK135 := n0_; have HB := n1_; have BK136 := n2_; have GW136 := n3_; have GE136 := n4_; have NB135_136 := n5_; have NB136_135 := n6_; clear n0_ n1_ n2_ n3_ n4_ n5_ n6_; clear hb hbox hg))
  (try simp only [Act.put, List.setIfInBounds_toArray, List.set_cons_zero, List.set_cons_succ])
  go_cut [22] (fun v22 wc => ∃ (kq : Nat) (x22_4 : Bool), v22 = .bool x22_4 ∧ Aside0 (spec_PostChain.j0 kq a0 a2 l3 x22_4 a1_0 a1_1 a1_2 a1_3 a1_4 a1_5 = some (r1, r2, r3, r4, r5, r6, r7, r8, r9)) ∧ Aside0 (kq ≤ k) ∧ Aside0 (wc.heap[gb135]? = some (.cells #[.int .i64 a1_0, .int .i64 a1_1, .int .i64 a1_2, .int .i64 a1_3, .int .i64 a1_4, .int .i64 a1_5] 31 (0, 0))) ∧ Aside0 (wc.heap[gb136]? = some (.cells #[.int .i64 0, .string (⟨#[]⟩ : ByteArray), .int .i64 0, .int .i64 0, .int .i64 0, .int .i64 0, .int .i64 0, .int .i64 0, .bool false] 40 (0, 0))) ∧ Aside0 (Below w.heap.size w wc))
  case first =>
    have H := HC5.out
    clear HC5
    by_cases c8 : (l3.length : Int) > 1000
    · rw [if_pos c8] at H
      have c8b0 : decide (1000 < (l3.length : Int)) = true := decide_eq_true c8
      have c8b1 : decide (1000 < l3.length) = true := decide_eq_true (by omega)
      clear c8
      (first | rw [c8b0] | (simp only [i64_w, i32_w]; rw [c8b0]) | skip)
      have H' := Aside0.mk H
      clear H
      go_wp2
      go_meet
      case rel => exact ⟨_, (true), (by first | rfl | (simp; done) | (simp [*]; done)), H', ⟨by first | omega | exact Nat.le_refl _⟩, ⟨by (with_reducible repeat (first | refine blk_drewN ?_ _ | refine blk_drew ?_ | refine blk_alloc ?_ _)); exact BK135.out⟩, ⟨by (with_reducible repeat (first | refine blk_drewN ?_ _ | refine blk_drew ?_ | refine blk_alloc ?_ _)); exact BK136.out⟩, ⟨by repeat (first | (with_reducible first | exact HB.out | apply below_alloc | apply pw_below_drewN | apply below_drew1 | refine below_set ?_ GE135.out | refine below_set ?_ GE136.out) | exact HB.out)⟩⟩
    · rw [if_neg c8] at H
      have c8b0 : decide (1000 < (l3.length : Int)) = false := decide_eq_false c8
      have c8b1 : decide (1000 < l3.length) = false := decide_eq_false (by omega)
      clear c8
      (first | rw [c8b0] | (simp only [i64_w, i32_w]; rw [c8b0]) | skip)
      have H' := Aside0.mk H
      clear H
      go_wp2
      go_meet
      case rel => exact ⟨_, (decide ((a0.size : Int) > 65536)), (by first | rfl | (simp; done) | (simp [*]; done)), H', ⟨by first | omega | exact Nat.le_refl _⟩, ⟨by (with_reducible repeat (first | refine blk_drewN ?_ _ | refine blk_drew ?_ | refine blk_alloc ?_ _)); exact BK135.out⟩, ⟨by (with_reducible repeat (first | refine blk_drewN ?_ _ | refine blk_drew ?_ | refine blk_alloc ?_ _)); exact BK136.out⟩, ⟨by repeat (first | (with_reducible first | exact HB.out | apply below_alloc | apply pw_below_drewN | apply below_drew1 | refine below_set ?_ GE135.out | refine below_set ?_ GE136.out) | exact HB.out)⟩⟩
  case rest =>
    clear HC5
    try clear p2
    try clear c3
    try clear c8
    try clear c8b0
    try clear c8b1
    obtain ⟨kq, x22_4, rfl, HA, HJ4, BK135, BK136, HB⟩ := hcut
    cases kq with
    | zero => exact absurd HA.out (by simp [spec_PostChain.j0])
    | succ kj4 =>
      have H := HA.out
      clear HA
      simp only [spec_PostChain.j0] at H
      by_cases c9 : x22_4 = true
      · subst c9
        have H1 : (some (2, (⟨#[]⟩ : ByteArray), 0, 0, 0, 0, 0, 0, false)) = some (r1, r2, r3, r4, r5, r6, r7, r8, r9) := by rw [if_pos rfl] at H; exact H
        clear H
        have H := H1
        clear H1
        simp only [Option.some.injEq, Prod.mk.injEq] at H
        obtain ⟨rfl, rfl, rfl, rfl, rfl, rfl, rfl, rfl, rfl⟩ := H
        have hnb10 := NB136_135.out
        have hnc10 := NB135_136.out
        have hcz11_0 : wc.cell? ⟨gb136, 0, none⟩ = some (.int .i64 0) := (blk_cell BK136.out 0).trans rfl
        have hcz11_1 : wc.cell? ⟨gb136, 1, none⟩ = some (.string (⟨#[]⟩ : ByteArray)) := (blk_cell BK136.out 1).trans rfl
        have hcz11_2 : wc.cell? ⟨gb136, 2, none⟩ = some (.int .i64 0) := (blk_cell BK136.out 2).trans rfl
        have hcz11_3 : wc.cell? ⟨gb136, 3, none⟩ = some (.int .i64 0) := (blk_cell BK136.out 3).trans rfl
        have hcz11_4 : wc.cell? ⟨gb136, 4, none⟩ = some (.int .i64 0) := (blk_cell BK136.out 4).trans rfl
        have hcz11_5 : wc.cell? ⟨gb136, 5, none⟩ = some (.int .i64 0) := (blk_cell BK136.out 5).trans rfl
        have hcz11_6 : wc.cell? ⟨gb136, 6, none⟩ = some (.int .i64 0) := (blk_cell BK136.out 6).trans rfl
        have hcz11_7 : wc.cell? ⟨gb136, 7, none⟩ = some (.int .i64 0) := (blk_cell BK136.out 7).trans rfl
        have hcz11_8 : wc.cell? ⟨gb136, 8, none⟩ = some (.bool false) := (blk_cell BK136.out 8).trans rfl
        have hfz11_0 := blk_frozen BK136.out 0
        have hfz11_1 := blk_frozen BK136.out 1
        have hfz11_2 := blk_frozen BK136.out 2
        have hfz11_3 := blk_frozen BK136.out 3
        have hfz11_4 := blk_frozen BK136.out 4
        have hfz11_5 := blk_frozen BK136.out 5
        have hfz11_6 := blk_frozen BK136.out 6
        have hfz11_7 := blk_frozen BK136.out 7
        have hfz11_8 := blk_frozen BK136.out 8
        go_wp2
        refine bodyPost_ret (results_cell_row rfl _ _ gb136 40 #[.int .i64 2, .string (⟨#[]⟩ : ByteArray), .int .i64 0, .int .i64 0, .int .i64 0, .int .i64 0, .int .i64 0, .int .i64 0, .bool false] (0, 0) _ rfl (by (with_reducible repeat (first | refine blk_drewN ?_ _ | refine blk_drew ?_ | refine blk_alloc ?_ _)); refine blk_put (cs := #[.int .i64 2, .string (⟨#[]⟩ : ByteArray), .int .i64 0, .int .i64 0, .int .i64 0, .int .i64 0, .int .i64 0, .int .i64 0, .bool false]) ?_ 8 _ rfl; (with_reducible repeat (first | refine blk_drewN ?_ _ | refine blk_drew ?_ | refine blk_alloc ?_ _)); refine blk_put (cs := #[.int .i64 2, .string (⟨#[]⟩ : ByteArray), .int .i64 0, .int .i64 0, .int .i64 0, .int .i64 0, .int .i64 0, .int .i64 0, .bool false]) ?_ 7 _ rfl; (with_reducible repeat (first | refine blk_drewN ?_ _ | refine blk_drew ?_ | refine blk_alloc ?_ _)); refine blk_put (cs := #[.int .i64 2, .string (⟨#[]⟩ : ByteArray), .int .i64 0, .int .i64 0, .int .i64 0, .int .i64 0, .int .i64 0, .int .i64 0, .bool false]) ?_ 6 _ rfl; (with_reducible repeat (first | refine blk_drewN ?_ _ | refine blk_drew ?_ | refine blk_alloc ?_ _)); refine blk_put (cs := #[.int .i64 2, .string (⟨#[]⟩ : ByteArray), .int .i64 0, .int .i64 0, .int .i64 0, .int .i64 0, .int .i64 0, .int .i64 0, .bool false]) ?_ 5 _ rfl; (with_reducible repeat (first | refine blk_drewN ?_ _ | refine blk_drew ?_ | refine blk_alloc ?_ _)); refine blk_put (cs := #[.int .i64 2, .string (⟨#[]⟩ : ByteArray), .int .i64 0, .int .i64 0, .int .i64 0, .int .i64 0, .int .i64 0, .int .i64 0, .bool false]) ?_ 4 _ rfl; (with_reducible repeat (first | refine blk_drewN ?_ _ | refine blk_drew ?_ | refine blk_alloc ?_ _)); refine blk_put (cs := #[.int .i64 2, .string (⟨#[]⟩ : ByteArray), .int .i64 0, .int .i64 0, .int .i64 0, .int .i64 0, .int .i64 0, .int .i64 0, .bool false]) ?_ 3 _ rfl; (with_reducible repeat (first | refine blk_drewN ?_ _ | refine blk_drew ?_ | refine blk_alloc ?_ _)); refine blk_put (cs := #[.int .i64 2, .string (⟨#[]⟩ : ByteArray), .int .i64 0, .int .i64 0, .int .i64 0, .int .i64 0, .int .i64 0, .int .i64 0, .bool false]) ?_ 2 _ rfl; (with_reducible repeat (first | refine blk_drewN ?_ _ | refine blk_drew ?_ | refine blk_alloc ?_ _)); refine blk_put (cs := #[.int .i64 2, .string (⟨#[]⟩ : ByteArray), .int .i64 0, .int .i64 0, .int .i64 0, .int .i64 0, .int .i64 0, .int .i64 0, .bool false]) ?_ 1 _ rfl; (with_reducible repeat (first | refine blk_drewN ?_ _ | refine blk_drew ?_ | refine blk_alloc ?_ _)); refine blk_put (cs := #[.int .i64 0, .string (⟨#[]⟩ : ByteArray), .int .i64 0, .int .i64 0, .int .i64 0, .int .i64 0, .int .i64 0, .int .i64 0, .bool false]) ?_ 0 _ rfl; (with_reducible repeat (first | refine blk_drewN ?_ _ | refine blk_drew ?_ | refine blk_alloc ?_ _)); exact BK136.out) Try.underlying40 rfl (by kernel_rfl)) rfl ?_
        exact ⟨by first | rfl | (simp [errW_none, errW_some] <;> rfl) | (simp [*, errW_none, errW_some] <;> rfl), by repeat (first | (with_reducible first | exact HB.out | apply below_alloc | apply pw_below_drewN | apply below_drew1 | refine below_set ?_ GE135.out | refine below_set ?_ GE136.out) | exact HB.out)⟩
      · replace c9 := Bool.eq_false_iff.mpr c9
        subst c9
        have H1 : ((spec_QueueFault.f kj4 a0 a1_0 a1_1 a1_2 a1_3 a1_4 a1_5).bind fun t137 => (if t137 = 0 then (if a2 < 0 then (spec_PostChain.j1 kj4 a0 a2 l3 true a1_0 a1_1 a1_2 a1_3 a1_4 a1_5) else (if a2 ≥ a1_0 then (spec_PostChain.j1 kj4 a0 a2 l3 true a1_0 a1_1 a1_2 a1_3 a1_4 a1_5) else (if (l3.length : Int) < 1 then (spec_PostChain.j1 kj4 a0 a2 l3 true a1_0 a1_1 a1_2 a1_3 a1_4 a1_5) else (spec_PostChain.j1 kj4 a0 a2 l3 (decide ((l3.length : Int) > a1_0)) a1_0 a1_1 a1_2 a1_3 a1_4 a1_5)))) else (spec_PostChain.j1 kj4 a0 a2 l3 true a1_0 a1_1 a1_2 a1_3 a1_4 a1_5))) = some (r1, r2, r3, r4, r5, r6, r7, r8, r9) := by rw [if_neg (show ¬ (false = true) by decide)] at H; exact H
        clear H
        have H := H1
        clear H1
        have HC12 := Aside0.mk H
        clear H
        go_upto_region 3 with (fail)
        go_cut [49] (fun v49 wc => ∃ (kq : Nat) (x49_11 : Bool), v49 = .bool x49_11 ∧ Aside0 (spec_PostChain.j1 kq a0 a2 l3 x49_11 a1_0 a1_1 a1_2 a1_3 a1_4 a1_5 = some (r1, r2, r3, r4, r5, r6, r7, r8, r9)) ∧ Aside0 (kq ≤ kj4) ∧ Aside0 (wc.heap[gb135]? = some (.cells #[.int .i64 a1_0, .int .i64 a1_1, .int .i64 a1_2, .int .i64 a1_3, .int .i64 a1_4, .int .i64 a1_5] 31 (0, 0))) ∧ Aside0 (wc.heap[gb136]? = some (.cells #[.int .i64 0, .string (⟨#[]⟩ : ByteArray), .int .i64 0, .int .i64 0, .int .i64 0, .int .i64 0, .int .i64 0, .int .i64 0, .bool false] 40 (0, 0))) ∧ Aside0 (Below w.heap.size w wc))
        case first =>
          have H := HC12.out
          clear HC12
          replace H := Option.bind_eq_some_iff.mp H
          obtain ⟨t137, A130, H⟩ := H
          replace H : (if t137 = 0 then (if a2 < 0 then (spec_PostChain.j1 kj4 a0 a2 l3 true a1_0 a1_1 a1_2 a1_3 a1_4 a1_5) else (if a2 ≥ a1_0 then (spec_PostChain.j1 kj4 a0 a2 l3 true a1_0 a1_1 a1_2 a1_3 a1_4 a1_5) else (if (l3.length : Int) < 1 then (spec_PostChain.j1 kj4 a0 a2 l3 true a1_0 a1_1 a1_2 a1_3 a1_4 a1_5) else (spec_PostChain.j1 kj4 a0 a2 l3 (decide ((l3.length : Int) > a1_0)) a1_0 a1_1 a1_2 a1_3 a1_4 a1_5)))) else (spec_PostChain.j1 kj4 a0 a2 l3 true a1_0 a1_1 a1_2 a1_3 a1_4 a1_5)) = some (r1, r2, r3, r4, r5, r6, r7, r8, r9) := H
          have A13 := Aside0.mk A130
          clear A130
          by_cases c14 : t137 = 0
          · rw [if_pos c14] at H
            have c14b0 : (t137 == 0) = true := beq_iff_eq.mpr c14
            have c14b1 : (t137 != 0) = false := bne_eq_false_iff_eq.mpr c14
            clear c14
            (first | rw [c14b0] | (simp only [i64_w, i32_w]; rw [c14b0]) | skip)
            by_cases c15 : a2 < 0
            · rw [if_pos c15] at H
              have c15b0 : decide (a2 < 0) = true := decide_eq_true c15
              clear c15
              have H' := Aside0.mk H
              clear H
              have hnb16 := NB135_136.out
              have hnc16 := NB136_135.out
              have hcz17_0 : wc.cell? ⟨gb135, 0, none⟩ = some (.int .i64 a1_0) := (blk_cell BK135.out 0).trans rfl
              have hcz17_1 : wc.cell? ⟨gb135, 1, none⟩ = some (.int .i64 a1_1) := (blk_cell BK135.out 1).trans rfl
              have hcz17_2 : wc.cell? ⟨gb135, 2, none⟩ = some (.int .i64 a1_2) := (blk_cell BK135.out 2).trans rfl
              have hcz17_3 : wc.cell? ⟨gb135, 3, none⟩ = some (.int .i64 a1_3) := (blk_cell BK135.out 3).trans rfl
              have hcz17_4 : wc.cell? ⟨gb135, 4, none⟩ = some (.int .i64 a1_4) := (blk_cell BK135.out 4).trans rfl
              have hcz17_5 : wc.cell? ⟨gb135, 5, none⟩ = some (.int .i64 a1_5) := (blk_cell BK135.out 5).trans rfl
              have hfz17_0 := blk_frozen BK135.out 0
              have hfz17_1 := blk_frozen BK135.out 1
              have hfz17_2 := blk_frozen BK135.out 2
              have hfz17_3 := blk_frozen BK135.out 3
              have hfz17_4 := blk_frozen BK135.out 4
              have hfz17_5 := blk_frozen BK135.out 5
              go_wp2_with (first | ((with_reducible refine gate_callee (f := 15) rfl ?_); refine goesL_ (some 26) rfl rfl Try.func15 (by kernel_rfl) rfl #[.string a0, .agg #[.int .i64 a1_0, .int .i64 a1_1, .int .i64 a1_2, .int .i64 a1_3, .int .i64 a1_4, .int .i64 a1_5]] rfl (by (try simp only [List.map_toArray, List.map_cons, List.map_nil]); first | done | rfl | (simp only [List.length_drop, List.length_take]; rfl)) ?_; (with_reducible refine (spec_QueueFault.calls kj4 a0 a1_0 a1_1 a1_2 a1_3 a1_4 a1_5 t137 _ A13.out).mono ?_); rintro e w18 ⟨rfl, hb⟩; refine ⟨_, rfl, ?_⟩; have n0_ := Aside0.mk (blk_below (g := gb135) (o := .cells #[.int .i64 a1_0, .int .i64 a1_1, .int .i64 a1_2, .int .i64 a1_3, .int .i64 a1_4, .int .i64 a1_5] 31 (0, 0)) (by (with_reducible repeat (first | refine blk_drewN ?_ _ | refine blk_drew ?_ | refine blk_alloc ?_ _)); exact BK135.out) hb); have n1_ := Aside0.mk (blk_below (g := gb136) (o := .cells #[.int .i64 0, .string (⟨#[]⟩ : ByteArray), .int .i64 0, .int .i64 0, .int .i64 0, .int .i64 0, .int .i64 0, .int .i64 0, .bool false] 40 (0, 0)) (by (with_reducible repeat (first | refine blk_drewN ?_ _ | refine blk_drew ?_ | refine blk_alloc ?_ _)); exact BK136.out) hb); have n2_ := Aside0.mk (below_step (by repeat (first | (with_reducible first | exact HB.out | apply below_alloc | apply pw_below_drewN | apply below_drew1 | refine below_set ?_ GE135.out | refine below_set ?_ GE136.out) | exact HB.out)) hb); clear BK135; clear BK136; clear HB; have BK135 := n0_; have BK136 := n1_; have HB := n2_; clear n0_ n1_ n2_; (try clear hb); (try clear hb2); (try clear hk); (try clear hi)))
              go_meet
              case rel => exact ⟨_, (true), (by first | rfl | (simp; done) | (simp [*]; done)), H', ⟨by have := HJ4.out; first | omega | exact Nat.le_refl _⟩, ⟨by (with_reducible repeat (first | refine blk_drewN ?_ _ | refine blk_drew ?_ | refine blk_alloc ?_ _)); exact BK135.out⟩, ⟨by (with_reducible repeat (first | refine blk_drewN ?_ _ | refine blk_drew ?_ | refine blk_alloc ?_ _)); exact BK136.out⟩, ⟨by repeat (first | (with_reducible first | exact HB.out | apply below_alloc | apply pw_below_drewN | apply below_drew1 | refine below_set ?_ GE135.out | refine below_set ?_ GE136.out) | exact HB.out)⟩⟩
            · rw [if_neg c15] at H
              have c15b0 : decide (a2 < 0) = false := decide_eq_false c15
              clear c15
              by_cases c19 : a2 ≥ a1_0
              · rw [if_pos c19] at H
                have c19b0 : decide (a1_0 ≤ a2) = true := decide_eq_true c19
                clear c19
                have H' := Aside0.mk H
                clear H
                have hnb20 := NB135_136.out
                have hnc20 := NB136_135.out
                have hcz21_0 : wc.cell? ⟨gb135, 0, none⟩ = some (.int .i64 a1_0) := (blk_cell BK135.out 0).trans rfl
                have hcz21_1 : wc.cell? ⟨gb135, 1, none⟩ = some (.int .i64 a1_1) := (blk_cell BK135.out 1).trans rfl
                have hcz21_2 : wc.cell? ⟨gb135, 2, none⟩ = some (.int .i64 a1_2) := (blk_cell BK135.out 2).trans rfl
                have hcz21_3 : wc.cell? ⟨gb135, 3, none⟩ = some (.int .i64 a1_3) := (blk_cell BK135.out 3).trans rfl
                have hcz21_4 : wc.cell? ⟨gb135, 4, none⟩ = some (.int .i64 a1_4) := (blk_cell BK135.out 4).trans rfl
                have hcz21_5 : wc.cell? ⟨gb135, 5, none⟩ = some (.int .i64 a1_5) := (blk_cell BK135.out 5).trans rfl
                have hfz21_0 := blk_frozen BK135.out 0
                have hfz21_1 := blk_frozen BK135.out 1
                have hfz21_2 := blk_frozen BK135.out 2
                have hfz21_3 := blk_frozen BK135.out 3
                have hfz21_4 := blk_frozen BK135.out 4
                have hfz21_5 := blk_frozen BK135.out 5
                go_wp2_with (first | ((with_reducible refine gate_callee (f := 15) rfl ?_); refine goesL_ (some 26) rfl rfl Try.func15 (by kernel_rfl) rfl #[.string a0, .agg #[.int .i64 a1_0, .int .i64 a1_1, .int .i64 a1_2, .int .i64 a1_3, .int .i64 a1_4, .int .i64 a1_5]] rfl (by (try simp only [List.map_toArray, List.map_cons, List.map_nil]); first | done | rfl | (simp only [List.length_drop, List.length_take]; rfl)) ?_; (with_reducible refine (spec_QueueFault.calls kj4 a0 a1_0 a1_1 a1_2 a1_3 a1_4 a1_5 t137 _ A13.out).mono ?_); rintro e w22 ⟨rfl, hb⟩; refine ⟨_, rfl, ?_⟩; have n0_ := Aside0.mk (blk_below (g := gb135) (o := .cells #[.int .i64 a1_0, .int .i64 a1_1, .int .i64 a1_2, .int .i64 a1_3, .int .i64 a1_4, .int .i64 a1_5] 31 (0, 0)) (by (with_reducible repeat (first | refine blk_drewN ?_ _ | refine blk_drew ?_ | refine blk_alloc ?_ _)); exact BK135.out) hb); have n1_ := Aside0.mk (blk_below (g := gb136) (o := .cells #[.int .i64 0, .string (⟨#[]⟩ : ByteArray), .int .i64 0, .int .i64 0, .int .i64 0, .int .i64 0, .int .i64 0, .int .i64 0, .bool false] 40 (0, 0)) (by (with_reducible repeat (first | refine blk_drewN ?_ _ | refine blk_drew ?_ | refine blk_alloc ?_ _)); exact BK136.out) hb); have n2_ := Aside0.mk (below_step (by repeat (first | (with_reducible first | exact HB.out | apply below_alloc | apply pw_below_drewN | apply below_drew1 | refine below_set ?_ GE135.out | refine below_set ?_ GE136.out) | exact HB.out)) hb); clear BK135; clear BK136; clear HB; have BK135 := n0_; have BK136 := n1_; have HB := n2_; clear n0_ n1_ n2_; (try clear hb); (try clear hb2); (try clear hk); (try clear hi); have hcz23_0 : w22.cell? ⟨gb135, 0, none⟩ = some (.int .i64 a1_0) := (blk_cell BK135.out 0).trans rfl; have hcz23_1 : w22.cell? ⟨gb135, 1, none⟩ = some (.int .i64 a1_1) := (blk_cell BK135.out 1).trans rfl; have hcz23_2 : w22.cell? ⟨gb135, 2, none⟩ = some (.int .i64 a1_2) := (blk_cell BK135.out 2).trans rfl; have hcz23_3 : w22.cell? ⟨gb135, 3, none⟩ = some (.int .i64 a1_3) := (blk_cell BK135.out 3).trans rfl; have hcz23_4 : w22.cell? ⟨gb135, 4, none⟩ = some (.int .i64 a1_4) := (blk_cell BK135.out 4).trans rfl; have hcz23_5 : w22.cell? ⟨gb135, 5, none⟩ = some (.int .i64 a1_5) := (blk_cell BK135.out 5).trans rfl; have hfz23_0 := blk_frozen BK135.out 0; have hfz23_1 := blk_frozen BK135.out 1; have hfz23_2 := blk_frozen BK135.out 2; have hfz23_3 := blk_frozen BK135.out 3; have hfz23_4 := blk_frozen BK135.out 4; have hfz23_5 := blk_frozen BK135.out 5))
                go_meet
                case rel => exact ⟨_, (true), (by first | rfl | (simp; done) | (simp [*]; done)), H', ⟨by have := HJ4.out; first | omega | exact Nat.le_refl _⟩, ⟨by (with_reducible repeat (first | refine blk_drewN ?_ _ | refine blk_drew ?_ | refine blk_alloc ?_ _)); exact BK135.out⟩, ⟨by (with_reducible repeat (first | refine blk_drewN ?_ _ | refine blk_drew ?_ | refine blk_alloc ?_ _)); exact BK136.out⟩, ⟨by repeat (first | (with_reducible first | exact HB.out | apply below_alloc | apply pw_below_drewN | apply below_drew1 | refine below_set ?_ GE135.out | refine below_set ?_ GE136.out) | exact HB.out)⟩⟩
              · rw [if_neg c19] at H
                have c19b0 : decide (a1_0 ≤ a2) = false := decide_eq_false c19
                clear c19
                by_cases c24 : (l3.length : Int) < 1
                · rw [if_pos c24] at H
                  have c24b0 : decide ((l3.length : Int) < 1) = true := decide_eq_true c24
                  have c24b1 : decide (l3.length < 1) = true := decide_eq_true (by omega)
                  clear c24
                  have H' := Aside0.mk H
                  clear H
                  have hnb25 := NB135_136.out
                  have hnc25 := NB136_135.out
                  have hcz26_0 : wc.cell? ⟨gb135, 0, none⟩ = some (.int .i64 a1_0) := (blk_cell BK135.out 0).trans rfl
                  have hcz26_1 : wc.cell? ⟨gb135, 1, none⟩ = some (.int .i64 a1_1) := (blk_cell BK135.out 1).trans rfl
                  have hcz26_2 : wc.cell? ⟨gb135, 2, none⟩ = some (.int .i64 a1_2) := (blk_cell BK135.out 2).trans rfl
                  have hcz26_3 : wc.cell? ⟨gb135, 3, none⟩ = some (.int .i64 a1_3) := (blk_cell BK135.out 3).trans rfl
                  have hcz26_4 : wc.cell? ⟨gb135, 4, none⟩ = some (.int .i64 a1_4) := (blk_cell BK135.out 4).trans rfl
                  have hcz26_5 : wc.cell? ⟨gb135, 5, none⟩ = some (.int .i64 a1_5) := (blk_cell BK135.out 5).trans rfl
                  have hfz26_0 := blk_frozen BK135.out 0
                  have hfz26_1 := blk_frozen BK135.out 1
                  have hfz26_2 := blk_frozen BK135.out 2
                  have hfz26_3 := blk_frozen BK135.out 3
                  have hfz26_4 := blk_frozen BK135.out 4
                  have hfz26_5 := blk_frozen BK135.out 5
                  go_wp2_with (first | ((with_reducible refine gate_callee (f := 15) rfl ?_); refine goesL_ (some 26) rfl rfl Try.func15 (by kernel_rfl) rfl #[.string a0, .agg #[.int .i64 a1_0, .int .i64 a1_1, .int .i64 a1_2, .int .i64 a1_3, .int .i64 a1_4, .int .i64 a1_5]] rfl (by (try simp only [List.map_toArray, List.map_cons, List.map_nil]); first | done | rfl | (simp only [List.length_drop, List.length_take]; rfl)) ?_; (with_reducible refine (spec_QueueFault.calls kj4 a0 a1_0 a1_1 a1_2 a1_3 a1_4 a1_5 t137 _ A13.out).mono ?_); rintro e w27 ⟨rfl, hb⟩; refine ⟨_, rfl, ?_⟩; have n0_ := Aside0.mk (blk_below (g := gb135) (o := .cells #[.int .i64 a1_0, .int .i64 a1_1, .int .i64 a1_2, .int .i64 a1_3, .int .i64 a1_4, .int .i64 a1_5] 31 (0, 0)) (by (with_reducible repeat (first | refine blk_drewN ?_ _ | refine blk_drew ?_ | refine blk_alloc ?_ _)); exact BK135.out) hb); have n1_ := Aside0.mk (blk_below (g := gb136) (o := .cells #[.int .i64 0, .string (⟨#[]⟩ : ByteArray), .int .i64 0, .int .i64 0, .int .i64 0, .int .i64 0, .int .i64 0, .int .i64 0, .bool false] 40 (0, 0)) (by (with_reducible repeat (first | refine blk_drewN ?_ _ | refine blk_drew ?_ | refine blk_alloc ?_ _)); exact BK136.out) hb); have n2_ := Aside0.mk (below_step (by repeat (first | (with_reducible first | exact HB.out | apply below_alloc | apply pw_below_drewN | apply below_drew1 | refine below_set ?_ GE135.out | refine below_set ?_ GE136.out) | exact HB.out)) hb); clear BK135; clear BK136; clear HB; have BK135 := n0_; have BK136 := n1_; have HB := n2_; clear n0_ n1_ n2_; (try clear hb); (try clear hb2); (try clear hk); (try clear hi); have hcz28_0 : w27.cell? ⟨gb135, 0, none⟩ = some (.int .i64 a1_0) := (blk_cell BK135.out 0).trans rfl; have hcz28_1 : w27.cell? ⟨gb135, 1, none⟩ = some (.int .i64 a1_1) := (blk_cell BK135.out 1).trans rfl; have hcz28_2 : w27.cell? ⟨gb135, 2, none⟩ = some (.int .i64 a1_2) := (blk_cell BK135.out 2).trans rfl; have hcz28_3 : w27.cell? ⟨gb135, 3, none⟩ = some (.int .i64 a1_3) := (blk_cell BK135.out 3).trans rfl; have hcz28_4 : w27.cell? ⟨gb135, 4, none⟩ = some (.int .i64 a1_4) := (blk_cell BK135.out 4).trans rfl; have hcz28_5 : w27.cell? ⟨gb135, 5, none⟩ = some (.int .i64 a1_5) := (blk_cell BK135.out 5).trans rfl; have hfz28_0 := blk_frozen BK135.out 0; have hfz28_1 := blk_frozen BK135.out 1; have hfz28_2 := blk_frozen BK135.out 2; have hfz28_3 := blk_frozen BK135.out 3; have hfz28_4 := blk_frozen BK135.out 4; have hfz28_5 := blk_frozen BK135.out 5))
                  go_meet
                  case rel => exact ⟨_, (true), (by first | rfl | (simp; done) | (simp [*]; done)), H', ⟨by have := HJ4.out; first | omega | exact Nat.le_refl _⟩, ⟨by (with_reducible repeat (first | refine blk_drewN ?_ _ | refine blk_drew ?_ | refine blk_alloc ?_ _)); exact BK135.out⟩, ⟨by (with_reducible repeat (first | refine blk_drewN ?_ _ | refine blk_drew ?_ | refine blk_alloc ?_ _)); exact BK136.out⟩, ⟨by repeat (first | (with_reducible first | exact HB.out | apply below_alloc | apply pw_below_drewN | apply below_drew1 | refine below_set ?_ GE135.out | refine below_set ?_ GE136.out) | exact HB.out)⟩⟩
                · rw [if_neg c24] at H
                  have c24b0 : decide ((l3.length : Int) < 1) = false := decide_eq_false c24
                  have c24b1 : decide (l3.length < 1) = false := decide_eq_false (by omega)
                  clear c24
                  have H' := Aside0.mk H
                  clear H
                  have hnb29 := NB135_136.out
                  have hnc29 := NB136_135.out
                  have hcz30_0 : wc.cell? ⟨gb135, 0, none⟩ = some (.int .i64 a1_0) := (blk_cell BK135.out 0).trans rfl
                  have hcz30_1 : wc.cell? ⟨gb135, 1, none⟩ = some (.int .i64 a1_1) := (blk_cell BK135.out 1).trans rfl
                  have hcz30_2 : wc.cell? ⟨gb135, 2, none⟩ = some (.int .i64 a1_2) := (blk_cell BK135.out 2).trans rfl
                  have hcz30_3 : wc.cell? ⟨gb135, 3, none⟩ = some (.int .i64 a1_3) := (blk_cell BK135.out 3).trans rfl
                  have hcz30_4 : wc.cell? ⟨gb135, 4, none⟩ = some (.int .i64 a1_4) := (blk_cell BK135.out 4).trans rfl
                  have hcz30_5 : wc.cell? ⟨gb135, 5, none⟩ = some (.int .i64 a1_5) := (blk_cell BK135.out 5).trans rfl
                  have hfz30_0 := blk_frozen BK135.out 0
                  have hfz30_1 := blk_frozen BK135.out 1
                  have hfz30_2 := blk_frozen BK135.out 2
                  have hfz30_3 := blk_frozen BK135.out 3
                  have hfz30_4 := blk_frozen BK135.out 4
                  have hfz30_5 := blk_frozen BK135.out 5
                  go_wp2_with (first | ((with_reducible refine gate_callee (f := 15) rfl ?_); refine goesL_ (some 26) rfl rfl Try.func15 (by kernel_rfl) rfl #[.string a0, .agg #[.int .i64 a1_0, .int .i64 a1_1, .int .i64 a1_2, .int .i64 a1_3, .int .i64 a1_4, .int .i64 a1_5]] rfl (by (try simp only [List.map_toArray, List.map_cons, List.map_nil]); first | done | rfl | (simp only [List.length_drop, List.length_take]; rfl)) ?_; (with_reducible refine (spec_QueueFault.calls kj4 a0 a1_0 a1_1 a1_2 a1_3 a1_4 a1_5 t137 _ A13.out).mono ?_); rintro e w31 ⟨rfl, hb⟩; refine ⟨_, rfl, ?_⟩; have n0_ := Aside0.mk (blk_below (g := gb135) (o := .cells #[.int .i64 a1_0, .int .i64 a1_1, .int .i64 a1_2, .int .i64 a1_3, .int .i64 a1_4, .int .i64 a1_5] 31 (0, 0)) (by (with_reducible repeat (first | refine blk_drewN ?_ _ | refine blk_drew ?_ | refine blk_alloc ?_ _)); exact BK135.out) hb); have n1_ := Aside0.mk (blk_below (g := gb136) (o := .cells #[.int .i64 0, .string (⟨#[]⟩ : ByteArray), .int .i64 0, .int .i64 0, .int .i64 0, .int .i64 0, .int .i64 0, .int .i64 0, .bool false] 40 (0, 0)) (by (with_reducible repeat (first | refine blk_drewN ?_ _ | refine blk_drew ?_ | refine blk_alloc ?_ _)); exact BK136.out) hb); have n2_ := Aside0.mk (below_step (by repeat (first | (with_reducible first | exact HB.out | apply below_alloc | apply pw_below_drewN | apply below_drew1 | refine below_set ?_ GE135.out | refine below_set ?_ GE136.out) | exact HB.out)) hb); clear BK135; clear BK136; clear HB; have BK135 := n0_; have BK136 := n1_; have HB := n2_; clear n0_ n1_ n2_; (try clear hb); (try clear hb2); (try clear hk); (try clear hi); have hcz32_0 : w31.cell? ⟨gb135, 0, none⟩ = some (.int .i64 a1_0) := (blk_cell BK135.out 0).trans rfl; have hcz32_1 : w31.cell? ⟨gb135, 1, none⟩ = some (.int .i64 a1_1) := (blk_cell BK135.out 1).trans rfl; have hcz32_2 : w31.cell? ⟨gb135, 2, none⟩ = some (.int .i64 a1_2) := (blk_cell BK135.out 2).trans rfl; have hcz32_3 : w31.cell? ⟨gb135, 3, none⟩ = some (.int .i64 a1_3) := (blk_cell BK135.out 3).trans rfl; have hcz32_4 : w31.cell? ⟨gb135, 4, none⟩ = some (.int .i64 a1_4) := (blk_cell BK135.out 4).trans rfl; have hcz32_5 : w31.cell? ⟨gb135, 5, none⟩ = some (.int .i64 a1_5) := (blk_cell BK135.out 5).trans rfl; have hfz32_0 := blk_frozen BK135.out 0; have hfz32_1 := blk_frozen BK135.out 1; have hfz32_2 := blk_frozen BK135.out 2; have hfz32_3 := blk_frozen BK135.out 3; have hfz32_4 := blk_frozen BK135.out 4; have hfz32_5 := blk_frozen BK135.out 5))
                  go_meet
                  case rel => exact ⟨_, (decide ((l3.length : Int) > a1_0)), (by first | rfl | (simp; done) | (simp [*]; done)), H', ⟨by have := HJ4.out; first | omega | exact Nat.le_refl _⟩, ⟨by (with_reducible repeat (first | refine blk_drewN ?_ _ | refine blk_drew ?_ | refine blk_alloc ?_ _)); exact BK135.out⟩, ⟨by (with_reducible repeat (first | refine blk_drewN ?_ _ | refine blk_drew ?_ | refine blk_alloc ?_ _)); exact BK136.out⟩, ⟨by repeat (first | (with_reducible first | exact HB.out | apply below_alloc | apply pw_below_drewN | apply below_drew1 | refine below_set ?_ GE135.out | refine below_set ?_ GE136.out) | exact HB.out)⟩⟩
          · rw [if_neg c14] at H
            have c14b0 : (t137 == 0) = false := beq_eq_false_iff_ne.mpr c14
            have c14b1 : (t137 != 0) = true := bne_iff_ne.mpr c14
            (first | rw [c14b0] | (simp only [i64_w, i32_w]; rw [c14b0]) | skip)
            have H' := Aside0.mk H
            clear H
            have hnb33 := NB135_136.out
            have hnc33 := NB136_135.out
            have hcz34_0 : wc.cell? ⟨gb135, 0, none⟩ = some (.int .i64 a1_0) := (blk_cell BK135.out 0).trans rfl
            have hcz34_1 : wc.cell? ⟨gb135, 1, none⟩ = some (.int .i64 a1_1) := (blk_cell BK135.out 1).trans rfl
            have hcz34_2 : wc.cell? ⟨gb135, 2, none⟩ = some (.int .i64 a1_2) := (blk_cell BK135.out 2).trans rfl
            have hcz34_3 : wc.cell? ⟨gb135, 3, none⟩ = some (.int .i64 a1_3) := (blk_cell BK135.out 3).trans rfl
            have hcz34_4 : wc.cell? ⟨gb135, 4, none⟩ = some (.int .i64 a1_4) := (blk_cell BK135.out 4).trans rfl
            have hcz34_5 : wc.cell? ⟨gb135, 5, none⟩ = some (.int .i64 a1_5) := (blk_cell BK135.out 5).trans rfl
            have hfz34_0 := blk_frozen BK135.out 0
            have hfz34_1 := blk_frozen BK135.out 1
            have hfz34_2 := blk_frozen BK135.out 2
            have hfz34_3 := blk_frozen BK135.out 3
            have hfz34_4 := blk_frozen BK135.out 4
            have hfz34_5 := blk_frozen BK135.out 5
            go_wp2_with (first | ((with_reducible refine gate_callee (f := 15) rfl ?_); refine goesL_ (some 26) rfl rfl Try.func15 (by kernel_rfl) rfl #[.string a0, .agg #[.int .i64 a1_0, .int .i64 a1_1, .int .i64 a1_2, .int .i64 a1_3, .int .i64 a1_4, .int .i64 a1_5]] rfl (by (try simp only [List.map_toArray, List.map_cons, List.map_nil]); first | done | rfl | (simp only [List.length_drop, List.length_take]; rfl)) ?_; (with_reducible refine (spec_QueueFault.calls kj4 a0 a1_0 a1_1 a1_2 a1_3 a1_4 a1_5 t137 _ A13.out).mono ?_); rintro e w35 ⟨rfl, hb⟩; refine ⟨_, rfl, ?_⟩; have n0_ := Aside0.mk (blk_below (g := gb135) (o := .cells #[.int .i64 a1_0, .int .i64 a1_1, .int .i64 a1_2, .int .i64 a1_3, .int .i64 a1_4, .int .i64 a1_5] 31 (0, 0)) (by (with_reducible repeat (first | refine blk_drewN ?_ _ | refine blk_drew ?_ | refine blk_alloc ?_ _)); exact BK135.out) hb); have n1_ := Aside0.mk (blk_below (g := gb136) (o := .cells #[.int .i64 0, .string (⟨#[]⟩ : ByteArray), .int .i64 0, .int .i64 0, .int .i64 0, .int .i64 0, .int .i64 0, .int .i64 0, .bool false] 40 (0, 0)) (by (with_reducible repeat (first | refine blk_drewN ?_ _ | refine blk_drew ?_ | refine blk_alloc ?_ _)); exact BK136.out) hb); have n2_ := Aside0.mk (below_step (by repeat (first | (with_reducible first | exact HB.out | apply below_alloc | apply pw_below_drewN | apply below_drew1 | refine below_set ?_ GE135.out | refine below_set ?_ GE136.out) | exact HB.out)) hb); clear BK135; clear BK136; clear HB; have BK135 := n0_; have BK136 := n1_; have HB := n2_; clear n0_ n1_ n2_; (try clear hb); (try clear hb2); (try clear hk); (try clear hi)))
            go_meet
            case rel => exact ⟨_, (true), (by first | rfl | (simp; done) | (simp [*]; done)), H', ⟨by have := HJ4.out; first | omega | exact Nat.le_refl _⟩, ⟨by (with_reducible repeat (first | refine blk_drewN ?_ _ | refine blk_drew ?_ | refine blk_alloc ?_ _)); exact BK135.out⟩, ⟨by (with_reducible repeat (first | refine blk_drewN ?_ _ | refine blk_drew ?_ | refine blk_alloc ?_ _)); exact BK136.out⟩, ⟨by repeat (first | (with_reducible first | exact HB.out | apply below_alloc | apply pw_below_drewN | apply below_drew1 | refine below_set ?_ GE135.out | refine below_set ?_ GE136.out) | exact HB.out)⟩⟩
        case rest =>
          clear HC12
          try clear c1
          try clear c2
          try clear p2
          try clear c3
          try clear c8
          try clear c8b0
          try clear c8b1
          try clear c9
          try clear c10
          try clear c14
          try clear c14b0
          try clear c14b1
          try clear c15
          try clear c15b0
          try clear c16
          try clear c19
          try clear c19b0
          try clear c20
          try clear c24
          try clear c24b0
          try clear c24b1
          try clear c25
          try clear c29
          try clear c30
          try clear c33
          try clear hcz11_0
          try clear hcz11_1
          try clear hcz11_2
          try clear hcz11_3
          try clear hcz11_4
          try clear hcz11_5
          try clear hcz11_6
          try clear hcz11_7
          try clear hcz11_8
          try clear hcz17_0
          try clear hcz17_1
          try clear hcz17_2
          try clear hcz17_3
          try clear hcz17_4
          try clear hcz17_5
          try clear hcz21_0
          try clear hcz21_1
          try clear hcz21_2
          try clear hcz21_3
          try clear hcz21_4
          try clear hcz21_5
          try clear hcz23_0
          try clear hcz23_1
          try clear hcz23_2
          try clear hcz23_3
          try clear hcz23_4
          try clear hcz23_5
          try clear hcz26_0
          try clear hcz26_1
          try clear hcz26_2
          try clear hcz26_3
          try clear hcz26_4
          try clear hcz26_5
          try clear hcz28_0
          try clear hcz28_1
          try clear hcz28_2
          try clear hcz28_3
          try clear hcz28_4
          try clear hcz28_5
          try clear hcz30_0
          try clear hcz30_1
          try clear hcz30_2
          try clear hcz30_3
          try clear hcz30_4
          try clear hcz30_5
          try clear hcz32_0
          try clear hcz32_1
          try clear hcz32_2
          try clear hcz32_3
          try clear hcz32_4
          try clear hcz32_5
          try clear hcz34_0
          try clear hcz34_1
          try clear hcz34_2
          try clear hcz34_3
          try clear hcz34_4
          try clear hcz34_5
          try clear hfz11_0
          try clear hfz11_1
          try clear hfz11_2
          try clear hfz11_3
          try clear hfz11_4
          try clear hfz11_5
          try clear hfz11_6
          try clear hfz11_7
          try clear hfz11_8
          try clear hfz17_0
          try clear hfz17_1
          try clear hfz17_2
          try clear hfz17_3
          try clear hfz17_4
          try clear hfz17_5
          try clear hfz21_0
          try clear hfz21_1
          try clear hfz21_2
          try clear hfz21_3
          try clear hfz21_4
          try clear hfz21_5
          try clear hfz23_0
          try clear hfz23_1
          try clear hfz23_2
          try clear hfz23_3
          try clear hfz23_4
          try clear hfz23_5
          try clear hfz26_0
          try clear hfz26_1
          try clear hfz26_2
          try clear hfz26_3
          try clear hfz26_4
          try clear hfz26_5
          try clear hfz28_0
          try clear hfz28_1
          try clear hfz28_2
          try clear hfz28_3
          try clear hfz28_4
          try clear hfz28_5
          try clear hfz30_0
          try clear hfz30_1
          try clear hfz30_2
          try clear hfz30_3
          try clear hfz30_4
          try clear hfz30_5
          try clear hfz32_0
          try clear hfz32_1
          try clear hfz32_2
          try clear hfz32_3
          try clear hfz32_4
          try clear hfz32_5
          try clear hfz34_0
          try clear hfz34_1
          try clear hfz34_2
          try clear hfz34_3
          try clear hfz34_4
          try clear hfz34_5
          try clear p2
          obtain ⟨kq, x49_11, rfl, HA, HJ11, BK135, BK136, HB⟩ := hcut
          cases kq with
          | zero => exact absurd HA.out (by simp [spec_PostChain.j1])
          | succ kj11 =>
            have H := HA.out
            clear HA
            simp only [spec_PostChain.j1] at H
            by_cases c36 : x49_11 = true
            · subst c36
              have H1 : (some (1, (⟨#[]⟩ : ByteArray), 0, 0, 0, 0, 0, 0, false)) = some (r1, r2, r3, r4, r5, r6, r7, r8, r9) := by rw [if_pos rfl] at H; exact H
              clear H
              have H := H1
              clear H1
              simp only [Option.some.injEq, Prod.mk.injEq] at H
              obtain ⟨rfl, rfl, rfl, rfl, rfl, rfl, rfl, rfl, rfl⟩ := H
              have hnb37 := NB136_135.out
              have hnc37 := NB135_136.out
              have hcz38_0 : wc.cell? ⟨gb136, 0, none⟩ = some (.int .i64 0) := (blk_cell BK136.out 0).trans rfl
              have hcz38_1 : wc.cell? ⟨gb136, 1, none⟩ = some (.string (⟨#[]⟩ : ByteArray)) := (blk_cell BK136.out 1).trans rfl
              have hcz38_2 : wc.cell? ⟨gb136, 2, none⟩ = some (.int .i64 0) := (blk_cell BK136.out 2).trans rfl
              have hcz38_3 : wc.cell? ⟨gb136, 3, none⟩ = some (.int .i64 0) := (blk_cell BK136.out 3).trans rfl
              have hcz38_4 : wc.cell? ⟨gb136, 4, none⟩ = some (.int .i64 0) := (blk_cell BK136.out 4).trans rfl
              have hcz38_5 : wc.cell? ⟨gb136, 5, none⟩ = some (.int .i64 0) := (blk_cell BK136.out 5).trans rfl
              have hcz38_6 : wc.cell? ⟨gb136, 6, none⟩ = some (.int .i64 0) := (blk_cell BK136.out 6).trans rfl
              have hcz38_7 : wc.cell? ⟨gb136, 7, none⟩ = some (.int .i64 0) := (blk_cell BK136.out 7).trans rfl
              have hcz38_8 : wc.cell? ⟨gb136, 8, none⟩ = some (.bool false) := (blk_cell BK136.out 8).trans rfl
              have hfz38_0 := blk_frozen BK136.out 0
              have hfz38_1 := blk_frozen BK136.out 1
              have hfz38_2 := blk_frozen BK136.out 2
              have hfz38_3 := blk_frozen BK136.out 3
              have hfz38_4 := blk_frozen BK136.out 4
              have hfz38_5 := blk_frozen BK136.out 5
              have hfz38_6 := blk_frozen BK136.out 6
              have hfz38_7 := blk_frozen BK136.out 7
              have hfz38_8 := blk_frozen BK136.out 8
              go_wp2
              refine bodyPost_ret (results_cell_row rfl _ _ gb136 40 #[.int .i64 1, .string (⟨#[]⟩ : ByteArray), .int .i64 0, .int .i64 0, .int .i64 0, .int .i64 0, .int .i64 0, .int .i64 0, .bool false] (0, 0) _ rfl (by (with_reducible repeat (first | refine blk_drewN ?_ _ | refine blk_drew ?_ | refine blk_alloc ?_ _)); refine blk_put (cs := #[.int .i64 1, .string (⟨#[]⟩ : ByteArray), .int .i64 0, .int .i64 0, .int .i64 0, .int .i64 0, .int .i64 0, .int .i64 0, .bool false]) ?_ 8 _ rfl; (with_reducible repeat (first | refine blk_drewN ?_ _ | refine blk_drew ?_ | refine blk_alloc ?_ _)); refine blk_put (cs := #[.int .i64 1, .string (⟨#[]⟩ : ByteArray), .int .i64 0, .int .i64 0, .int .i64 0, .int .i64 0, .int .i64 0, .int .i64 0, .bool false]) ?_ 7 _ rfl; (with_reducible repeat (first | refine blk_drewN ?_ _ | refine blk_drew ?_ | refine blk_alloc ?_ _)); refine blk_put (cs := #[.int .i64 1, .string (⟨#[]⟩ : ByteArray), .int .i64 0, .int .i64 0, .int .i64 0, .int .i64 0, .int .i64 0, .int .i64 0, .bool false]) ?_ 6 _ rfl; (with_reducible repeat (first | refine blk_drewN ?_ _ | refine blk_drew ?_ | refine blk_alloc ?_ _)); refine blk_put (cs := #[.int .i64 1, .string (⟨#[]⟩ : ByteArray), .int .i64 0, .int .i64 0, .int .i64 0, .int .i64 0, .int .i64 0, .int .i64 0, .bool false]) ?_ 5 _ rfl; (with_reducible repeat (first | refine blk_drewN ?_ _ | refine blk_drew ?_ | refine blk_alloc ?_ _)); refine blk_put (cs := #[.int .i64 1, .string (⟨#[]⟩ : ByteArray), .int .i64 0, .int .i64 0, .int .i64 0, .int .i64 0, .int .i64 0, .int .i64 0, .bool false]) ?_ 4 _ rfl; (with_reducible repeat (first | refine blk_drewN ?_ _ | refine blk_drew ?_ | refine blk_alloc ?_ _)); refine blk_put (cs := #[.int .i64 1, .string (⟨#[]⟩ : ByteArray), .int .i64 0, .int .i64 0, .int .i64 0, .int .i64 0, .int .i64 0, .int .i64 0, .bool false]) ?_ 3 _ rfl; (with_reducible repeat (first | refine blk_drewN ?_ _ | refine blk_drew ?_ | refine blk_alloc ?_ _)); refine blk_put (cs := #[.int .i64 1, .string (⟨#[]⟩ : ByteArray), .int .i64 0, .int .i64 0, .int .i64 0, .int .i64 0, .int .i64 0, .int .i64 0, .bool false]) ?_ 2 _ rfl; (with_reducible repeat (first | refine blk_drewN ?_ _ | refine blk_drew ?_ | refine blk_alloc ?_ _)); refine blk_put (cs := #[.int .i64 1, .string (⟨#[]⟩ : ByteArray), .int .i64 0, .int .i64 0, .int .i64 0, .int .i64 0, .int .i64 0, .int .i64 0, .bool false]) ?_ 1 _ rfl; (with_reducible repeat (first | refine blk_drewN ?_ _ | refine blk_drew ?_ | refine blk_alloc ?_ _)); refine blk_put (cs := #[.int .i64 0, .string (⟨#[]⟩ : ByteArray), .int .i64 0, .int .i64 0, .int .i64 0, .int .i64 0, .int .i64 0, .int .i64 0, .bool false]) ?_ 0 _ rfl; (with_reducible repeat (first | refine blk_drewN ?_ _ | refine blk_drew ?_ | refine blk_alloc ?_ _)); exact BK136.out) Try.underlying40 rfl (by kernel_rfl)) rfl ?_
              exact ⟨by first | rfl | (simp [errW_none, errW_some] <;> rfl) | (simp [*, errW_none, errW_some] <;> rfl), by repeat (first | (with_reducible first | exact HB.out | apply below_alloc | apply pw_below_drewN | apply below_drew1 | refine below_set ?_ GE135.out | refine below_set ?_ GE136.out) | exact HB.out)⟩
            · replace c36 := Bool.eq_false_iff.mpr c36
              subst c36
              have H1 : (spec_PostChain.l0 kj11 a0 a2 l3 0 a1_0 a1_1 a1_2 a1_3 a1_4 a1_5) = some (r1, r2, r3, r4, r5, r6, r7, r8, r9) := by rw [if_neg (show ¬ (false = true) by decide)] at H; exact H
              clear H
              have H := H1
              clear H1
              have H' := Aside0.mk H
              clear H
              go_wp2
              go_loopg [9] kj11 (fun kq v9 w' => ∃ (x9_3 : Int) (x137000_3 : Int) (x137001_3 : ByteArray) (x137002_3 : Int) (x137003_3 : Int) (x137004_3 : Int) (x137005_3 : Int) (x137006_3 : Int) (x137007_3 : Int) (x137008_3 : Bool), v9 = .int .i64 x9_3 ∧ Aside0 (spec_PostChain.l0 kq a0 a2 l3 x9_3 a1_0 a1_1 a1_2 a1_3 a1_4 a1_5 = some (r1, r2, r3, r4, r5, r6, r7, r8, r9)) ∧ Aside0 (kq ≤ kj11) ∧ Aside0 (w'.heap[gb135]? = some (.cells #[.int .i64 a1_0, .int .i64 a1_1, .int .i64 a1_2, .int .i64 a1_3, .int .i64 a1_4, .int .i64 a1_5] 31 (0, 0))) ∧ Aside0 (w'.heap[gb136]? = some (.cells #[.int .i64 x137000_3, .string x137001_3, .int .i64 x137002_3, .int .i64 x137003_3, .int .i64 x137004_3, .int .i64 x137005_3, .int .i64 x137006_3, .int .i64 x137007_3, .bool x137008_3] 40 (0, 0))) ∧ Aside0 (Below w.heap.size w w'))
              case atStart => exact ⟨(0), (0), ((⟨#[]⟩ : ByteArray)), (0), (0), (0), (0), (0), (0), (false), (by first | rfl | (simp; done) | (simp [*]; done)), H', ⟨Nat.le_refl _⟩, ⟨by (with_reducible repeat (first | refine blk_drewN ?_ _ | refine blk_drew ?_ | refine blk_alloc ?_ _)); exact BK135.out⟩, ⟨by (with_reducible repeat (first | refine blk_drewN ?_ _ | refine blk_drew ?_ | refine blk_alloc ?_ _)); exact BK136.out⟩, ⟨by repeat (first | (with_reducible first | exact HB.out | apply below_alloc | apply pw_below_drewN | apply below_drew1 | refine below_set ?_ GE135.out | refine below_set ?_ GE136.out) | exact HB.out)⟩⟩
              case round =>
                clear H'
                try clear c1
                try clear c2
                try clear p2
                try clear c3
                try clear c8
                try clear c8b0
                try clear c8b1
                try clear c9
                try clear c10
                try clear c14
                try clear c14b0
                try clear c14b1
                try clear c15
                try clear c15b0
                try clear c16
                try clear c19
                try clear c19b0
                try clear c20
                try clear c24
                try clear c24b0
                try clear c24b1
                try clear c25
                try clear c29
                try clear c30
                try clear c33
                try clear c36
                try clear c37
                try clear hcz11_0
                try clear hcz11_1
                try clear hcz11_2
                try clear hcz11_3
                try clear hcz11_4
                try clear hcz11_5
                try clear hcz11_6
                try clear hcz11_7
                try clear hcz11_8
                try clear hcz17_0
                try clear hcz17_1
                try clear hcz17_2
                try clear hcz17_3
                try clear hcz17_4
                try clear hcz17_5
                try clear hcz21_0
                try clear hcz21_1
                try clear hcz21_2
                try clear hcz21_3
                try clear hcz21_4
                try clear hcz21_5
                try clear hcz23_0
                try clear hcz23_1
                try clear hcz23_2
                try clear hcz23_3
                try clear hcz23_4
                try clear hcz23_5
                try clear hcz26_0
                try clear hcz26_1
                try clear hcz26_2
                try clear hcz26_3
                try clear hcz26_4
                try clear hcz26_5
                try clear hcz28_0
                try clear hcz28_1
                try clear hcz28_2
                try clear hcz28_3
                try clear hcz28_4
                try clear hcz28_5
                try clear hcz30_0
                try clear hcz30_1
                try clear hcz30_2
                try clear hcz30_3
                try clear hcz30_4
                try clear hcz30_5
                try clear hcz32_0
                try clear hcz32_1
                try clear hcz32_2
                try clear hcz32_3
                try clear hcz32_4
                try clear hcz32_5
                try clear hcz34_0
                try clear hcz34_1
                try clear hcz34_2
                try clear hcz34_3
                try clear hcz34_4
                try clear hcz34_5
                try clear hcz38_0
                try clear hcz38_1
                try clear hcz38_2
                try clear hcz38_3
                try clear hcz38_4
                try clear hcz38_5
                try clear hcz38_6
                try clear hcz38_7
                try clear hcz38_8
                try clear hfz11_0
                try clear hfz11_1
                try clear hfz11_2
                try clear hfz11_3
                try clear hfz11_4
                try clear hfz11_5
                try clear hfz11_6
                try clear hfz11_7
                try clear hfz11_8
                try clear hfz17_0
                try clear hfz17_1
                try clear hfz17_2
                try clear hfz17_3
                try clear hfz17_4
                try clear hfz17_5
                try clear hfz21_0
                try clear hfz21_1
                try clear hfz21_2
                try clear hfz21_3
                try clear hfz21_4
                try clear hfz21_5
                try clear hfz23_0
                try clear hfz23_1
                try clear hfz23_2
                try clear hfz23_3
                try clear hfz23_4
                try clear hfz23_5
                try clear hfz26_0
                try clear hfz26_1
                try clear hfz26_2
                try clear hfz26_3
                try clear hfz26_4
                try clear hfz26_5
                try clear hfz28_0
                try clear hfz28_1
                try clear hfz28_2
                try clear hfz28_3
                try clear hfz28_4
                try clear hfz28_5
                try clear hfz30_0
                try clear hfz30_1
                try clear hfz30_2
                try clear hfz30_3
                try clear hfz30_4
                try clear hfz30_5
                try clear hfz32_0
                try clear hfz32_1
                try clear hfz32_2
                try clear hfz32_3
                try clear hfz32_4
                try clear hfz32_5
                try clear hfz34_0
                try clear hfz34_1
                try clear hfz34_2
                try clear hfz34_3
                try clear hfz34_4
                try clear hfz34_5
                try clear hfz38_0
                try clear hfz38_1
                try clear hfz38_2
                try clear hfz38_3
                try clear hfz38_4
                try clear hfz38_5
                try clear hfz38_6
                try clear hfz38_7
                try clear hfz38_8
                try clear p2
                obtain ⟨x9_3, x137000_3, x137001_3, x137002_3, x137003_3, x137004_3, x137005_3, x137006_3, x137007_3, x137008_3, rfl, HA, HK3, BK135, BK136, HB⟩ := hrel
                cases gk with
                | zero => exact absurd HA.out (by simp [spec_PostChain.l0])
                | succ k3 =>
                  have H := HA.out
                  clear HA
                  simp only [spec_PostChain.l0] at H
                  by_cases c39 : x9_3 < (l3.length : Int)
                  · rw [if_pos c39] at H
                    have c39b0 : decide (x9_3 < (l3.length : Int)) = true := decide_eq_true c39
                    clear c39
                    by_cases c40 : 0 ≤ x9_3
                    · rw [if_pos c40] at H
                      have c40b0 : decide (0 ≤ x9_3) = true := decide_eq_true c40
                      clear c40
                      replace H := Option.bind_eq_some_iff.mp H
                      obtain ⟨t139, A410, H⟩ := H
                      replace H : (if t139 = true then ((spec_l01IsWord.f ((rd_T75 l3 x9_3).f1)).bind fun t141 => (if t141 = true then (spec_PostChain.l0 k3 a0 a2 l3 (wrap64 (x9_3 + 1)) a1_0 a1_1 a1_2 a1_3 a1_4 a1_5) else (some (1, (⟨#[]⟩ : ByteArray), 0, 0, 0, 0, 0, 0, false)))) else (some (1, (⟨#[]⟩ : ByteArray), 0, 0, 0, 0, 0, 0, false))) = some (r1, r2, r3, r4, r5, r6, r7, r8, r9) := H
                      have A41 := Aside0.mk A410
                      clear A410
                      by_cases c42 : t139 = true
                      · subst c42
                        have H1 : ((spec_l01IsWord.f ((rd_T75 l3 x9_3).f1)).bind fun t141 => (if t141 = true then (spec_PostChain.l0 k3 a0 a2 l3 (wrap64 (x9_3 + 1)) a1_0 a1_1 a1_2 a1_3 a1_4 a1_5) else (some (1, (⟨#[]⟩ : ByteArray), 0, 0, 0, 0, 0, 0, false)))) = some (r1, r2, r3, r4, r5, r6, r7, r8, r9) := by rw [if_pos rfl] at H; exact H
                        clear H
                        have H := H1
                        clear H1
                        replace H := Option.bind_eq_some_iff.mp H
                        obtain ⟨t141, A430, H⟩ := H
                        replace H : (if t141 = true then (spec_PostChain.l0 k3 a0 a2 l3 (wrap64 (x9_3 + 1)) a1_0 a1_1 a1_2 a1_3 a1_4 a1_5) else (some (1, (⟨#[]⟩ : ByteArray), 0, 0, 0, 0, 0, 0, false))) = some (r1, r2, r3, r4, r5, r6, r7, r8, r9) := H
                        have A43 := Aside0.mk A430
                        clear A430
                        by_cases c44 : t141 = true
                        · subst c44
                          have H1 : (spec_PostChain.l0 k3 a0 a2 l3 (wrap64 (x9_3 + 1)) a1_0 a1_1 a1_2 a1_3 a1_4 a1_5) = some (r1, r2, r3, r4, r5, r6, r7, r8, r9) := by rw [if_pos rfl] at H; exact H
                          clear H
                          have H := H1
                          clear H1
                          have H' := Aside0.mk H
                          clear H
                          have p138 : 0 ≤ (x9_3 : Int) := of_decide_eq_true (by first | (with_reducible assumption) | assumption)
                          have q138 : x9_3 < (l3.length : Int) := of_decide_eq_true (by first | (with_reducible assumption) | assumption)
                          obtain ⟨ad138, e138, hx138_0, hx138_1, hx138_2⟩ := at_T75 HR3.out x9_3 p138 q138
                          cases e138
                          replace hx138_0 := (HB.out.cell (World.block_lt_of_cell? w _ hx138_0)).trans hx138_0
                          replace hx138_1 := (HB.out.cell (World.block_lt_of_cell? w _ hx138_1)).trans hx138_1
                          replace hx138_2 := (HB.out.cell (World.block_lt_of_cell? w _ hx138_2)).trans hx138_2
                          replace p138 := eq_true p138
                          replace q138 := eq_true q138
                          go_wp2_with (first | ((with_reducible refine gate_callee (f := 54) rfl ?_); refine goesL_ (some 62) rfl rfl Try.func54 (by kernel_rfl) rfl #[.int .i64 ((rd_T75 l3 x9_3).f0)] rfl (by (try simp only [List.map_toArray, List.map_cons, List.map_nil]); first | done | rfl | (simp only [List.length_drop, List.length_take]; rfl)) ?_; (with_reducible refine (spec_l01IsWord.calls ((rd_T75 l3 x9_3).f0) true _ A41.out).mono ?_); rintro e w' ⟨rfl, ⟨nd, rfl⟩⟩; refine ⟨_, rfl, ?_⟩; have p140 : 0 ≤ (x9_3 : Int) := of_decide_eq_true (by first | (with_reducible assumption) | assumption); have q140 : x9_3 < (l3.length : Int) := of_decide_eq_true (by first | (with_reducible assumption) | assumption); obtain ⟨ad140, e140, hx140_0, hx140_1, hx140_2⟩ := at_T75 HR3.out x9_3 p140 q140; obtain rfl : ad138 = ad140 := (by injection e140); replace hx140_0 := (HB.out.cell (World.block_lt_of_cell? w _ hx140_0)).trans hx140_0; replace hx140_1 := (HB.out.cell (World.block_lt_of_cell? w _ hx140_1)).trans hx140_1; replace hx140_2 := (HB.out.cell (World.block_lt_of_cell? w _ hx140_2)).trans hx140_2; replace p140 := eq_true p140; replace q140 := eq_true q140) | (go_at_call 54; (with_reducible refine (spec_l01IsWord.calls ((rd_T75 l3 x9_3).f1) true _ A43.out).mono ?_); rintro e w' ⟨rfl, ⟨nd, rfl⟩⟩))
                          go_roundg k3
                          case measure => have := HJ4.out; have := HJ11.out; have := HK3.out; omega
                          case rel => exact ⟨(wrap64 (x9_3 + 1)), (x137000_3), (x137001_3), (x137002_3), (x137003_3), (x137004_3), (x137005_3), (x137006_3), (x137007_3), (x137008_3), (by first | rfl | (simp; done) | (simp [*]; done)), H', ⟨by have := HJ4.out; have := HJ11.out; have := HK3.out; omega⟩, ⟨by (with_reducible repeat (first | refine blk_drewN ?_ _ | refine blk_drew ?_ | refine blk_alloc ?_ _)); exact BK135.out⟩, ⟨by (with_reducible repeat (first | refine blk_drewN ?_ _ | refine blk_drew ?_ | refine blk_alloc ?_ _)); exact BK136.out⟩, ⟨by repeat (first | (with_reducible first | exact HB.out | apply below_alloc | apply pw_below_drewN | apply below_drew1 | refine below_set ?_ GE135.out | refine below_set ?_ GE136.out) | exact HB.out)⟩⟩
                        · replace c44 := Bool.eq_false_iff.mpr c44
                          subst c44
                          have H1 : (some (1, (⟨#[]⟩ : ByteArray), 0, 0, 0, 0, 0, 0, false)) = some (r1, r2, r3, r4, r5, r6, r7, r8, r9) := by rw [if_neg (show ¬ (false = true) by decide)] at H; exact H
                          clear H
                          have H := H1
                          clear H1
                          simp only [Option.some.injEq, Prod.mk.injEq] at H
                          obtain ⟨rfl, rfl, rfl, rfl, rfl, rfl, rfl, rfl, rfl⟩ := H
                          have p138 : 0 ≤ (x9_3 : Int) := of_decide_eq_true (by first | (with_reducible assumption) | assumption)
                          have q138 : x9_3 < (l3.length : Int) := of_decide_eq_true (by first | (with_reducible assumption) | assumption)
                          obtain ⟨ad138, e138, hx138_0, hx138_1, hx138_2⟩ := at_T75 HR3.out x9_3 p138 q138
                          cases e138
                          replace hx138_0 := (HB.out.cell (World.block_lt_of_cell? w _ hx138_0)).trans hx138_0
                          replace hx138_1 := (HB.out.cell (World.block_lt_of_cell? w _ hx138_1)).trans hx138_1
                          replace hx138_2 := (HB.out.cell (World.block_lt_of_cell? w _ hx138_2)).trans hx138_2
                          replace p138 := eq_true p138
                          replace q138 := eq_true q138
                          go_wp2_with (first | ((with_reducible refine gate_callee (f := 54) rfl ?_); refine goesL_ (some 62) rfl rfl Try.func54 (by kernel_rfl) rfl #[.int .i64 ((rd_T75 l3 x9_3).f0)] rfl (by (try simp only [List.map_toArray, List.map_cons, List.map_nil]); first | done | rfl | (simp only [List.length_drop, List.length_take]; rfl)) ?_; (with_reducible refine (spec_l01IsWord.calls ((rd_T75 l3 x9_3).f0) true _ A41.out).mono ?_); rintro e w' ⟨rfl, ⟨nd, rfl⟩⟩; refine ⟨_, rfl, ?_⟩; (try (rw [drewN_self wr]; generalize hq_ : World.drewN wr _ = wr; have n0_ : Aside0 (wr.heap[gb135]? = some (.cells #[.int .i64 a1_0, .int .i64 a1_1, .int .i64 a1_2, .int .i64 a1_3, .int .i64 a1_4, .int .i64 a1_5] 31 (0, 0))) := ⟨by rw [← hq_]; exact (by (with_reducible repeat (first | refine blk_drewN ?_ _ | refine blk_drew ?_ | refine blk_alloc ?_ _)); exact BK135.out)⟩; have n1_ : Aside0 (wr.heap[gb136]? = some (.cells #[.int .i64 x137000_3, .string x137001_3, .int .i64 x137002_3, .int .i64 x137003_3, .int .i64 x137004_3, .int .i64 x137005_3, .int .i64 x137006_3, .int .i64 x137007_3, .bool x137008_3] 40 (0, 0))) := ⟨by rw [← hq_]; exact (by (with_reducible repeat (first | refine blk_drewN ?_ _ | refine blk_drew ?_ | refine blk_alloc ?_ _)); exact BK136.out)⟩; have n2_ : Aside0 (Below w.heap.size w wr) := ⟨by rw [← hq_]; exact (by repeat (first | (with_reducible first | exact HB.out | apply below_alloc | apply pw_below_drewN | apply below_drew1 | refine below_set ?_ GE135.out | refine below_set ?_ GE136.out) | exact HB.out))⟩; clear BK135 BK136 HB hq_; have BK135 := n0_; have BK136 := n1_; have HB := n2_; clear n0_ n1_ n2_)); have p140 : 0 ≤ (x9_3 : Int) := of_decide_eq_true (by first | (with_reducible assumption) | assumption); have q140 : x9_3 < (l3.length : Int) := of_decide_eq_true (by first | (with_reducible assumption) | assumption); obtain ⟨ad140, e140, hx140_0, hx140_1, hx140_2⟩ := at_T75 HR3.out x9_3 p140 q140; obtain rfl : ad138 = ad140 := (by injection e140); replace hx140_0 := (HB.out.cell (World.block_lt_of_cell? w _ hx140_0)).trans hx140_0; replace hx140_1 := (HB.out.cell (World.block_lt_of_cell? w _ hx140_1)).trans hx140_1; replace hx140_2 := (HB.out.cell (World.block_lt_of_cell? w _ hx140_2)).trans hx140_2; replace p140 := eq_true p140; replace q140 := eq_true q140) | (go_at_call 54; (with_reducible refine (spec_l01IsWord.calls ((rd_T75 l3 x9_3).f1) false _ A43.out).mono ?_); rintro e w' ⟨rfl, ⟨nd, rfl⟩⟩; (try (rw [drewN_self wr]; generalize hq_ : World.drewN wr _ = wr; have n0_ : Aside0 (wr.heap[gb135]? = some (.cells #[.int .i64 a1_0, .int .i64 a1_1, .int .i64 a1_2, .int .i64 a1_3, .int .i64 a1_4, .int .i64 a1_5] 31 (0, 0))) := ⟨by rw [← hq_]; exact (by (with_reducible repeat (first | refine blk_drewN ?_ _ | refine blk_drew ?_ | refine blk_alloc ?_ _)); exact BK135.out)⟩; have n1_ : Aside0 (wr.heap[gb136]? = some (.cells #[.int .i64 x137000_3, .string x137001_3, .int .i64 x137002_3, .int .i64 x137003_3, .int .i64 x137004_3, .int .i64 x137005_3, .int .i64 x137006_3, .int .i64 x137007_3, .bool x137008_3] 40 (0, 0))) := ⟨by rw [← hq_]; exact (by (with_reducible repeat (first | refine blk_drewN ?_ _ | refine blk_drew ?_ | refine blk_alloc ?_ _)); exact BK136.out)⟩; have n2_ : Aside0 (Below w.heap.size w wr) := ⟨by rw [← hq_]; exact (by repeat (first | (with_reducible first | exact HB.out | apply below_alloc | apply pw_below_drewN | apply below_drew1 | refine below_set ?_ GE135.out | refine below_set ?_ GE136.out) | exact HB.out))⟩; clear BK135 BK136 HB hq_; have BK135 := n0_; have BK136 := n1_; have HB := n2_; clear n0_ n1_ n2_)); have hnb45 := NB136_135.out; have hnc45 := NB135_136.out; have hcz46_0 : wr.cell? ⟨gb136, 0, none⟩ = some (.int .i64 x137000_3) := (blk_cell BK136.out 0).trans rfl; have hcz46_1 : wr.cell? ⟨gb136, 1, none⟩ = some (.string x137001_3) := (blk_cell BK136.out 1).trans rfl; have hcz46_2 : wr.cell? ⟨gb136, 2, none⟩ = some (.int .i64 x137002_3) := (blk_cell BK136.out 2).trans rfl; have hcz46_3 : wr.cell? ⟨gb136, 3, none⟩ = some (.int .i64 x137003_3) := (blk_cell BK136.out 3).trans rfl; have hcz46_4 : wr.cell? ⟨gb136, 4, none⟩ = some (.int .i64 x137004_3) := (blk_cell BK136.out 4).trans rfl; have hcz46_5 : wr.cell? ⟨gb136, 5, none⟩ = some (.int .i64 x137005_3) := (blk_cell BK136.out 5).trans rfl; have hcz46_6 : wr.cell? ⟨gb136, 6, none⟩ = some (.int .i64 x137006_3) := (blk_cell BK136.out 6).trans rfl; have hcz46_7 : wr.cell? ⟨gb136, 7, none⟩ = some (.int .i64 x137007_3) := (blk_cell BK136.out 7).trans rfl; have hcz46_8 : wr.cell? ⟨gb136, 8, none⟩ = some (.bool x137008_3) := (blk_cell BK136.out 8).trans rfl; have hfz46_0 := blk_frozen BK136.out 0; have hfz46_1 := blk_frozen BK136.out 1; have hfz46_2 := blk_frozen BK136.out 2; have hfz46_3 := blk_frozen BK136.out 3; have hfz46_4 := blk_frozen BK136.out 4; have hfz46_5 := blk_frozen BK136.out 5; have hfz46_6 := blk_frozen BK136.out 6; have hfz46_7 := blk_frozen BK136.out 7; have hfz46_8 := blk_frozen BK136.out 8))
                          refine bodyPost_ret (results_cell_row rfl _ _ gb136 40 #[.int .i64 1, .string (⟨#[]⟩ : ByteArray), .int .i64 0, .int .i64 0, .int .i64 0, .int .i64 0, .int .i64 0, .int .i64 0, .bool false] (0, 0) _ rfl (by (with_reducible repeat (first | refine blk_drewN ?_ _ | refine blk_drew ?_ | refine blk_alloc ?_ _)); refine blk_put (cs := #[.int .i64 1, .string (⟨#[]⟩ : ByteArray), .int .i64 0, .int .i64 0, .int .i64 0, .int .i64 0, .int .i64 0, .int .i64 0, .bool x137008_3]) ?_ 8 _ rfl; (with_reducible repeat (first | refine blk_drewN ?_ _ | refine blk_drew ?_ | refine blk_alloc ?_ _)); refine blk_put (cs := #[.int .i64 1, .string (⟨#[]⟩ : ByteArray), .int .i64 0, .int .i64 0, .int .i64 0, .int .i64 0, .int .i64 0, .int .i64 x137007_3, .bool x137008_3]) ?_ 7 _ rfl; (with_reducible repeat (first | refine blk_drewN ?_ _ | refine blk_drew ?_ | refine blk_alloc ?_ _)); refine blk_put (cs := #[.int .i64 1, .string (⟨#[]⟩ : ByteArray), .int .i64 0, .int .i64 0, .int .i64 0, .int .i64 0, .int .i64 x137006_3, .int .i64 x137007_3, .bool x137008_3]) ?_ 6 _ rfl; (with_reducible repeat (first | refine blk_drewN ?_ _ | refine blk_drew ?_ | refine blk_alloc ?_ _)); refine blk_put (cs := #[.int .i64 1, .string (⟨#[]⟩ : ByteArray), .int .i64 0, .int .i64 0, .int .i64 0, .int .i64 x137005_3, .int .i64 x137006_3, .int .i64 x137007_3, .bool x137008_3]) ?_ 5 _ rfl; (with_reducible repeat (first | refine blk_drewN ?_ _ | refine blk_drew ?_ | refine blk_alloc ?_ _)); refine blk_put (cs := #[.int .i64 1, .string (⟨#[]⟩ : ByteArray), .int .i64 0, .int .i64 0, .int .i64 x137004_3, .int .i64 x137005_3, .int .i64 x137006_3, .int .i64 x137007_3, .bool x137008_3]) ?_ 4 _ rfl; (with_reducible repeat (first | refine blk_drewN ?_ _ | refine blk_drew ?_ | refine blk_alloc ?_ _)); refine blk_put (cs := #[.int .i64 1, .string (⟨#[]⟩ : ByteArray), .int .i64 0, .int .i64 x137003_3, .int .i64 x137004_3, .int .i64 x137005_3, .int .i64 x137006_3, .int .i64 x137007_3, .bool x137008_3]) ?_ 3 _ rfl; (with_reducible repeat (first | refine blk_drewN ?_ _ | refine blk_drew ?_ | refine blk_alloc ?_ _)); refine blk_put (cs := #[.int .i64 1, .string (⟨#[]⟩ : ByteArray), .int .i64 x137002_3, .int .i64 x137003_3, .int .i64 x137004_3, .int .i64 x137005_3, .int .i64 x137006_3, .int .i64 x137007_3, .bool x137008_3]) ?_ 2 _ rfl; (with_reducible repeat (first | refine blk_drewN ?_ _ | refine blk_drew ?_ | refine blk_alloc ?_ _)); refine blk_put (cs := #[.int .i64 1, .string x137001_3, .int .i64 x137002_3, .int .i64 x137003_3, .int .i64 x137004_3, .int .i64 x137005_3, .int .i64 x137006_3, .int .i64 x137007_3, .bool x137008_3]) ?_ 1 _ rfl; (with_reducible repeat (first | refine blk_drewN ?_ _ | refine blk_drew ?_ | refine blk_alloc ?_ _)); refine blk_put (cs := #[.int .i64 x137000_3, .string x137001_3, .int .i64 x137002_3, .int .i64 x137003_3, .int .i64 x137004_3, .int .i64 x137005_3, .int .i64 x137006_3, .int .i64 x137007_3, .bool x137008_3]) ?_ 0 _ rfl; (with_reducible repeat (first | refine blk_drewN ?_ _ | refine blk_drew ?_ | refine blk_alloc ?_ _)); exact BK136.out) Try.underlying40 rfl (by kernel_rfl)) rfl ?_
                          exact ⟨by first | rfl | (simp [errW_none, errW_some] <;> rfl) | (simp [*, errW_none, errW_some] <;> rfl), by repeat (first | (with_reducible first | exact HB.out | apply below_alloc | apply pw_below_drewN | apply below_drew1 | refine below_set ?_ GE135.out | refine below_set ?_ GE136.out) | exact HB.out)⟩
                      · replace c42 := Bool.eq_false_iff.mpr c42
                        subst c42
                        have H1 : (some (1, (⟨#[]⟩ : ByteArray), 0, 0, 0, 0, 0, 0, false)) = some (r1, r2, r3, r4, r5, r6, r7, r8, r9) := by rw [if_neg (show ¬ (false = true) by decide)] at H; exact H
                        clear H
                        have H := H1
                        clear H1
                        simp only [Option.some.injEq, Prod.mk.injEq] at H
                        obtain ⟨rfl, rfl, rfl, rfl, rfl, rfl, rfl, rfl, rfl⟩ := H
                        have p138 : 0 ≤ (x9_3 : Int) := of_decide_eq_true (by first | (with_reducible assumption) | assumption)
                        have q138 : x9_3 < (l3.length : Int) := of_decide_eq_true (by first | (with_reducible assumption) | assumption)
                        obtain ⟨ad138, e138, hx138_0, hx138_1, hx138_2⟩ := at_T75 HR3.out x9_3 p138 q138
                        cases e138
                        replace hx138_0 := (HB.out.cell (World.block_lt_of_cell? w _ hx138_0)).trans hx138_0
                        replace hx138_1 := (HB.out.cell (World.block_lt_of_cell? w _ hx138_1)).trans hx138_1
                        replace hx138_2 := (HB.out.cell (World.block_lt_of_cell? w _ hx138_2)).trans hx138_2
                        replace p138 := eq_true p138
                        replace q138 := eq_true q138
                        go_wp2_with (first | ((with_reducible refine gate_callee (f := 54) rfl ?_); refine goesL_ (some 62) rfl rfl Try.func54 (by kernel_rfl) rfl #[.int .i64 ((rd_T75 l3 x9_3).f0)] rfl (by (try simp only [List.map_toArray, List.map_cons, List.map_nil]); first | done | rfl | (simp only [List.length_drop, List.length_take]; rfl)) ?_; (with_reducible refine (spec_l01IsWord.calls ((rd_T75 l3 x9_3).f0) false _ A41.out).mono ?_); rintro e w' ⟨rfl, ⟨nd, rfl⟩⟩; refine ⟨_, rfl, ?_⟩; (try (rw [drewN_self wr]; generalize hq_ : World.drewN wr _ = wr; have n0_ : Aside0 (wr.heap[gb135]? = some (.cells #[.int .i64 a1_0, .int .i64 a1_1, .int .i64 a1_2, .int .i64 a1_3, .int .i64 a1_4, .int .i64 a1_5] 31 (0, 0))) := ⟨by rw [← hq_]; exact (by (with_reducible repeat (first | refine blk_drewN ?_ _ | refine blk_drew ?_ | refine blk_alloc ?_ _)); exact BK135.out)⟩; have n1_ : Aside0 (wr.heap[gb136]? = some (.cells #[.int .i64 x137000_3, .string x137001_3, .int .i64 x137002_3, .int .i64 x137003_3, .int .i64 x137004_3, .int .i64 x137005_3, .int .i64 x137006_3, .int .i64 x137007_3, .bool x137008_3] 40 (0, 0))) := ⟨by rw [← hq_]; exact (by (with_reducible repeat (first | refine blk_drewN ?_ _ | refine blk_drew ?_ | refine blk_alloc ?_ _)); exact BK136.out)⟩; have n2_ : Aside0 (Below w.heap.size w wr) := ⟨by rw [← hq_]; exact (by repeat (first | (with_reducible first | exact HB.out | apply below_alloc | apply pw_below_drewN | apply below_drew1 | refine below_set ?_ GE135.out | refine below_set ?_ GE136.out) | exact HB.out))⟩; clear BK135 BK136 HB hq_; have BK135 := n0_; have BK136 := n1_; have HB := n2_; clear n0_ n1_ n2_)); have hnb47 := NB136_135.out; have hnc47 := NB135_136.out; have hcz48_0 : wr.cell? ⟨gb136, 0, none⟩ = some (.int .i64 x137000_3) := (blk_cell BK136.out 0).trans rfl; have hcz48_1 : wr.cell? ⟨gb136, 1, none⟩ = some (.string x137001_3) := (blk_cell BK136.out 1).trans rfl; have hcz48_2 : wr.cell? ⟨gb136, 2, none⟩ = some (.int .i64 x137002_3) := (blk_cell BK136.out 2).trans rfl; have hcz48_3 : wr.cell? ⟨gb136, 3, none⟩ = some (.int .i64 x137003_3) := (blk_cell BK136.out 3).trans rfl; have hcz48_4 : wr.cell? ⟨gb136, 4, none⟩ = some (.int .i64 x137004_3) := (blk_cell BK136.out 4).trans rfl; have hcz48_5 : wr.cell? ⟨gb136, 5, none⟩ = some (.int .i64 x137005_3) := (blk_cell BK136.out 5).trans rfl; have hcz48_6 : wr.cell? ⟨gb136, 6, none⟩ = some (.int .i64 x137006_3) := (blk_cell BK136.out 6).trans rfl; have hcz48_7 : wr.cell? ⟨gb136, 7, none⟩ = some (.int .i64 x137007_3) := (blk_cell BK136.out 7).trans rfl; have hcz48_8 : wr.cell? ⟨gb136, 8, none⟩ = some (.bool x137008_3) := (blk_cell BK136.out 8).trans rfl; have hfz48_0 := blk_frozen BK136.out 0; have hfz48_1 := blk_frozen BK136.out 1; have hfz48_2 := blk_frozen BK136.out 2; have hfz48_3 := blk_frozen BK136.out 3; have hfz48_4 := blk_frozen BK136.out 4; have hfz48_5 := blk_frozen BK136.out 5; have hfz48_6 := blk_frozen BK136.out 6; have hfz48_7 := blk_frozen BK136.out 7; have hfz48_8 := blk_frozen BK136.out 8))
                        refine bodyPost_ret (results_cell_row rfl _ _ gb136 40 #[.int .i64 1, .string (⟨#[]⟩ : ByteArray), .int .i64 0, .int .i64 0, .int .i64 0, .int .i64 0, .int .i64 0, .int .i64 0, .bool false] (0, 0) _ rfl (by (with_reducible repeat (first | refine blk_drewN ?_ _ | refine blk_drew ?_ | refine blk_alloc ?_ _)); refine blk_put (cs := #[.int .i64 1, .string (⟨#[]⟩ : ByteArray), .int .i64 0, .int .i64 0, .int .i64 0, .int .i64 0, .int .i64 0, .int .i64 0, .bool x137008_3]) ?_ 8 _ rfl; (with_reducible repeat (first | refine blk_drewN ?_ _ | refine blk_drew ?_ | refine blk_alloc ?_ _)); refine blk_put (cs := #[.int .i64 1, .string (⟨#[]⟩ : ByteArray), .int .i64 0, .int .i64 0, .int .i64 0, .int .i64 0, .int .i64 0, .int .i64 x137007_3, .bool x137008_3]) ?_ 7 _ rfl; (with_reducible repeat (first | refine blk_drewN ?_ _ | refine blk_drew ?_ | refine blk_alloc ?_ _)); refine blk_put (cs := #[.int .i64 1, .string (⟨#[]⟩ : ByteArray), .int .i64 0, .int .i64 0, .int .i64 0, .int .i64 0, .int .i64 x137006_3, .int .i64 x137007_3, .bool x137008_3]) ?_ 6 _ rfl; (with_reducible repeat (first | refine blk_drewN ?_ _ | refine blk_drew ?_ | refine blk_alloc ?_ _)); refine blk_put (cs := #[.int .i64 1, .string (⟨#[]⟩ : ByteArray), .int .i64 0, .int .i64 0, .int .i64 0, .int .i64 x137005_3, .int .i64 x137006_3, .int .i64 x137007_3, .bool x137008_3]) ?_ 5 _ rfl; (with_reducible repeat (first | refine blk_drewN ?_ _ | refine blk_drew ?_ | refine blk_alloc ?_ _)); refine blk_put (cs := #[.int .i64 1, .string (⟨#[]⟩ : ByteArray), .int .i64 0, .int .i64 0, .int .i64 x137004_3, .int .i64 x137005_3, .int .i64 x137006_3, .int .i64 x137007_3, .bool x137008_3]) ?_ 4 _ rfl; (with_reducible repeat (first | refine blk_drewN ?_ _ | refine blk_drew ?_ | refine blk_alloc ?_ _)); refine blk_put (cs := #[.int .i64 1, .string (⟨#[]⟩ : ByteArray), .int .i64 0, .int .i64 x137003_3, .int .i64 x137004_3, .int .i64 x137005_3, .int .i64 x137006_3, .int .i64 x137007_3, .bool x137008_3]) ?_ 3 _ rfl; (with_reducible repeat (first | refine blk_drewN ?_ _ | refine blk_drew ?_ | refine blk_alloc ?_ _)); refine blk_put (cs := #[.int .i64 1, .string (⟨#[]⟩ : ByteArray), .int .i64 x137002_3, .int .i64 x137003_3, .int .i64 x137004_3, .int .i64 x137005_3, .int .i64 x137006_3, .int .i64 x137007_3, .bool x137008_3]) ?_ 2 _ rfl; (with_reducible repeat (first | refine blk_drewN ?_ _ | refine blk_drew ?_ | refine blk_alloc ?_ _)); refine blk_put (cs := #[.int .i64 1, .string x137001_3, .int .i64 x137002_3, .int .i64 x137003_3, .int .i64 x137004_3, .int .i64 x137005_3, .int .i64 x137006_3, .int .i64 x137007_3, .bool x137008_3]) ?_ 1 _ rfl; (with_reducible repeat (first | refine blk_drewN ?_ _ | refine blk_drew ?_ | refine blk_alloc ?_ _)); refine blk_put (cs := #[.int .i64 x137000_3, .string x137001_3, .int .i64 x137002_3, .int .i64 x137003_3, .int .i64 x137004_3, .int .i64 x137005_3, .int .i64 x137006_3, .int .i64 x137007_3, .bool x137008_3]) ?_ 0 _ rfl; (with_reducible repeat (first | refine blk_drewN ?_ _ | refine blk_drew ?_ | refine blk_alloc ?_ _)); exact BK136.out) Try.underlying40 rfl (by kernel_rfl)) rfl ?_
                        exact ⟨by first | rfl | (simp [errW_none, errW_some] <;> rfl) | (simp [*, errW_none, errW_some] <;> rfl), by repeat (first | (with_reducible first | exact HB.out | apply below_alloc | apply pw_below_drewN | apply below_drew1 | refine below_set ?_ GE135.out | refine below_set ?_ GE136.out) | exact HB.out)⟩
                    · rw [if_neg c40] at H
                      exact absurd H (by simp)
                  · rw [if_neg c39] at H
                    have c39b0 : decide (x9_3 < (l3.length : Int)) = false := decide_eq_false c39
                    clear c39
                    have H' := Aside0.mk H
                    clear H
                    go_wp2
                    go_loopg [0, 10] k3 (fun kq v0 v10 w' => ∃ (x0_4 : ByteArray) (x10_4 : Int), v0 = .string x0_4 ∧ v10 = .int .i64 x10_4 ∧ Aside0 (spec_PostChain.l1 kq x0_4 a2 l3 x10_4 a1_0 a1_1 a1_2 a1_3 a1_4 a1_5 = some (r1, r2, r3, r4, r5, r6, r7, r8, r9)) ∧ Aside0 (kq ≤ k3) ∧ Aside0 (w'.heap[gb135]? = some (.cells #[.int .i64 a1_0, .int .i64 a1_1, .int .i64 a1_2, .int .i64 a1_3, .int .i64 a1_4, .int .i64 a1_5] 31 (0, 0))) ∧ Aside0 (w'.heap[gb136]? = some (.cells #[.int .i64 x137000_3, .string x137001_3, .int .i64 x137002_3, .int .i64 x137003_3, .int .i64 x137004_3, .int .i64 x137005_3, .int .i64 x137006_3, .int .i64 x137007_3, .bool x137008_3] 40 (0, 0))) ∧ Aside0 (Below w.heap.size w w'))
                    case atStart => exact ⟨(a0), (0), (by first | rfl | (simp; done) | (simp [*]; done)), (by first | rfl | (simp; done) | (simp [*]; done)), H', ⟨Nat.le_refl _⟩, ⟨by (with_reducible repeat (first | refine blk_drewN ?_ _ | refine blk_drew ?_ | refine blk_alloc ?_ _)); exact BK135.out⟩, ⟨by (with_reducible repeat (first | refine blk_drewN ?_ _ | refine blk_drew ?_ | refine blk_alloc ?_ _)); exact BK136.out⟩, ⟨by repeat (first | (with_reducible first | exact HB.out | apply below_alloc | apply pw_below_drewN | apply below_drew1 | refine below_set ?_ GE135.out | refine below_set ?_ GE136.out) | exact HB.out)⟩⟩
                    case round =>
                      clear H'
                      try clear c1
                      try clear p1
                      try clear q1
                      try clear hx1
                      try clear c2
                      try clear p2
                      try clear c3
                      try clear c4
                      try clear c5
                      try clear p6
                      try clear c8
                      try clear c8b0
                      try clear c8b1
                      try clear c9
                      try clear c10
                      try clear p13
                      try clear q13
                      try clear hx13
                      try clear c14
                      try clear c14b0
                      try clear c14b1
                      try clear p14
                      try clear q14
                      try clear hx14
                      try clear c15
                      try clear c15b0
                      try clear c16
                      try clear c19
                      try clear c19b0
                      try clear c20
                      try clear c24
                      try clear c24b0
                      try clear c24b1
                      try clear c25
                      try clear c29
                      try clear c30
                      try clear c33
                      try clear c36
                      try clear c37
                      try clear c39
                      try clear c39b0
                      try clear c40
                      try clear c40b0
                      try clear c42
                      try clear c44
                      try clear c45
                      try clear c47
                      try clear hcz11_0
                      try clear hcz11_1
                      try clear hcz11_2
                      try clear hcz11_3
                      try clear hcz11_4
                      try clear hcz11_5
                      try clear hcz11_6
                      try clear hcz11_7
                      try clear hcz11_8
                      try clear hcz17_0
                      try clear hcz17_1
                      try clear hcz17_2
                      try clear hcz17_3
                      try clear hcz17_4
                      try clear hcz17_5
                      try clear hcz21_0
                      try clear hcz21_1
                      try clear hcz21_2
                      try clear hcz21_3
                      try clear hcz21_4
                      try clear hcz21_5
                      try clear hcz23_0
                      try clear hcz23_1
                      try clear hcz23_2
                      try clear hcz23_3
                      try clear hcz23_4
                      try clear hcz23_5
                      try clear hcz26_0
                      try clear hcz26_1
                      try clear hcz26_2
                      try clear hcz26_3
                      try clear hcz26_4
                      try clear hcz26_5
                      try clear hcz28_0
                      try clear hcz28_1
                      try clear hcz28_2
                      try clear hcz28_3
                      try clear hcz28_4
                      try clear hcz28_5
                      try clear hcz30_0
                      try clear hcz30_1
                      try clear hcz30_2
                      try clear hcz30_3
                      try clear hcz30_4
                      try clear hcz30_5
                      try clear hcz32_0
                      try clear hcz32_1
                      try clear hcz32_2
                      try clear hcz32_3
                      try clear hcz32_4
                      try clear hcz32_5
                      try clear hcz34_0
                      try clear hcz34_1
                      try clear hcz34_2
                      try clear hcz34_3
                      try clear hcz34_4
                      try clear hcz34_5
                      try clear hcz38_0
                      try clear hcz38_1
                      try clear hcz38_2
                      try clear hcz38_3
                      try clear hcz38_4
                      try clear hcz38_5
                      try clear hcz38_6
                      try clear hcz38_7
                      try clear hcz38_8
                      try clear hcz46_0
                      try clear hcz46_1
                      try clear hcz46_2
                      try clear hcz46_3
                      try clear hcz46_4
                      try clear hcz46_5
                      try clear hcz46_6
                      try clear hcz46_7
                      try clear hcz46_8
                      try clear hcz48_0
                      try clear hcz48_1
                      try clear hcz48_2
                      try clear hcz48_3
                      try clear hcz48_4
                      try clear hcz48_5
                      try clear hcz48_6
                      try clear hcz48_7
                      try clear hcz48_8
                      try clear hfz11_0
                      try clear hfz11_1
                      try clear hfz11_2
                      try clear hfz11_3
                      try clear hfz11_4
                      try clear hfz11_5
                      try clear hfz11_6
                      try clear hfz11_7
                      try clear hfz11_8
                      try clear hfz17_0
                      try clear hfz17_1
                      try clear hfz17_2
                      try clear hfz17_3
                      try clear hfz17_4
                      try clear hfz17_5
                      try clear hfz21_0
                      try clear hfz21_1
                      try clear hfz21_2
                      try clear hfz21_3
                      try clear hfz21_4
                      try clear hfz21_5
                      try clear hfz23_0
                      try clear hfz23_1
                      try clear hfz23_2
                      try clear hfz23_3
                      try clear hfz23_4
                      try clear hfz23_5
                      try clear hfz26_0
                      try clear hfz26_1
                      try clear hfz26_2
                      try clear hfz26_3
                      try clear hfz26_4
                      try clear hfz26_5
                      try clear hfz28_0
                      try clear hfz28_1
                      try clear hfz28_2
                      try clear hfz28_3
                      try clear hfz28_4
                      try clear hfz28_5
                      try clear hfz30_0
                      try clear hfz30_1
                      try clear hfz30_2
                      try clear hfz30_3
                      try clear hfz30_4
                      try clear hfz30_5
                      try clear hfz32_0
                      try clear hfz32_1
                      try clear hfz32_2
                      try clear hfz32_3
                      try clear hfz32_4
                      try clear hfz32_5
                      try clear hfz34_0
                      try clear hfz34_1
                      try clear hfz34_2
                      try clear hfz34_3
                      try clear hfz34_4
                      try clear hfz34_5
                      try clear hfz38_0
                      try clear hfz38_1
                      try clear hfz38_2
                      try clear hfz38_3
                      try clear hfz38_4
                      try clear hfz38_5
                      try clear hfz38_6
                      try clear hfz38_7
                      try clear hfz38_8
                      try clear hfz46_0
                      try clear hfz46_1
                      try clear hfz46_2
                      try clear hfz46_3
                      try clear hfz46_4
                      try clear hfz46_5
                      try clear hfz46_6
                      try clear hfz46_7
                      try clear hfz46_8
                      try clear hfz48_0
                      try clear hfz48_1
                      try clear hfz48_2
                      try clear hfz48_3
                      try clear hfz48_4
                      try clear hfz48_5
                      try clear hfz48_6
                      try clear hfz48_7
                      try clear hfz48_8
                      try clear hx138_0
                      try clear hx138_1
                      try clear hx138_2
                      try clear hx140_0
                      try clear hx140_1
                      try clear hx140_2
                      try clear p138
                      try clear p140
                      try clear p2
                      try clear q138
                      try clear q140
                      obtain ⟨x0_4, x10_4, rfl, rfl, HA, HK4, BK135, BK136, HB⟩ := hrel
                      cases gk with
                      | zero => exact absurd HA.out (by simp [spec_PostChain.l1])
                      | succ k4 =>
                        have H := HA.out
                        clear HA
                        simp only [spec_PostChain.l1] at H
                        by_cases c49 : x10_4 < (l3.length : Int)
                        · rw [if_pos c49] at H
                          have c49b0 : decide (x10_4 < (l3.length : Int)) = true := decide_eq_true c49
                          clear c49
                          by_cases c50 : a1_0 = 0
                          · rw [if_pos c50] at H
                            exact absurd H (by simp)
                          · rw [if_neg c50] at H
                            have c50b0 : (a1_0 == 0) = false := beq_eq_false_iff_ne.mpr c50
                            have c50b1 : (a1_0 != 0) = true := bne_iff_ne.mpr c50
                            by_cases c51 : 0 ≤ x10_4
                            · rw [if_pos c51] at H
                              have c51b0 : decide (0 ≤ x10_4) = true := decide_eq_true c51
                              clear c51
                              replace H := Option.bind_eq_some_iff.mp H
                              obtain ⟨t146, A520, H⟩ := H
                              replace H : (if (wrap64 (x10_4 + 1)) < (l3.length : Int) then (spec_PostChain.j4 k4 x0_4 a2 l3 x10_4 (wrap64 (a1_1 + (wrap64 (16 * (Int.tmod (wrap64 (a2 + x10_4)) a1_0))))) (wrap64 ((wrap64 (2 * t146)) + 1)) (Int.tmod (wrap64 ((wrap64 (a2 + x10_4)) + 1)) a1_0) a1_0 a1_1 a1_2 a1_3 a1_4 a1_5) else (spec_PostChain.j4 k4 x0_4 a2 l3 x10_4 (wrap64 (a1_1 + (wrap64 (16 * (Int.tmod (wrap64 (a2 + x10_4)) a1_0))))) (wrap64 (2 * t146)) 0 a1_0 a1_1 a1_2 a1_3 a1_4 a1_5)) = some (r1, r2, r3, r4, r5, r6, r7, r8, r9) := H
                              have A52 := Aside0.mk A520
                              clear A520
                              have HC53 := Aside0.mk H
                              clear H
                              try go_wp2
                              have n0_ := Aside0.mk (blk_drew BK135.out)
                              have n1_ := Aside0.mk (blk_drew BK136.out)
                              have n2_ := Aside0.mk (below_drew1 HB.out)
                              clear BK135
                              clear BK136
                              clear HB
                              have BK135 := n0_
                              have BK136 := n1_
                              have HB := n2_
                              clear n0_ n1_ n2_
                              refine start_ (n := 11) (S := fun w' => w'.cell? ⟨gb135, 0, none⟩ = some (.int .i64 a1_0) ∧ w'.cell? ⟨gb135, 1, none⟩ = some (.int .i64 a1_1) ∧ w'.cell? ⟨gb135, 2, none⟩ = some (.int .i64 a1_2) ∧ w'.cell? ⟨gb135, 3, none⟩ = some (.int .i64 a1_3) ∧ w'.cell? ⟨gb135, 4, none⟩ = some (.int .i64 a1_4) ∧ w'.cell? ⟨gb135, 5, none⟩ = some (.int .i64 a1_5)) (ds := []) #[false, false, false, false, false, false, false, false, false, false, false] (by kernel_rfl) rfl rfl ⟨(blk_cell BK135.out 0).trans rfl, (blk_cell BK135.out 1).trans rfl, (blk_cell BK135.out 2).trans rfl, (blk_cell BK135.out 3).trans rfl, (blk_cell BK135.out 4).trans rfl, (blk_cell BK135.out 5).trans rfl⟩ (fun hHeld => ?_); refine with_tabW spec_PostChain.tab13 spec_PostChain.bits13 (fun HT_ HW_ => ?_)
                              generalize wr.drew = w54 at BK135 BK136 HB hHeld ⊢
                              refine pure_ (i := 0) (N := some 80) (v := ?_) (a' := ?_) #[true, false, false, false, false, false, false, false, false, false, false] rfl rfl (any_of HT_.out (by kernel_rfl)) (fun _ _ _ h => h) (Or.inl ⟨by rfl, ?_⟩) ?_ ?_
                              rotate_left
                              · intro w'
                                go_simp
                                first | with_reducible rfl | (rw [if_neg (by (try clear HT_ HW_); simp only [ByteArray.size_extract, ByteArray.size_append, decide_eq_true_eq] at *; omega)]; try with_reducible rfl)
                              rotate_left
                              · simp only [Act.put, List.setIfInBounds_toArray, List.set_cons_zero, List.set_cons_succ, i64_w, i32_w]
                                rfl
                              refine pure_ (i := 2) (N := some 82) (v := ?_) (a' := ?_) #[true, false, true, false, false, false, false, false, false, false, false] rfl rfl (any_of HT_.out (by kernel_rfl)) (fun _ _ _ h => h) (Or.inl ⟨by rfl, ?_⟩) ?_ ?_
                              rotate_left
                              · intro w'
                                go_simp
                                first | with_reducible rfl | (rw [if_neg (by (try clear HT_ HW_); simp only [ByteArray.size_extract, ByteArray.size_append, decide_eq_true_eq] at *; omega)]; try with_reducible rfl)
                              rotate_left
                              · simp only [Act.put, List.setIfInBounds_toArray, List.set_cons_zero, List.set_cons_succ, i64_w, i32_w]
                                rfl
                              refine pure_ (i := 3) (N := some 83) (v := ?_) (a' := ?_) #[true, false, true, true, false, false, false, false, false, false, false] rfl rfl (any_of HT_.out (by kernel_rfl)) (fun _ _ _ h => h) (Or.inl ⟨by rfl, ?_⟩) ?_ ?_
                              rotate_left
                              · intro w'
                                go_simp
                                first | with_reducible rfl | (rw [if_neg (by (try clear HT_ HW_); simp only [ByteArray.size_extract, ByteArray.size_append, decide_eq_true_eq] at *; omega)]; try with_reducible rfl)
                              rotate_left
                              · simp only [Act.put, List.setIfInBounds_toArray, List.set_cons_zero, List.set_cons_succ, i64_w, i32_w]
                                rfl
                              refine pure_ (i := 4) (N := some 84) (v := ?_) (a' := ?_) #[true, false, true, true, true, false, false, false, false, false, false] rfl rfl (any_of HT_.out (by kernel_rfl)) (fun _ _ _ h => h) (Or.inl ⟨by rfl, ?_⟩) ?_ ?_
                              rotate_left
                              · intro w'
                                go_simp
                                first | with_reducible rfl | (rw [if_neg (by (try clear HT_ HW_); simp only [ByteArray.size_extract, ByteArray.size_append, decide_eq_true_eq] at *; omega)]; try with_reducible rfl)
                              rotate_left
                              · simp only [Act.put, List.setIfInBounds_toArray, List.set_cons_zero, List.set_cons_succ, i64_w, i32_w]
                                rfl
                              refine pure_ (i := 5) (N := some 85) (v := ?_) (a' := ?_) #[true, false, true, true, true, true, false, false, false, false, false] rfl rfl (any_of HT_.out (by kernel_rfl)) (fun _ _ _ h => h) (Or.inl ⟨by rfl, ?_⟩) ?_ ?_
                              rotate_left
                              · intro w'
                                go_simp
                                first | with_reducible rfl | (rw [if_neg (by (try clear HT_ HW_); simp only [ByteArray.size_extract, ByteArray.size_append, decide_eq_true_eq] at *; omega)]; try with_reducible rfl)
                              rotate_left
                              · simp only [Act.put, List.setIfInBounds_toArray, List.set_cons_zero, List.set_cons_succ, i64_w, i32_w]
                                rfl
                              refine take_ (i := 1) (N := some 81) (v := ?_) (a' := ?_) #[true, true, true, true, true, true, false, false, false, false, false] rfl rfl (take_ofW HT_.out HW_.out (by kernel_rfl)) (fun _ _ _ h => h) (Or.inl ⟨by rfl, ?_⟩) hHeld ?_ ?_
                              rotate_left
                              · rintro w' ⟨s0, s1, s2, s3, s4, s5⟩
                                go_simp
                                first | with_reducible rfl | (rw [if_neg (by (try clear HT_ HW_); simp only [ByteArray.size_extract, ByteArray.size_append, decide_eq_true_eq] at *; omega)]; try with_reducible rfl)
                              rotate_left
                              · simp only [Act.put, List.setIfInBounds_toArray, List.set_cons_zero, List.set_cons_succ, i64_w, i32_w]
                                rfl
                              refine take_ (i := 6) (N := some 86) (v := ?_) (a' := ?_) #[true, true, true, true, true, true, true, false, false, false, false] rfl rfl (take_ofW HT_.out HW_.out (by kernel_rfl)) (fun _ _ _ h => h) (Or.inl ⟨by rfl, ?_⟩) hHeld ?_ ?_
                              rotate_left
                              · rintro w' ⟨s0, s1, s2, s3, s4, s5⟩
                                go_simp
                                first | with_reducible rfl | (rw [if_neg (by (try clear HT_ HW_); simp only [ByteArray.size_extract, ByteArray.size_append, decide_eq_true_eq] at *; omega)]; try with_reducible rfl)
                              rotate_left
                              · simp only [Act.put, List.setIfInBounds_toArray, List.set_cons_zero, List.set_cons_succ, i64_w, i32_w]
                                rfl
                              refine pure_ (i := 7) (N := some 87) (v := ?_) (a' := ?_) #[true, true, true, true, true, true, true, true, false, false, false] rfl rfl (any_of HT_.out (by kernel_rfl)) (fun _ _ _ h => h) (Or.inl ⟨by rfl, ?_⟩) ?_ ?_
                              rotate_left
                              · intro w'
                                go_simp
                                first | with_reducible rfl | (rw [if_neg (by (try clear HT_ HW_); simp only [ByteArray.size_extract, ByteArray.size_append, decide_eq_true_eq] at *; omega)]; try with_reducible rfl)
                              rotate_left
                              · simp only [Act.put, List.setIfInBounds_toArray, List.set_cons_zero, List.set_cons_succ, i64_w, i32_w]
                                rfl
                              refine pure_ (i := 8) (N := some 88) (v := ?_) (a' := ?_) #[true, true, true, true, true, true, true, true, true, false, false] rfl rfl (any_of HT_.out (by kernel_rfl)) (fun _ _ _ h => h) (Or.inl ⟨by rfl, ?_⟩) ?_ ?_
                              rotate_left
                              · intro w'
                                go_simp
                                first | with_reducible rfl | (rw [if_neg (by (try clear HT_ HW_); simp only [ByteArray.size_extract, ByteArray.size_append, decide_eq_true_eq] at *; omega)]; try with_reducible rfl)
                              rotate_left
                              · simp only [Act.put, List.setIfInBounds_toArray, List.set_cons_zero, List.set_cons_succ, i64_w, i32_w]
                                rfl
                              refine pure_ (i := 9) (N := some 89) (v := ?_) (a' := ?_) #[true, true, true, true, true, true, true, true, true, true, false] rfl rfl (any_of HT_.out (by kernel_rfl)) (fun _ _ _ h => h) (Or.inl ⟨by rfl, ?_⟩) ?_ ?_
                              rotate_left
                              · intro w'
                                go_simp
                                first | with_reducible rfl | (rw [if_neg (by (try clear HT_ HW_); simp only [ByteArray.size_extract, ByteArray.size_append, decide_eq_true_eq] at *; omega)]; try with_reducible rfl)
                              rotate_left
                              · simp only [Act.put, List.setIfInBounds_toArray, List.set_cons_zero, List.set_cons_succ, i64_w, i32_w]
                                rfl
                              refine pure_ (i := 10) (N := some 11) (v := ?_) (a' := ?_) #[true, true, true, true, true, true, true, true, true, true, true] rfl rfl (any_of HT_.out (by kernel_rfl)) (fun _ _ _ h => h) (Or.inl ⟨by rfl, ?_⟩) ?_ ?_
                              rotate_left
                              · intro w'
                                go_simp
                                first | with_reducible rfl | (rw [if_neg (by (try clear HT_ HW_); simp only [ByteArray.size_extract, ByteArray.size_append, decide_eq_true_eq] at *; omega)]; try with_reducible rfl)
                              rotate_left
                              · simp only [Act.put, List.setIfInBounds_toArray, List.set_cons_zero, List.set_cons_succ, i64_w, i32_w]
                                rfl
                              refine done_ (done_of HT_.out (by kernel_rfl)) ?_
                              have p145 : 0 ≤ (x10_4 : Int) := of_decide_eq_true (by first | (with_reducible assumption) | assumption)
                              have q145 : x10_4 < (l3.length : Int) := of_decide_eq_true (by first | (with_reducible assumption) | assumption)
                              obtain ⟨ad145, e145, hx145_0, hx145_1, hx145_2⟩ := at_T75 HR3.out x10_4 p145 q145
                              cases e145
                              replace hx145_0 := (HB.out.cell (World.block_lt_of_cell? w _ hx145_0)).trans hx145_0
                              replace hx145_1 := (HB.out.cell (World.block_lt_of_cell? w _ hx145_1)).trans hx145_1
                              replace hx145_2 := (HB.out.cell (World.block_lt_of_cell? w _ hx145_2)).trans hx145_2
                              replace p145 := eq_true p145
                              replace q145 := eq_true q145
                              go_upto_if 101 with (first | ((with_reducible refine gate_callee (f := 68) rfl ?_); refine goesL_ (some 95) rfl rfl Try.func68 (by kernel_rfl) rfl #[.bool ((rd_T75 l3 x10_4).f2)] rfl (by (try simp only [List.map_toArray, List.map_cons, List.map_nil]); first | done | rfl | (simp only [List.length_drop, List.length_take]; rfl)) ?_; (with_reducible refine (spec_l01Bool.calls ((rd_T75 l3 x10_4).f2) t146 _ A52.out).mono ?_); rintro e w' ⟨rfl, ⟨nd, rfl⟩⟩; refine ⟨_, rfl, ?_⟩))
                              (try simp only [Act.put, List.setIfInBounds_toArray, List.set_cons_zero, List.set_cons_succ])
                              go_cut [12, 13] (fun v12 v13 wc => ∃ (kq : Nat) (x12_52 : Int) (x13_52 : Int), v12 = .int .i64 x12_52 ∧ v13 = .int .i64 x13_52 ∧ Aside0 (spec_PostChain.j4 kq x0_4 a2 l3 x10_4 (wrap64 (a1_1 + (wrap64 (16 * (Int.tmod (wrap64 (a2 + x10_4)) a1_0))))) x12_52 x13_52 a1_0 a1_1 a1_2 a1_3 a1_4 a1_5 = some (r1, r2, r3, r4, r5, r6, r7, r8, r9)) ∧ Aside0 (kq ≤ k4) ∧ Aside0 (wc.heap[gb135]? = some (.cells #[.int .i64 a1_0, .int .i64 a1_1, .int .i64 a1_2, .int .i64 a1_3, .int .i64 a1_4, .int .i64 a1_5] 31 (0, 0))) ∧ Aside0 (wc.heap[gb136]? = some (.cells #[.int .i64 x137000_3, .string x137001_3, .int .i64 x137002_3, .int .i64 x137003_3, .int .i64 x137004_3, .int .i64 x137005_3, .int .i64 x137006_3, .int .i64 x137007_3, .bool x137008_3] 40 (0, 0))) ∧ Aside0 (Below w.heap.size w wc))
                              case first =>
                                have H := HC53.out
                                clear HC53
                                by_cases c55 : (wrap64 (x10_4 + 1)) < (l3.length : Int)
                                · rw [if_pos c55] at H
                                  have c55b0 : decide ((wrap64 (x10_4 + 1)) < (l3.length : Int)) = true := decide_eq_true c55
                                  clear c55
                                  (first | rw [c55b0] | (simp only [i64_w, i32_w]; rw [c55b0]) | skip)
                                  have H' := Aside0.mk H
                                  clear H
                                  have hnb56 := NB135_136.out
                                  have hnc56 := NB136_135.out
                                  have hcz57_0 : w54.cell? ⟨gb135, 0, none⟩ = some (.int .i64 a1_0) := (blk_cell BK135.out 0).trans rfl
                                  have hcz57_1 : w54.cell? ⟨gb135, 1, none⟩ = some (.int .i64 a1_1) := (blk_cell BK135.out 1).trans rfl
                                  have hcz57_2 : w54.cell? ⟨gb135, 2, none⟩ = some (.int .i64 a1_2) := (blk_cell BK135.out 2).trans rfl
                                  have hcz57_3 : w54.cell? ⟨gb135, 3, none⟩ = some (.int .i64 a1_3) := (blk_cell BK135.out 3).trans rfl
                                  have hcz57_4 : w54.cell? ⟨gb135, 4, none⟩ = some (.int .i64 a1_4) := (blk_cell BK135.out 4).trans rfl
                                  have hcz57_5 : w54.cell? ⟨gb135, 5, none⟩ = some (.int .i64 a1_5) := (blk_cell BK135.out 5).trans rfl
                                  have hfz57_0 := blk_frozen BK135.out 0
                                  have hfz57_1 := blk_frozen BK135.out 1
                                  have hfz57_2 := blk_frozen BK135.out 2
                                  have hfz57_3 := blk_frozen BK135.out 3
                                  have hfz57_4 := blk_frozen BK135.out 4
                                  have hfz57_5 := blk_frozen BK135.out 5
                                  go_wp2
                                  go_meet
                                  case rel => exact ⟨_, (wrap64 ((wrap64 (2 * t146)) + 1)), (Int.tmod (wrap64 ((wrap64 (a2 + x10_4)) + 1)) a1_0), (by first | rfl | (simp; done) | (simp [*]; done)), (by first | rfl | (simp; done) | (simp [*]; done)), H', ⟨by have := HJ4.out; have := HJ11.out; have := HK3.out; have := HK4.out; first | omega | exact Nat.le_refl _⟩, ⟨by (with_reducible repeat (first | refine blk_drewN ?_ _ | refine blk_drew ?_ | refine blk_alloc ?_ _)); exact BK135.out⟩, ⟨by (with_reducible repeat (first | refine blk_drewN ?_ _ | refine blk_drew ?_ | refine blk_alloc ?_ _)); exact BK136.out⟩, ⟨by repeat (first | (with_reducible first | exact HB.out | apply below_alloc | apply pw_below_drewN | apply below_drew1 | refine below_set ?_ GE135.out | refine below_set ?_ GE136.out) | exact HB.out)⟩⟩
                                · rw [if_neg c55] at H
                                  have c55b0 : decide ((wrap64 (x10_4 + 1)) < (l3.length : Int)) = false := decide_eq_false c55
                                  clear c55
                                  (first | rw [c55b0] | (simp only [i64_w, i32_w]; rw [c55b0]) | skip)
                                  have H' := Aside0.mk H
                                  clear H
                                  go_wp2
                                  go_meet
                                  case rel => exact ⟨_, (wrap64 (2 * t146)), (0), (by first | rfl | (simp; done) | (simp [*]; done)), (by first | rfl | (simp; done) | (simp [*]; done)), H', ⟨by have := HJ4.out; have := HJ11.out; have := HK3.out; have := HK4.out; first | omega | exact Nat.le_refl _⟩, ⟨by (with_reducible repeat (first | refine blk_drewN ?_ _ | refine blk_drew ?_ | refine blk_alloc ?_ _)); exact BK135.out⟩, ⟨by (with_reducible repeat (first | refine blk_drewN ?_ _ | refine blk_drew ?_ | refine blk_alloc ?_ _)); exact BK136.out⟩, ⟨by repeat (first | (with_reducible first | exact HB.out | apply below_alloc | apply pw_below_drewN | apply below_drew1 | refine below_set ?_ GE135.out | refine below_set ?_ GE136.out) | exact HB.out)⟩⟩
                              case rest =>
                                clear HC53
                                try clear c1
                                try clear p1
                                try clear q1
                                try clear hx1
                                try clear c2
                                try clear p2
                                try clear c3
                                try clear c4
                                try clear c5
                                try clear c6
                                try clear p6
                                try clear c8
                                try clear c8b0
                                try clear c8b1
                                try clear c9
                                try clear c10
                                try clear p13
                                try clear q13
                                try clear hx13
                                try clear c14
                                try clear c14b0
                                try clear c14b1
                                try clear p14
                                try clear q14
                                try clear hx14
                                try clear c15
                                try clear c15b0
                                try clear c16
                                try clear c19
                                try clear c19b0
                                try clear c20
                                try clear c24
                                try clear c24b0
                                try clear c24b1
                                try clear c25
                                try clear c29
                                try clear c30
                                try clear c33
                                try clear c36
                                try clear c37
                                try clear c39
                                try clear c39b0
                                try clear c40
                                try clear c40b0
                                try clear c42
                                try clear c44
                                try clear c45
                                try clear c47
                                try clear c49
                                try clear c49b0
                                try clear c50
                                try clear c50b0
                                try clear c50b1
                                try clear c51
                                try clear c51b0
                                try clear c54
                                try clear c55
                                try clear c55b0
                                try clear c56
                                try clear hcz11_0
                                try clear hcz11_1
                                try clear hcz11_2
                                try clear hcz11_3
                                try clear hcz11_4
                                try clear hcz11_5
                                try clear hcz11_6
                                try clear hcz11_7
                                try clear hcz11_8
                                try clear hcz17_0
                                try clear hcz17_1
                                try clear hcz17_2
                                try clear hcz17_3
                                try clear hcz17_4
                                try clear hcz17_5
                                try clear hcz21_0
                                try clear hcz21_1
                                try clear hcz21_2
                                try clear hcz21_3
                                try clear hcz21_4
                                try clear hcz21_5
                                try clear hcz23_0
                                try clear hcz23_1
                                try clear hcz23_2
                                try clear hcz23_3
                                try clear hcz23_4
                                try clear hcz23_5
                                try clear hcz26_0
                                try clear hcz26_1
                                try clear hcz26_2
                                try clear hcz26_3
                                try clear hcz26_4
                                try clear hcz26_5
                                try clear hcz28_0
                                try clear hcz28_1
                                try clear hcz28_2
                                try clear hcz28_3
                                try clear hcz28_4
                                try clear hcz28_5
                                try clear hcz30_0
                                try clear hcz30_1
                                try clear hcz30_2
                                try clear hcz30_3
                                try clear hcz30_4
                                try clear hcz30_5
                                try clear hcz32_0
                                try clear hcz32_1
                                try clear hcz32_2
                                try clear hcz32_3
                                try clear hcz32_4
                                try clear hcz32_5
                                try clear hcz34_0
                                try clear hcz34_1
                                try clear hcz34_2
                                try clear hcz34_3
                                try clear hcz34_4
                                try clear hcz34_5
                                try clear hcz38_0
                                try clear hcz38_1
                                try clear hcz38_2
                                try clear hcz38_3
                                try clear hcz38_4
                                try clear hcz38_5
                                try clear hcz38_6
                                try clear hcz38_7
                                try clear hcz38_8
                                try clear hcz46_0
                                try clear hcz46_1
                                try clear hcz46_2
                                try clear hcz46_3
                                try clear hcz46_4
                                try clear hcz46_5
                                try clear hcz46_6
                                try clear hcz46_7
                                try clear hcz46_8
                                try clear hcz48_0
                                try clear hcz48_1
                                try clear hcz48_2
                                try clear hcz48_3
                                try clear hcz48_4
                                try clear hcz48_5
                                try clear hcz48_6
                                try clear hcz48_7
                                try clear hcz48_8
                                try clear hcz57_0
                                try clear hcz57_1
                                try clear hcz57_2
                                try clear hcz57_3
                                try clear hcz57_4
                                try clear hcz57_5
                                try clear hfz11_0
                                try clear hfz11_1
                                try clear hfz11_2
                                try clear hfz11_3
                                try clear hfz11_4
                                try clear hfz11_5
                                try clear hfz11_6
                                try clear hfz11_7
                                try clear hfz11_8
                                try clear hfz17_0
                                try clear hfz17_1
                                try clear hfz17_2
                                try clear hfz17_3
                                try clear hfz17_4
                                try clear hfz17_5
                                try clear hfz21_0
                                try clear hfz21_1
                                try clear hfz21_2
                                try clear hfz21_3
                                try clear hfz21_4
                                try clear hfz21_5
                                try clear hfz23_0
                                try clear hfz23_1
                                try clear hfz23_2
                                try clear hfz23_3
                                try clear hfz23_4
                                try clear hfz23_5
                                try clear hfz26_0
                                try clear hfz26_1
                                try clear hfz26_2
                                try clear hfz26_3
                                try clear hfz26_4
                                try clear hfz26_5
                                try clear hfz28_0
                                try clear hfz28_1
                                try clear hfz28_2
                                try clear hfz28_3
                                try clear hfz28_4
                                try clear hfz28_5
                                try clear hfz30_0
                                try clear hfz30_1
                                try clear hfz30_2
                                try clear hfz30_3
                                try clear hfz30_4
                                try clear hfz30_5
                                try clear hfz32_0
                                try clear hfz32_1
                                try clear hfz32_2
                                try clear hfz32_3
                                try clear hfz32_4
                                try clear hfz32_5
                                try clear hfz34_0
                                try clear hfz34_1
                                try clear hfz34_2
                                try clear hfz34_3
                                try clear hfz34_4
                                try clear hfz34_5
                                try clear hfz38_0
                                try clear hfz38_1
                                try clear hfz38_2
                                try clear hfz38_3
                                try clear hfz38_4
                                try clear hfz38_5
                                try clear hfz38_6
                                try clear hfz38_7
                                try clear hfz38_8
                                try clear hfz46_0
                                try clear hfz46_1
                                try clear hfz46_2
                                try clear hfz46_3
                                try clear hfz46_4
                                try clear hfz46_5
                                try clear hfz46_6
                                try clear hfz46_7
                                try clear hfz46_8
                                try clear hfz48_0
                                try clear hfz48_1
                                try clear hfz48_2
                                try clear hfz48_3
                                try clear hfz48_4
                                try clear hfz48_5
                                try clear hfz48_6
                                try clear hfz48_7
                                try clear hfz48_8
                                try clear hfz57_0
                                try clear hfz57_1
                                try clear hfz57_2
                                try clear hfz57_3
                                try clear hfz57_4
                                try clear hfz57_5
                                try clear hx138_0
                                try clear hx138_1
                                try clear hx138_2
                                try clear hx140_0
                                try clear hx140_1
                                try clear hx140_2
                                try clear hx145_0
                                try clear hx145_1
                                try clear hx145_2
                                try clear p1
                                try clear p13
                                try clear p138
                                try clear p14
                                try clear p140
                                try clear p145
                                try clear p2
                                try clear p6
                                try clear q1
                                try clear q13
                                try clear q138
                                try clear q14
                                try clear q140
                                try clear q145
                                obtain ⟨kq, x12_52, x13_52, rfl, rfl, HA, HJ52, BK135, BK136, HB⟩ := hcut
                                cases kq with
                                | zero => exact absurd HA.out (by simp [spec_PostChain.j4])
                                | succ kj52 =>
                                  have H := HA.out
                                  clear HA
                                  simp only [spec_PostChain.j4] at H
                                  by_cases c58 : 0 ≤ x10_4
                                  · rw [if_pos c58] at H
                                    have c58b0 : decide (0 ≤ x10_4) = true := decide_eq_true c58
                                    clear c58
                                    by_cases c59 : x10_4 < (l3.length : Int)
                                    · rw [if_pos c59] at H
                                      have c59b0 : decide (x10_4 < (l3.length : Int)) = true := decide_eq_true c59
                                      clear c59
                                      replace H := Option.bind_eq_some_iff.mp H
                                      obtain ⟨t148, A600, H⟩ := H
                                      replace H : ((spec_SetWord.f t148 (wrap64 ((wrap64 (a1_1 + (wrap64 (16 * (Int.tmod (wrap64 (a2 + x10_4)) a1_0))))) + 4)) ((rd_T75 l3 x10_4).f1)).bind fun t150 => ((spec_SetWord.f t150 (wrap64 ((wrap64 (a1_1 + (wrap64 (16 * (Int.tmod (wrap64 (a2 + x10_4)) a1_0))))) + 8)) x12_52).bind fun t151 => ((spec_SetWord.f t151 (wrap64 ((wrap64 (a1_1 + (wrap64 (16 * (Int.tmod (wrap64 (a2 + x10_4)) a1_0))))) + 12)) x13_52).bind fun t152 => (spec_PostChain.l1 kj52 t152 a2 l3 (wrap64 (x10_4 + 1)) a1_0 a1_1 a1_2 a1_3 a1_4 a1_5)))) = some (r1, r2, r3, r4, r5, r6, r7, r8, r9) := H
                                      have A60 := Aside0.mk A600
                                      clear A600
                                      replace H := Option.bind_eq_some_iff.mp H
                                      obtain ⟨t150, A610, H⟩ := H
                                      replace H : ((spec_SetWord.f t150 (wrap64 ((wrap64 (a1_1 + (wrap64 (16 * (Int.tmod (wrap64 (a2 + x10_4)) a1_0))))) + 8)) x12_52).bind fun t151 => ((spec_SetWord.f t151 (wrap64 ((wrap64 (a1_1 + (wrap64 (16 * (Int.tmod (wrap64 (a2 + x10_4)) a1_0))))) + 12)) x13_52).bind fun t152 => (spec_PostChain.l1 kj52 t152 a2 l3 (wrap64 (x10_4 + 1)) a1_0 a1_1 a1_2 a1_3 a1_4 a1_5))) = some (r1, r2, r3, r4, r5, r6, r7, r8, r9) := H
                                      have A61 := Aside0.mk A610
                                      clear A610
                                      replace H := Option.bind_eq_some_iff.mp H
                                      obtain ⟨t151, A620, H⟩ := H
                                      replace H : ((spec_SetWord.f t151 (wrap64 ((wrap64 (a1_1 + (wrap64 (16 * (Int.tmod (wrap64 (a2 + x10_4)) a1_0))))) + 12)) x13_52).bind fun t152 => (spec_PostChain.l1 kj52 t152 a2 l3 (wrap64 (x10_4 + 1)) a1_0 a1_1 a1_2 a1_3 a1_4 a1_5)) = some (r1, r2, r3, r4, r5, r6, r7, r8, r9) := H
                                      have A62 := Aside0.mk A620
                                      clear A620
                                      replace H := Option.bind_eq_some_iff.mp H
                                      obtain ⟨t152, A630, H⟩ := H
                                      replace H : (spec_PostChain.l1 kj52 t152 a2 l3 (wrap64 (x10_4 + 1)) a1_0 a1_1 a1_2 a1_3 a1_4 a1_5) = some (r1, r2, r3, r4, r5, r6, r7, r8, r9) := H
                                      have A63 := Aside0.mk A630
                                      clear A630
                                      have H' := Aside0.mk H
                                      clear H
                                      try go_wp2
                                      have n0_ := Aside0.mk (blk_drew BK135.out)
                                      have n1_ := Aside0.mk (blk_drew BK136.out)
                                      have n2_ := Aside0.mk (below_drew1 HB.out)
                                      clear BK135
                                      clear BK136
                                      clear HB
                                      have BK135 := n0_
                                      have BK136 := n1_
                                      have HB := n2_
                                      clear n0_ n1_ n2_
                                      have p147 : 0 ≤ (x10_4 : Int) := of_decide_eq_true (by first | (with_reducible assumption) | assumption)
                                      have q147 : x10_4 < (l3.length : Int) := of_decide_eq_true (by first | (with_reducible assumption) | assumption)
                                      obtain ⟨ad147, e147, hx147_0, hx147_1, hx147_2⟩ := at_T75 HR3.out x10_4 p147 q147
                                      have hw147_2 := hx147_2
                                      have hw147_1 := hx147_1
                                      have hw147_0 := hx147_0
                                      obtain rfl : ad145 = ad147 := (by injection e147)
                                      replace hx147_0 := (HB.out.cell (World.block_lt_of_cell? w _ hx147_0)).trans hx147_0
                                      replace hx147_1 := (HB.out.cell (World.block_lt_of_cell? w _ hx147_1)).trans hx147_1
                                      replace hx147_2 := (HB.out.cell (World.block_lt_of_cell? w _ hx147_2)).trans hx147_2
                                      replace p147 := eq_true p147
                                      replace q147 := eq_true q147
                                      have p149 : 0 ≤ (x10_4 : Int) := of_decide_eq_true (by first | (with_reducible assumption) | assumption)
                                      have q149 : x10_4 < (l3.length : Int) := of_decide_eq_true (by first | (with_reducible assumption) | assumption)
                                      obtain ⟨ad149, e149, hx149_0, hx149_1, hx149_2⟩ := at_T75 HR3.out x10_4 p149 q149
                                      have hw149_2 := hx149_2
                                      have hw149_1 := hx149_1
                                      have hw149_0 := hx149_0
                                      obtain rfl : ad145 = ad149 := (by injection e149)
                                      replace hx149_0 := (HB.out.cell (World.block_lt_of_cell? w _ hx149_0)).trans hx149_0
                                      replace hx149_1 := (HB.out.cell (World.block_lt_of_cell? w _ hx149_1)).trans hx149_1
                                      replace hx149_2 := (HB.out.cell (World.block_lt_of_cell? w _ hx149_2)).trans hx149_2
                                      replace p149 := eq_true p149
                                      replace q149 := eq_true q149
                                      refine start_ (n := 17) (S := fun w' => w'.cell? (ad145.add ((x10_4).toNat * 3)) = some (.int .i64 ((rd_T75 l3 x10_4).f0)) ∧ w'.cell? ⟨(ad145.add ((x10_4).toNat * 3)).block, (ad145.add ((x10_4).toNat * 3)).off + 1, none⟩ = some (.int .i64 ((rd_T75 l3 x10_4).f1)) ∧ w'.cell? ⟨(ad145.add ((x10_4).toNat * 3)).block, (ad145.add ((x10_4).toNat * 3)).off + 2, none⟩ = some (.bool ((rd_T75 l3 x10_4).f2)) ∧ w'.cell? (ad145.add ((x10_4).toNat * 3)) = some (.int .i64 ((rd_T75 l3 x10_4).f0)) ∧ w'.cell? ⟨(ad145.add ((x10_4).toNat * 3)).block, (ad145.add ((x10_4).toNat * 3)).off + 1, none⟩ = some (.int .i64 ((rd_T75 l3 x10_4).f1)) ∧ w'.cell? ⟨(ad145.add ((x10_4).toNat * 3)).block, (ad145.add ((x10_4).toNat * 3)).off + 2, none⟩ = some (.bool ((rd_T75 l3 x10_4).f2))) (ds := []) #[false, false, false, false, false, false, false, false, false, false, false, false, false, false, false, false, false] (by kernel_rfl) rfl rfl ⟨((HB.out.cell (World.block_lt_of_cell? w _ hw147_0)).trans hw147_0), ((HB.out.cell (World.block_lt_of_cell? w _ hw147_1)).trans hw147_1), ((HB.out.cell (World.block_lt_of_cell? w _ hw147_2)).trans hw147_2), ((HB.out.cell (World.block_lt_of_cell? w _ hw149_0)).trans hw149_0), ((HB.out.cell (World.block_lt_of_cell? w _ hw149_1)).trans hw149_1), ((HB.out.cell (World.block_lt_of_cell? w _ hw149_2)).trans hw149_2)⟩ (fun hHeld => ?_); refine with_tabW spec_PostChain.tab19 spec_PostChain.bits19 (fun HT_ HW_ => ?_)
                                      generalize wc.drew = w64 at BK135 BK136 HB hx147_0 hx147_1 hx147_2 hx149_0 hx149_1 hx149_2 hHeld ⊢
                                      refine pure_ (i := 0) (N := some 111) (v := ?_) (a' := ?_) #[true, false, false, false, false, false, false, false, false, false, false, false, false, false, false, false, false] rfl rfl (any_of HT_.out (by kernel_rfl)) (fun _ _ _ h => h) (Or.inl ⟨by rfl, ?_⟩) ?_ ?_
                                      rotate_left
                                      · intro w'
                                        go_simp
                                        first | with_reducible rfl | (rw [if_neg (by (try clear HT_ HW_); simp only [ByteArray.size_extract, ByteArray.size_append, decide_eq_true_eq] at *; omega)]; try with_reducible rfl)
                                      rotate_left
                                      · simp only [Act.put, List.setIfInBounds_toArray, List.set_cons_zero, List.set_cons_succ, i64_w, i32_w]
                                        rfl
                                      refine pure_ (i := 1) (N := some 112) (v := ?_) (a' := ?_) #[true, true, false, false, false, false, false, false, false, false, false, false, false, false, false, false, false] rfl rfl (any_of HT_.out (by kernel_rfl)) (fun _ _ _ h => h) (Or.inl ⟨by rfl, ?_⟩) ?_ ?_
                                      rotate_left
                                      · intro w'
                                        go_simp
                                        first | with_reducible rfl | (rw [if_neg (by (try clear HT_ HW_); simp only [ByteArray.size_extract, ByteArray.size_append, decide_eq_true_eq] at *; omega)]; try with_reducible rfl)
                                      rotate_left
                                      · simp only [Act.put, List.setIfInBounds_toArray, List.set_cons_zero, List.set_cons_succ, i64_w, i32_w]
                                        rfl
                                      refine pure_ (i := 2) (N := some 113) (v := ?_) (a' := ?_) #[true, true, true, false, false, false, false, false, false, false, false, false, false, false, false, false, false] rfl rfl (any_of HT_.out (by kernel_rfl)) (fun _ _ _ h => h) (Or.inl ⟨by rfl, ?_⟩) ?_ ?_
                                      rotate_left
                                      · intro w'
                                        go_simp
                                        first | with_reducible rfl | (rw [if_neg (by (try clear HT_ HW_); simp only [ByteArray.size_extract, ByteArray.size_append, decide_eq_true_eq] at *; omega)]; try with_reducible rfl)
                                      rotate_left
                                      · simp only [Act.put, List.setIfInBounds_toArray, List.set_cons_zero, List.set_cons_succ, i64_w, i32_w]
                                        rfl
                                      refine pure_ (i := 3) (N := some 114) (v := ?_) (a' := ?_) #[true, true, true, true, false, false, false, false, false, false, false, false, false, false, false, false, false] rfl rfl (any_of HT_.out (by kernel_rfl)) (fun _ _ _ h => h) (Or.inl ⟨by rfl, ?_⟩) ?_ ?_
                                      rotate_left
                                      · intro w'
                                        go_simp
                                        first | with_reducible rfl | (rw [if_neg (by (try clear HT_ HW_); simp only [ByteArray.size_extract, ByteArray.size_append, decide_eq_true_eq] at *; omega)]; try with_reducible rfl)
                                      rotate_left
                                      · simp only [Act.put, List.setIfInBounds_toArray, List.set_cons_zero, List.set_cons_succ, i64_w, i32_w]
                                        rfl
                                      refine pure_ (i := 4) (N := some 115) (v := ?_) (a' := ?_) #[true, true, true, true, true, false, false, false, false, false, false, false, false, false, false, false, false] rfl rfl (any_of HT_.out (by kernel_rfl)) (fun _ _ _ h => h) (Or.inl ⟨by rfl, ?_⟩) ?_ ?_
                                      rotate_left
                                      · intro w'
                                        go_simp
                                        first | with_reducible rfl | (rw [if_neg (by (try clear HT_ HW_); simp only [ByteArray.size_extract, ByteArray.size_append, decide_eq_true_eq] at *; omega)]; try with_reducible rfl)
                                      rotate_left
                                      · simp only [Act.put, List.setIfInBounds_toArray, List.set_cons_zero, List.set_cons_succ, i64_w, i32_w]
                                        rfl
                                      refine pure_ (i := 5) (N := some 116) (v := ?_) (a' := ?_) #[true, true, true, true, true, true, false, false, false, false, false, false, false, false, false, false, false] rfl rfl (any_of HT_.out (by kernel_rfl)) (fun _ _ _ h => h) (Or.inl ⟨by rfl, ?_⟩) ?_ ?_
                                      rotate_left
                                      · intro w'
                                        go_simp
                                        first | with_reducible rfl | (rw [if_neg (by (try clear HT_ HW_); simp only [ByteArray.size_extract, ByteArray.size_append, decide_eq_true_eq] at *; omega)]; try with_reducible rfl)
                                      rotate_left
                                      · simp only [Act.put, List.setIfInBounds_toArray, List.set_cons_zero, List.set_cons_succ, i64_w, i32_w]
                                        rfl
                                      refine pure_ (i := 8) (N := some 119) (v := ?_) (a' := ?_) #[true, true, true, true, true, true, false, false, true, false, false, false, false, false, false, false, false] rfl rfl (any_of HT_.out (by kernel_rfl)) (fun _ _ _ h => h) (Or.inl ⟨by rfl, ?_⟩) ?_ ?_
                                      rotate_left
                                      · intro w'
                                        go_simp
                                        first | with_reducible rfl | (rw [if_neg (by (try clear HT_ HW_); simp only [ByteArray.size_extract, ByteArray.size_append, decide_eq_true_eq] at *; omega)]; try with_reducible rfl)
                                      rotate_left
                                      · simp only [Act.put, List.setIfInBounds_toArray, List.set_cons_zero, List.set_cons_succ, i64_w, i32_w]
                                        rfl
                                      refine pure_ (i := 9) (N := some 120) (v := ?_) (a' := ?_) #[true, true, true, true, true, true, false, false, true, true, false, false, false, false, false, false, false] rfl rfl (any_of HT_.out (by kernel_rfl)) (fun _ _ _ h => h) (Or.inl ⟨by rfl, ?_⟩) ?_ ?_
                                      rotate_left
                                      · intro w'
                                        go_simp
                                        first | with_reducible rfl | (rw [if_neg (by (try clear HT_ HW_); simp only [ByteArray.size_extract, ByteArray.size_append, decide_eq_true_eq] at *; omega)]; try with_reducible rfl)
                                      rotate_left
                                      · simp only [Act.put, List.setIfInBounds_toArray, List.set_cons_zero, List.set_cons_succ, i64_w, i32_w]
                                        rfl
                                      refine pure_ (i := 10) (N := some 121) (v := ?_) (a' := ?_) #[true, true, true, true, true, true, false, false, true, true, true, false, false, false, false, false, false] rfl rfl (any_of HT_.out (by kernel_rfl)) (fun _ _ _ h => h) (Or.inl ⟨by rfl, ?_⟩) ?_ ?_
                                      rotate_left
                                      · intro w'
                                        go_simp
                                        first | with_reducible rfl | (rw [if_neg (by (try clear HT_ HW_); simp only [ByteArray.size_extract, ByteArray.size_append, decide_eq_true_eq] at *; omega)]; try with_reducible rfl)
                                      rotate_left
                                      · simp only [Act.put, List.setIfInBounds_toArray, List.set_cons_zero, List.set_cons_succ, i64_w, i32_w]
                                        rfl
                                      refine pure_ (i := 11) (N := some 122) (v := ?_) (a' := ?_) #[true, true, true, true, true, true, false, false, true, true, true, true, false, false, false, false, false] rfl rfl (any_of HT_.out (by kernel_rfl)) (fun _ _ _ h => h) (Or.inl ⟨by rfl, ?_⟩) ?_ ?_
                                      rotate_left
                                      · intro w'
                                        go_simp
                                        first | with_reducible rfl | (rw [if_neg (by (try clear HT_ HW_); simp only [ByteArray.size_extract, ByteArray.size_append, decide_eq_true_eq] at *; omega)]; try with_reducible rfl)
                                      rotate_left
                                      · simp only [Act.put, List.setIfInBounds_toArray, List.set_cons_zero, List.set_cons_succ, i64_w, i32_w]
                                        rfl
                                      refine pure_ (i := 12) (N := some 123) (v := ?_) (a' := ?_) #[true, true, true, true, true, true, false, false, true, true, true, true, true, false, false, false, false] rfl rfl (any_of HT_.out (by kernel_rfl)) (fun _ _ _ h => h) (Or.inl ⟨by rfl, ?_⟩) ?_ ?_
                                      rotate_left
                                      · intro w'
                                        go_simp
                                        first | with_reducible rfl | (rw [if_neg (by (try clear HT_ HW_); simp only [ByteArray.size_extract, ByteArray.size_append, decide_eq_true_eq] at *; omega)]; try with_reducible rfl)
                                      rotate_left
                                      · simp only [Act.put, List.setIfInBounds_toArray, List.set_cons_zero, List.set_cons_succ, i64_w, i32_w]
                                        rfl
                                      refine pure_ (i := 13) (N := some 124) (v := ?_) (a' := ?_) #[true, true, true, true, true, true, false, false, true, true, true, true, true, true, false, false, false] rfl rfl (any_of HT_.out (by kernel_rfl)) (fun _ _ _ h => h) (Or.inl ⟨by rfl, ?_⟩) ?_ ?_
                                      rotate_left
                                      · intro w'
                                        go_simp
                                        first | with_reducible rfl | (rw [if_neg (by (try clear HT_ HW_); simp only [ByteArray.size_extract, ByteArray.size_append, decide_eq_true_eq] at *; omega)]; try with_reducible rfl)
                                      rotate_left
                                      · simp only [Act.put, List.setIfInBounds_toArray, List.set_cons_zero, List.set_cons_succ, i64_w, i32_w]
                                        rfl
                                      refine take_ (i := 6) (N := some 117) (v := ?_) (a' := ?_) #[true, true, true, true, true, true, true, false, true, true, true, true, true, true, false, false, false] rfl rfl (take_ofW HT_.out HW_.out (by kernel_rfl)) (fun _ _ _ h => h) (Or.inl ⟨by rfl, ?_⟩) hHeld ?_ ?_
                                      rotate_left
                                      · rintro w' ⟨s0, s1, s2, s3, s4, s5⟩
                                        go_simp
                                        first | with_reducible rfl | (rw [if_neg (by (try clear HT_ HW_); simp only [ByteArray.size_extract, ByteArray.size_append, decide_eq_true_eq] at *; omega)]; try with_reducible rfl)
                                      rotate_left
                                      · simp only [Act.put, List.setIfInBounds_toArray, List.set_cons_zero, List.set_cons_succ, i64_w, i32_w]
                                        rfl
                                      refine take_ (i := 14) (N := some 125) (v := ?_) (a' := ?_) #[true, true, true, true, true, true, true, false, true, true, true, true, true, true, true, false, false] rfl rfl (take_ofW HT_.out HW_.out (by kernel_rfl)) (fun _ _ _ h => h) (Or.inl ⟨by rfl, ?_⟩) hHeld ?_ ?_
                                      rotate_left
                                      · rintro w' ⟨s0, s1, s2, s3, s4, s5⟩
                                        go_simp
                                        first | with_reducible rfl | (rw [if_neg (by (try clear HT_ HW_); simp only [ByteArray.size_extract, ByteArray.size_append, decide_eq_true_eq] at *; omega)]; try with_reducible rfl)
                                      rotate_left
                                      · simp only [Act.put, List.setIfInBounds_toArray, List.set_cons_zero, List.set_cons_succ, i64_w, i32_w]
                                        rfl
                                      refine one_ (i := 7) (N := some 118) #[true, true, true, true, true, true, true, true, true, true, true, true, true, true, true, false, false] rfl rfl (one_of HT_.out (by kernel_rfl)) (by decide) (fun K hK => ?_)
                                      refine goes_ Try.func55 (by kernel_rfl) rfl #[.string x0_4, .int .i64 (wrap64 (a1_1 + (wrap64 (16 * (Int.tmod (wrap64 (a2 + x10_4)) a1_0))))), .int .i64 ((rd_T75 l3 x10_4).f0)] (by rfl) rfl rfl (by (try simp only [List.map_toArray, List.map_cons, List.map_nil]); first | done | rfl | (simp only [List.length_drop, List.length_take]; rfl)) ?_
                                      with_reducible refine (spec_SetWord.calls x0_4 (wrap64 (a1_1 + (wrap64 (16 * (Int.tmod (wrap64 (a2 + x10_4)) a1_0))))) ((rd_T75 l3 x10_4).f0) t148 _ A60.out).mono ?_
                                      rintro e w65 ⟨rfl, hb⟩
                                      refine ⟨_, rfl, ?_⟩
                                      have n0_ := Aside0.mk (blk_below (g := gb135) (o := .cells #[.int .i64 a1_0, .int .i64 a1_1, .int .i64 a1_2, .int .i64 a1_3, .int .i64 a1_4, .int .i64 a1_5] 31 (0, 0)) (by (with_reducible repeat (first | refine blk_drewN ?_ _ | refine blk_drew ?_ | refine blk_alloc ?_ _)); exact BK135.out) hb)
                                      have n1_ := Aside0.mk (blk_below (g := gb136) (o := .cells #[.int .i64 x137000_3, .string x137001_3, .int .i64 x137002_3, .int .i64 x137003_3, .int .i64 x137004_3, .int .i64 x137005_3, .int .i64 x137006_3, .int .i64 x137007_3, .bool x137008_3] 40 (0, 0)) (by (with_reducible repeat (first | refine blk_drewN ?_ _ | refine blk_drew ?_ | refine blk_alloc ?_ _)); exact BK136.out) hb)
                                      have n2_ := Aside0.mk (below_step (by repeat (first | (with_reducible first | exact HB.out | apply below_alloc | apply pw_below_drewN | apply below_drew1 | refine below_set ?_ GE135.out | refine below_set ?_ GE136.out) | exact HB.out)) hb)
                                      clear BK135
                                      clear BK136
                                      clear HB
                                      have BK135 := n0_
                                      have BK136 := n1_
                                      have HB := n2_
                                      clear n0_ n1_ n2_
                                      (try clear hb)
                                      (try clear hb2)
                                      (try clear hk)
                                      (try clear hi)
                                      refine hK.out _ _ ⟨((HB.out.cell (World.block_lt_of_cell? w _ hw147_0)).trans hw147_0), ((HB.out.cell (World.block_lt_of_cell? w _ hw147_1)).trans hw147_1), ((HB.out.cell (World.block_lt_of_cell? w _ hw147_2)).trans hw147_2), ((HB.out.cell (World.block_lt_of_cell? w _ hw149_0)).trans hw149_0), ((HB.out.cell (World.block_lt_of_cell? w _ hw149_1)).trans hw149_1), ((HB.out.cell (World.block_lt_of_cell? w _ hw149_2)).trans hw149_2)⟩ (fun hHeld => ?_)
                                      clear hK K
                                      refine norm_ (a' := ?_) ?_ ?_
                                      rotate_left
                                      · show Act.put _ (some 118) _ = _
                                        simp only [Act.put, List.setIfInBounds_toArray, List.set_cons_zero, List.set_cons_succ, i64_w, i32_w]
                                        rfl
                                      refine one_ (i := 15) (N := some 126) #[true, true, true, true, true, true, true, true, true, true, true, true, true, true, true, true, false] rfl rfl (one_of HT_.out (by kernel_rfl)) (by decide) (fun K hK => ?_)
                                      refine goes_ Try.func55 (by kernel_rfl) rfl #[.string t148, .int .i64 (wrap64 ((wrap64 (a1_1 + (wrap64 (16 * (Int.tmod (wrap64 (a2 + x10_4)) a1_0))))) + 4)), .int .i64 ((rd_T75 l3 x10_4).f1)] (by rfl) rfl rfl (by (try simp only [List.map_toArray, List.map_cons, List.map_nil]); first | done | rfl | (simp only [List.length_drop, List.length_take]; rfl)) ?_
                                      with_reducible refine (spec_SetWord.calls t148 (wrap64 ((wrap64 (a1_1 + (wrap64 (16 * (Int.tmod (wrap64 (a2 + x10_4)) a1_0))))) + 4)) ((rd_T75 l3 x10_4).f1) t150 _ A61.out).mono ?_
                                      rintro e w66 ⟨rfl, hb⟩
                                      refine ⟨_, rfl, ?_⟩
                                      have n0_ := Aside0.mk (blk_below (g := gb135) (o := .cells #[.int .i64 a1_0, .int .i64 a1_1, .int .i64 a1_2, .int .i64 a1_3, .int .i64 a1_4, .int .i64 a1_5] 31 (0, 0)) (by (with_reducible repeat (first | refine blk_drewN ?_ _ | refine blk_drew ?_ | refine blk_alloc ?_ _)); exact BK135.out) hb)
                                      have n1_ := Aside0.mk (blk_below (g := gb136) (o := .cells #[.int .i64 x137000_3, .string x137001_3, .int .i64 x137002_3, .int .i64 x137003_3, .int .i64 x137004_3, .int .i64 x137005_3, .int .i64 x137006_3, .int .i64 x137007_3, .bool x137008_3] 40 (0, 0)) (by (with_reducible repeat (first | refine blk_drewN ?_ _ | refine blk_drew ?_ | refine blk_alloc ?_ _)); exact BK136.out) hb)
                                      have n2_ := Aside0.mk (below_step (by repeat (first | (with_reducible first | exact HB.out | apply below_alloc | apply pw_below_drewN | apply below_drew1 | refine below_set ?_ GE135.out | refine below_set ?_ GE136.out) | exact HB.out)) hb)
                                      clear BK135
                                      clear BK136
                                      clear HB
                                      have BK135 := n0_
                                      have BK136 := n1_
                                      have HB := n2_
                                      clear n0_ n1_ n2_
                                      (try clear hb)
                                      (try clear hb2)
                                      (try clear hk)
                                      (try clear hi)
                                      refine hK.out _ _ ⟨((HB.out.cell (World.block_lt_of_cell? w _ hw147_0)).trans hw147_0), ((HB.out.cell (World.block_lt_of_cell? w _ hw147_1)).trans hw147_1), ((HB.out.cell (World.block_lt_of_cell? w _ hw147_2)).trans hw147_2), ((HB.out.cell (World.block_lt_of_cell? w _ hw149_0)).trans hw149_0), ((HB.out.cell (World.block_lt_of_cell? w _ hw149_1)).trans hw149_1), ((HB.out.cell (World.block_lt_of_cell? w _ hw149_2)).trans hw149_2)⟩ (fun hHeld => ?_)
                                      clear hK K
                                      refine norm_ (a' := ?_) ?_ ?_
                                      rotate_left
                                      · show Act.put _ (some 126) _ = _
                                        simp only [Act.put, List.setIfInBounds_toArray, List.set_cons_zero, List.set_cons_succ, i64_w, i32_w]
                                        rfl
                                      refine pure_ (i := 16) (N := some 0) (v := ?_) (a' := ?_) #[true, true, true, true, true, true, true, true, true, true, true, true, true, true, true, true, true] rfl rfl (any_of HT_.out (by kernel_rfl)) (fun _ _ _ h => h) (Or.inl ⟨by rfl, ?_⟩) ?_ ?_
                                      rotate_left
                                      · intro w'
                                        go_simp
                                        first | with_reducible rfl | (rw [if_neg (by (try clear HT_ HW_); simp only [ByteArray.size_extract, ByteArray.size_append, decide_eq_true_eq] at *; omega)]; try with_reducible rfl)
                                      rotate_left
                                      · simp only [Act.put, List.setIfInBounds_toArray, List.set_cons_zero, List.set_cons_succ, i64_w, i32_w]
                                        rfl
                                      refine done_ (done_of HT_.out (by kernel_rfl)) ?_
                                      try go_wp2_with (first | ((with_reducible refine gate_callee (f := 55) rfl ?_); refine goesL_ (some 131) rfl rfl Try.func55 (by kernel_rfl) rfl #[.string t150, .int .i64 (wrap64 ((wrap64 (a1_1 + (wrap64 (16 * (Int.tmod (wrap64 (a2 + x10_4)) a1_0))))) + 8)), .int .i64 x12_52] rfl (by (try simp only [List.map_toArray, List.map_cons, List.map_nil]); first | done | rfl | (simp only [List.length_drop, List.length_take]; rfl)) ?_; (with_reducible refine (spec_SetWord.calls t150 (wrap64 ((wrap64 (a1_1 + (wrap64 (16 * (Int.tmod (wrap64 (a2 + x10_4)) a1_0))))) + 8)) x12_52 t151 _ A62.out).mono ?_); rintro e w67 ⟨rfl, hb⟩; refine ⟨_, rfl, ?_⟩; have n0_ := Aside0.mk (blk_below (g := gb135) (o := .cells #[.int .i64 a1_0, .int .i64 a1_1, .int .i64 a1_2, .int .i64 a1_3, .int .i64 a1_4, .int .i64 a1_5] 31 (0, 0)) (by (with_reducible repeat (first | refine blk_drewN ?_ _ | refine blk_drew ?_ | refine blk_alloc ?_ _)); exact BK135.out) hb); have n1_ := Aside0.mk (blk_below (g := gb136) (o := .cells #[.int .i64 x137000_3, .string x137001_3, .int .i64 x137002_3, .int .i64 x137003_3, .int .i64 x137004_3, .int .i64 x137005_3, .int .i64 x137006_3, .int .i64 x137007_3, .bool x137008_3] 40 (0, 0)) (by (with_reducible repeat (first | refine blk_drewN ?_ _ | refine blk_drew ?_ | refine blk_alloc ?_ _)); exact BK136.out) hb); have n2_ := Aside0.mk (below_step (by repeat (first | (with_reducible first | exact HB.out | apply below_alloc | apply pw_below_drewN | apply below_drew1 | refine below_set ?_ GE135.out | refine below_set ?_ GE136.out) | exact HB.out)) hb); clear BK135; clear BK136; clear HB; have BK135 := n0_; have BK136 := n1_; have HB := n2_; clear n0_ n1_ n2_; (try clear hb); (try clear hb2); (try clear hk); (try clear hi)) | ((with_reducible refine gate_callee (f := 55) rfl ?_); refine goesL_ (some 135) rfl rfl Try.func55 (by kernel_rfl) rfl #[.string t151, .int .i64 (wrap64 ((wrap64 (a1_1 + (wrap64 (16 * (Int.tmod (wrap64 (a2 + x10_4)) a1_0))))) + 12)), .int .i64 x13_52] rfl (by (try simp only [List.map_toArray, List.map_cons, List.map_nil]); first | done | rfl | (simp only [List.length_drop, List.length_take]; rfl)) ?_; (with_reducible refine (spec_SetWord.calls t151 (wrap64 ((wrap64 (a1_1 + (wrap64 (16 * (Int.tmod (wrap64 (a2 + x10_4)) a1_0))))) + 12)) x13_52 t152 _ A63.out).mono ?_); rintro e w68 ⟨rfl, hb⟩; refine ⟨_, rfl, ?_⟩; have n0_ := Aside0.mk (blk_below (g := gb135) (o := .cells #[.int .i64 a1_0, .int .i64 a1_1, .int .i64 a1_2, .int .i64 a1_3, .int .i64 a1_4, .int .i64 a1_5] 31 (0, 0)) (by (with_reducible repeat (first | refine blk_drewN ?_ _ | refine blk_drew ?_ | refine blk_alloc ?_ _)); exact BK135.out) hb); have n1_ := Aside0.mk (blk_below (g := gb136) (o := .cells #[.int .i64 x137000_3, .string x137001_3, .int .i64 x137002_3, .int .i64 x137003_3, .int .i64 x137004_3, .int .i64 x137005_3, .int .i64 x137006_3, .int .i64 x137007_3, .bool x137008_3] 40 (0, 0)) (by (with_reducible repeat (first | refine blk_drewN ?_ _ | refine blk_drew ?_ | refine blk_alloc ?_ _)); exact BK136.out) hb); have n2_ := Aside0.mk (below_step (by repeat (first | (with_reducible first | exact HB.out | apply below_alloc | apply pw_below_drewN | apply below_drew1 | refine below_set ?_ GE135.out | refine below_set ?_ GE136.out) | exact HB.out)) hb); clear BK135; clear BK136; clear HB; have BK135 := n0_; have BK136 := n1_; have HB := n2_; clear n0_ n1_ n2_; (try clear hb); (try clear hb2); (try clear hk); (try clear hi)))
                                      go_roundg kj52
                                      case measure => have := HJ4.out; have := HJ11.out; have := HK3.out; have := HK4.out; have := HJ52.out; omega
                                      case rel => exact ⟨(t152), (wrap64 (x10_4 + 1)), (by first | rfl | (simp; done) | (simp [*]; done)), (by first | rfl | (simp; done) | (simp [*]; done)), H', ⟨by have := HJ4.out; have := HJ11.out; have := HK3.out; have := HK4.out; have := HJ52.out; omega⟩, ⟨by (with_reducible repeat (first | refine blk_drewN ?_ _ | refine blk_drew ?_ | refine blk_alloc ?_ _)); exact BK135.out⟩, ⟨by (with_reducible repeat (first | refine blk_drewN ?_ _ | refine blk_drew ?_ | refine blk_alloc ?_ _)); exact BK136.out⟩, ⟨by repeat (first | (with_reducible first | exact HB.out | apply below_alloc | apply pw_below_drewN | apply below_drew1 | refine below_set ?_ GE135.out | refine below_set ?_ GE136.out) | exact HB.out)⟩⟩
                                    · rw [if_neg c59] at H
                                      exact absurd H (by simp)
                                  · rw [if_neg c58] at H
                                    exact absurd H (by simp)
                            · rw [if_neg c51] at H
                              exact absurd H (by simp)
                        · rw [if_neg c49] at H
                          have c49b0 : decide (x10_4 < (l3.length : Int)) = false := decide_eq_false c49
                          clear c49
                          replace H := Option.bind_eq_some_iff.mp H
                          obtain ⟨t142, A690, H⟩ := H
                          replace H : (if a1_0 = 0 then (none) else ((spec_SetWord.f x0_4 (wrap64 ((wrap64 (a1_2 + 8)) + (wrap64 (4 * (Int.tmod (Int.tmod t142 65536) a1_0))))) a2).bind fun t143 => ((spec_SetWord.f t143 (wrap64 (a1_2 + 4)) (Int.tmod (wrap64 ((Int.tmod t142 65536) + 1)) 65536)).bind fun t144 => (some (0, t144, a1_0, a1_1, a1_2, a1_3, a1_4, a1_5, false))))) = some (r1, r2, r3, r4, r5, r6, r7, r8, r9) := H
                          have A69 := Aside0.mk A690
                          clear A690
                          by_cases c70 : a1_0 = 0
                          · rw [if_pos c70] at H
                            exact absurd H (by simp)
                          · rw [if_neg c70] at H
                            have c70b0 : (a1_0 == 0) = false := beq_eq_false_iff_ne.mpr c70
                            have c70b1 : (a1_0 != 0) = true := bne_iff_ne.mpr c70
                            replace H := Option.bind_eq_some_iff.mp H
                            obtain ⟨t143, A710, H⟩ := H
                            replace H : ((spec_SetWord.f t143 (wrap64 (a1_2 + 4)) (Int.tmod (wrap64 ((Int.tmod t142 65536) + 1)) 65536)).bind fun t144 => (some (0, t144, a1_0, a1_1, a1_2, a1_3, a1_4, a1_5, false))) = some (r1, r2, r3, r4, r5, r6, r7, r8, r9) := H
                            have A71 := Aside0.mk A710
                            clear A710
                            replace H := Option.bind_eq_some_iff.mp H
                            obtain ⟨t144, A720, H⟩ := H
                            replace H : (some (0, t144, a1_0, a1_1, a1_2, a1_3, a1_4, a1_5, false)) = some (r1, r2, r3, r4, r5, r6, r7, r8, r9) := H
                            have A72 := Aside0.mk A720
                            clear A720
                            simp only [Option.some.injEq, Prod.mk.injEq] at H
                            obtain ⟨rfl, rfl, rfl, rfl, rfl, rfl, rfl, rfl, rfl⟩ := H
                            have hnb73 := NB135_136.out
                            have hnc73 := NB136_135.out
                            have hcz74_0 : wr.cell? ⟨gb135, 0, none⟩ = some (.int .i64 a1_0) := (blk_cell BK135.out 0).trans rfl
                            have hcz74_1 : wr.cell? ⟨gb135, 1, none⟩ = some (.int .i64 a1_1) := (blk_cell BK135.out 1).trans rfl
                            have hcz74_2 : wr.cell? ⟨gb135, 2, none⟩ = some (.int .i64 a1_2) := (blk_cell BK135.out 2).trans rfl
                            have hcz74_3 : wr.cell? ⟨gb135, 3, none⟩ = some (.int .i64 a1_3) := (blk_cell BK135.out 3).trans rfl
                            have hcz74_4 : wr.cell? ⟨gb135, 4, none⟩ = some (.int .i64 a1_4) := (blk_cell BK135.out 4).trans rfl
                            have hcz74_5 : wr.cell? ⟨gb135, 5, none⟩ = some (.int .i64 a1_5) := (blk_cell BK135.out 5).trans rfl
                            have hfz74_0 := blk_frozen BK135.out 0
                            have hfz74_1 := blk_frozen BK135.out 1
                            have hfz74_2 := blk_frozen BK135.out 2
                            have hfz74_3 := blk_frozen BK135.out 3
                            have hfz74_4 := blk_frozen BK135.out 4
                            have hfz74_5 := blk_frozen BK135.out 5
                            try go_wp2_with (first | ((with_reducible refine gate_callee (f := 60) rfl ?_); refine goesL_ (some 140) rfl rfl Try.func60 (by kernel_rfl) rfl #[.string x0_4, .int .i64 (wrap64 (a1_2 + 4))] rfl (by (try simp only [List.map_toArray, List.map_cons, List.map_nil]); first | done | rfl | (simp only [List.length_drop, List.length_take]; rfl)) ?_; (with_reducible refine (spec_l01Word.calls x0_4 (wrap64 (a1_2 + 4)) t142 _ A69.out).mono ?_); rintro e w' ⟨rfl, ⟨nd, rfl⟩⟩; refine ⟨_, rfl, ?_⟩; (try (rw [drewN_self wr]; generalize hq_ : World.drewN wr _ = wr; have n0_ : Aside0 (wr.heap[gb135]? = some (.cells #[.int .i64 a1_0, .int .i64 a1_1, .int .i64 a1_2, .int .i64 a1_3, .int .i64 a1_4, .int .i64 a1_5] 31 (0, 0))) := ⟨by rw [← hq_]; exact (by (with_reducible repeat (first | refine blk_drewN ?_ _ | refine blk_drew ?_ | refine blk_alloc ?_ _)); exact BK135.out)⟩; have n1_ : Aside0 (wr.heap[gb136]? = some (.cells #[.int .i64 x137000_3, .string x137001_3, .int .i64 x137002_3, .int .i64 x137003_3, .int .i64 x137004_3, .int .i64 x137005_3, .int .i64 x137006_3, .int .i64 x137007_3, .bool x137008_3] 40 (0, 0))) := ⟨by rw [← hq_]; exact (by (with_reducible repeat (first | refine blk_drewN ?_ _ | refine blk_drew ?_ | refine blk_alloc ?_ _)); exact BK136.out)⟩; have n2_ : Aside0 (Below w.heap.size w wr) := ⟨by rw [← hq_]; exact (by repeat (first | (with_reducible first | exact HB.out | apply below_alloc | apply pw_below_drewN | apply below_drew1 | refine below_set ?_ GE135.out | refine below_set ?_ GE136.out) | exact HB.out))⟩; clear BK135 BK136 HB hq_; have BK135 := n0_; have BK136 := n1_; have HB := n2_; clear n0_ n1_ n2_))))
                            have n0_ := Aside0.mk (blk_drew BK135.out)
                            have n1_ := Aside0.mk (blk_drew BK136.out)
                            have n2_ := Aside0.mk (below_drew1 HB.out)
                            clear BK135
                            clear BK136
                            clear HB
                            have BK135 := n0_
                            have BK136 := n1_
                            have HB := n2_
                            clear n0_ n1_ n2_
                            refine start_ (n := 13) (S := fun w' => w'.cell? ⟨gb135, 0, none⟩ = some (.int .i64 a1_0) ∧ w'.cell? ⟨gb135, 1, none⟩ = some (.int .i64 a1_1) ∧ w'.cell? ⟨gb135, 2, none⟩ = some (.int .i64 a1_2) ∧ w'.cell? ⟨gb135, 3, none⟩ = some (.int .i64 a1_3) ∧ w'.cell? ⟨gb135, 4, none⟩ = some (.int .i64 a1_4) ∧ w'.cell? ⟨gb135, 5, none⟩ = some (.int .i64 a1_5)) (ds := []) #[false, false, false, false, false, false, false, false, false, false, false, false, false] (by kernel_rfl) rfl rfl ⟨(blk_cell BK135.out 0).trans rfl, (blk_cell BK135.out 1).trans rfl, (blk_cell BK135.out 2).trans rfl, (blk_cell BK135.out 3).trans rfl, (blk_cell BK135.out 4).trans rfl, (blk_cell BK135.out 5).trans rfl⟩ (fun hHeld => ?_); refine with_tabW spec_PostChain.tab22 spec_PostChain.bits22 (fun HT_ HW_ => ?_)
                            generalize wr.drew = w75 at BK135 BK136 HB hHeld ⊢
                            refine pure_ (i := 0) (N := some 142) (v := ?_) (a' := ?_) #[true, false, false, false, false, false, false, false, false, false, false, false, false] rfl rfl (any_of HT_.out (by kernel_rfl)) (fun _ _ _ h => h) (Or.inl ⟨by rfl, ?_⟩) ?_ ?_
                            rotate_left
                            · intro w'
                              go_simp
                              first | with_reducible rfl | (rw [if_neg (by (try clear HT_ HW_); simp only [ByteArray.size_extract, ByteArray.size_append, decide_eq_true_eq] at *; omega)]; try with_reducible rfl)
                            rotate_left
                            · simp only [Act.put, List.setIfInBounds_toArray, List.set_cons_zero, List.set_cons_succ, i64_w, i32_w]
                              rfl
                            refine pure_ (i := 1) (N := some 143) (v := ?_) (a' := ?_) #[true, true, false, false, false, false, false, false, false, false, false, false, false] rfl rfl (any_of HT_.out (by kernel_rfl)) (fun _ _ _ h => h) (Or.inl ⟨by rfl, ?_⟩) ?_ ?_
                            rotate_left
                            · intro w'
                              go_simp
                              first | with_reducible rfl | (rw [if_neg (by (try clear HT_ HW_); simp only [ByteArray.size_extract, ByteArray.size_append, decide_eq_true_eq] at *; omega)]; try with_reducible rfl)
                            rotate_left
                            · simp only [Act.put, List.setIfInBounds_toArray, List.set_cons_zero, List.set_cons_succ, i64_w, i32_w]
                              rfl
                            refine pure_ (i := 4) (N := some 146) (v := ?_) (a' := ?_) #[true, true, false, false, true, false, false, false, false, false, false, false, false] rfl rfl (any_of HT_.out (by kernel_rfl)) (fun _ _ _ h => h) (Or.inl ⟨by rfl, ?_⟩) ?_ ?_
                            rotate_left
                            · intro w'
                              go_simp
                              first | with_reducible rfl | (rw [if_neg (by (try clear HT_ HW_); simp only [ByteArray.size_extract, ByteArray.size_append, decide_eq_true_eq] at *; omega)]; try with_reducible rfl)
                            rotate_left
                            · simp only [Act.put, List.setIfInBounds_toArray, List.set_cons_zero, List.set_cons_succ, i64_w, i32_w]
                              rfl
                            refine pure_ (i := 5) (N := some 147) (v := ?_) (a' := ?_) #[true, true, false, false, true, true, false, false, false, false, false, false, false] rfl rfl (any_of HT_.out (by kernel_rfl)) (fun _ _ _ h => h) (Or.inl ⟨by rfl, ?_⟩) ?_ ?_
                            rotate_left
                            · intro w'
                              go_simp
                              first | with_reducible rfl | (rw [if_neg (by (try clear HT_ HW_); simp only [ByteArray.size_extract, ByteArray.size_append, decide_eq_true_eq] at *; omega)]; try with_reducible rfl)
                            rotate_left
                            · simp only [Act.put, List.setIfInBounds_toArray, List.set_cons_zero, List.set_cons_succ, i64_w, i32_w]
                              rfl
                            refine pure_ (i := 10) (N := some 152) (v := ?_) (a' := ?_) #[true, true, false, false, true, true, false, false, false, false, true, false, false] rfl rfl (any_of HT_.out (by kernel_rfl)) (fun _ _ _ h => h) (Or.inl ⟨by rfl, ?_⟩) ?_ ?_
                            rotate_left
                            · intro w'
                              go_simp
                              first | with_reducible rfl | (rw [if_neg (by (try clear HT_ HW_); simp only [ByteArray.size_extract, ByteArray.size_append, decide_eq_true_eq] at *; omega)]; try with_reducible rfl)
                            rotate_left
                            · simp only [Act.put, List.setIfInBounds_toArray, List.set_cons_zero, List.set_cons_succ, i64_w, i32_w]
                              rfl
                            refine take_ (i := 2) (N := some 144) (v := ?_) (a' := ?_) #[true, true, true, false, true, true, false, false, false, false, true, false, false] rfl rfl (take_ofW HT_.out HW_.out (by kernel_rfl)) (fun _ _ _ h => h) (Or.inl ⟨by rfl, ?_⟩) hHeld ?_ ?_
                            rotate_left
                            · rintro w' ⟨s0, s1, s2, s3, s4, s5⟩
                              go_simp
                              first | with_reducible rfl | (rw [if_neg (by (try clear HT_ HW_); simp only [ByteArray.size_extract, ByteArray.size_append, decide_eq_true_eq] at *; omega)]; try with_reducible rfl)
                            rotate_left
                            · simp only [Act.put, List.setIfInBounds_toArray, List.set_cons_zero, List.set_cons_succ, i64_w, i32_w]
                              rfl
                            refine pure_ (i := 3) (N := some 145) (v := ?_) (a' := ?_) #[true, true, true, true, true, true, false, false, false, false, true, false, false] rfl rfl (any_of HT_.out (by kernel_rfl)) (fun _ _ _ h => h) (Or.inl ⟨by rfl, ?_⟩) ?_ ?_
                            rotate_left
                            · intro w'
                              go_simp
                              first | with_reducible rfl | (rw [if_neg (by (try clear HT_ HW_); simp only [ByteArray.size_extract, ByteArray.size_append, decide_eq_true_eq] at *; omega)]; try with_reducible rfl)
                            rotate_left
                            · simp only [Act.put, List.setIfInBounds_toArray, List.set_cons_zero, List.set_cons_succ, i64_w, i32_w]
                              rfl
                            refine take_ (i := 6) (N := some 148) (v := ?_) (a' := ?_) #[true, true, true, true, true, true, true, false, false, false, true, false, false] rfl rfl (take_ofW HT_.out HW_.out (by kernel_rfl)) (fun _ _ _ h => h) (Or.inl ⟨by rfl, ?_⟩) hHeld ?_ ?_
                            rotate_left
                            · rintro w' ⟨s0, s1, s2, s3, s4, s5⟩
                              go_simp
                              first | with_reducible rfl | (rw [if_neg (by (try clear HT_ HW_); simp only [ByteArray.size_extract, ByteArray.size_append, decide_eq_true_eq] at *; omega)]; try with_reducible rfl)
                            rotate_left
                            · simp only [Act.put, List.setIfInBounds_toArray, List.set_cons_zero, List.set_cons_succ, i64_w, i32_w]
                              rfl
                            refine pure_ (i := 7) (N := some 149) (v := ?_) (a' := ?_) #[true, true, true, true, true, true, true, true, false, false, true, false, false] rfl rfl (any_of HT_.out (by kernel_rfl)) (fun _ _ _ h => h) (Or.inl ⟨by rfl, ?_⟩) ?_ ?_
                            rotate_left
                            · intro w'
                              go_simp
                              first | with_reducible rfl | (rw [if_neg (by (try clear HT_ HW_); simp only [ByteArray.size_extract, ByteArray.size_append, decide_eq_true_eq] at *; omega)]; try with_reducible rfl)
                            rotate_left
                            · simp only [Act.put, List.setIfInBounds_toArray, List.set_cons_zero, List.set_cons_succ, i64_w, i32_w]
                              rfl
                            refine pure_ (i := 8) (N := some 150) (v := ?_) (a' := ?_) #[true, true, true, true, true, true, true, true, true, false, true, false, false] rfl rfl (any_of HT_.out (by kernel_rfl)) (fun _ _ _ h => h) (Or.inl ⟨by rfl, ?_⟩) ?_ ?_
                            rotate_left
                            · intro w'
                              go_simp
                              first | with_reducible rfl | (rw [if_neg (by (try clear HT_ HW_); simp only [ByteArray.size_extract, ByteArray.size_append, decide_eq_true_eq] at *; omega)]; try with_reducible rfl)
                            rotate_left
                            · simp only [Act.put, List.setIfInBounds_toArray, List.set_cons_zero, List.set_cons_succ, i64_w, i32_w]
                              rfl
                            refine pure_ (i := 9) (N := some 151) (v := ?_) (a' := ?_) #[true, true, true, true, true, true, true, true, true, true, true, false, false] rfl rfl (any_of HT_.out (by kernel_rfl)) (fun _ _ _ h => h) (Or.inl ⟨by rfl, ?_⟩) ?_ ?_
                            rotate_left
                            · intro w'
                              go_simp
                              first | with_reducible rfl | (rw [if_neg (by (try clear HT_ HW_); simp only [ByteArray.size_extract, ByteArray.size_append, decide_eq_true_eq] at *; omega)]; try with_reducible rfl)
                            rotate_left
                            · simp only [Act.put, List.setIfInBounds_toArray, List.set_cons_zero, List.set_cons_succ, i64_w, i32_w]
                              rfl
                            refine one_ (i := 11) (N := some 153) #[true, true, true, true, true, true, true, true, true, true, true, true, false] rfl rfl (one_of HT_.out (by kernel_rfl)) (by decide) (fun K hK => ?_)
                            refine goes_ Try.func55 (by kernel_rfl) rfl #[.string x0_4, .int .i64 (wrap64 ((wrap64 (a1_2 + 8)) + (wrap64 (4 * (Int.tmod (Int.tmod t142 65536) a1_0))))), .int .i64 a2] (by rfl) rfl rfl (by (try simp only [List.map_toArray, List.map_cons, List.map_nil]); first | done | rfl | (simp only [List.length_drop, List.length_take]; rfl)) ?_
                            with_reducible refine (spec_SetWord.calls x0_4 (wrap64 ((wrap64 (a1_2 + 8)) + (wrap64 (4 * (Int.tmod (Int.tmod t142 65536) a1_0))))) a2 t143 _ A71.out).mono ?_
                            rintro e w76 ⟨rfl, hb⟩
                            refine ⟨_, rfl, ?_⟩
                            have n0_ := Aside0.mk (blk_below (g := gb135) (o := .cells #[.int .i64 a1_0, .int .i64 a1_1, .int .i64 a1_2, .int .i64 a1_3, .int .i64 a1_4, .int .i64 a1_5] 31 (0, 0)) (by (with_reducible repeat (first | refine blk_drewN ?_ _ | refine blk_drew ?_ | refine blk_alloc ?_ _)); exact BK135.out) hb)
                            have n1_ := Aside0.mk (blk_below (g := gb136) (o := .cells #[.int .i64 x137000_3, .string x137001_3, .int .i64 x137002_3, .int .i64 x137003_3, .int .i64 x137004_3, .int .i64 x137005_3, .int .i64 x137006_3, .int .i64 x137007_3, .bool x137008_3] 40 (0, 0)) (by (with_reducible repeat (first | refine blk_drewN ?_ _ | refine blk_drew ?_ | refine blk_alloc ?_ _)); exact BK136.out) hb)
                            have n2_ := Aside0.mk (below_step (by repeat (first | (with_reducible first | exact HB.out | apply below_alloc | apply pw_below_drewN | apply below_drew1 | refine below_set ?_ GE135.out | refine below_set ?_ GE136.out) | exact HB.out)) hb)
                            clear BK135
                            clear BK136
                            clear HB
                            have BK135 := n0_
                            have BK136 := n1_
                            have HB := n2_
                            clear n0_ n1_ n2_
                            (try clear hb)
                            (try clear hb2)
                            (try clear hk)
                            (try clear hi)
                            refine hK.out _ _ ⟨(blk_cell BK135.out 0).trans rfl, (blk_cell BK135.out 1).trans rfl, (blk_cell BK135.out 2).trans rfl, (blk_cell BK135.out 3).trans rfl, (blk_cell BK135.out 4).trans rfl, (blk_cell BK135.out 5).trans rfl⟩ (fun hHeld => ?_)
                            clear hK K
                            refine norm_ (a' := ?_) ?_ ?_
                            rotate_left
                            · show Act.put _ (some 153) _ = _
                              simp only [Act.put, List.setIfInBounds_toArray, List.set_cons_zero, List.set_cons_succ, i64_w, i32_w]
                              rfl
                            refine pure_ (i := 12) (N := some 0) (v := ?_) (a' := ?_) #[true, true, true, true, true, true, true, true, true, true, true, true, true] rfl rfl (any_of HT_.out (by kernel_rfl)) (fun _ _ _ h => h) (Or.inl ⟨by rfl, ?_⟩) ?_ ?_
                            rotate_left
                            · intro w'
                              go_simp
                              first | with_reducible rfl | (rw [if_neg (by (try clear HT_ HW_); simp only [ByteArray.size_extract, ByteArray.size_append, decide_eq_true_eq] at *; omega)]; try with_reducible rfl)
                            rotate_left
                            · simp only [Act.put, List.setIfInBounds_toArray, List.set_cons_zero, List.set_cons_succ, i64_w, i32_w]
                              rfl
                            refine done_ (done_of HT_.out (by kernel_rfl)) ?_
                            try go_wp2
                            have n0_ := Aside0.mk (blk_drew BK135.out)
                            have n1_ := Aside0.mk (blk_drew BK136.out)
                            have n2_ := Aside0.mk (below_drew1 HB.out)
                            clear BK135
                            clear BK136
                            clear HB
                            have BK135 := n0_
                            have BK136 := n1_
                            have HB := n2_
                            clear n0_ n1_ n2_
                            refine start_ (n := 11) (S := fun w' => w'.cell? ⟨gb135, 0, none⟩ = some (.int .i64 a1_0) ∧ w'.cell? ⟨gb135, 1, none⟩ = some (.int .i64 a1_1) ∧ w'.cell? ⟨gb135, 2, none⟩ = some (.int .i64 a1_2) ∧ w'.cell? ⟨gb135, 3, none⟩ = some (.int .i64 a1_3) ∧ w'.cell? ⟨gb135, 4, none⟩ = some (.int .i64 a1_4) ∧ w'.cell? ⟨gb135, 5, none⟩ = some (.int .i64 a1_5)) (ds := []) #[false, false, false, false, false, false, false, false, false, false, false] (by kernel_rfl) rfl rfl ⟨(blk_cell BK135.out 0).trans rfl, (blk_cell BK135.out 1).trans rfl, (blk_cell BK135.out 2).trans rfl, (blk_cell BK135.out 3).trans rfl, (blk_cell BK135.out 4).trans rfl, (blk_cell BK135.out 5).trans rfl⟩ (fun hHeld => ?_); refine with_tabW spec_PostChain.tab23 spec_PostChain.bits23 (fun HT_ HW_ => ?_)
                            generalize w76.drew = w77 at BK135 BK136 HB hHeld ⊢
                            refine pure_ (i := 0) (N := some 154) (v := ?_) (a' := ?_) #[true, false, false, false, false, false, false, false, false, false, false] rfl rfl (any_of HT_.out (by kernel_rfl)) (fun _ _ _ h => h) (Or.inl ⟨by rfl, ?_⟩) ?_ ?_
                            rotate_left
                            · intro w'
                              go_simp
                              first | with_reducible rfl | (rw [if_neg (by (try clear HT_ HW_); simp only [ByteArray.size_extract, ByteArray.size_append, decide_eq_true_eq] at *; omega)]; try with_reducible rfl)
                            rotate_left
                            · simp only [Act.put, List.setIfInBounds_toArray, List.set_cons_zero, List.set_cons_succ, i64_w, i32_w]
                              rfl
                            refine pure_ (i := 1) (N := some 155) (v := ?_) (a' := ?_) #[true, true, false, false, false, false, false, false, false, false, false] rfl rfl (any_of HT_.out (by kernel_rfl)) (fun _ _ _ h => h) (Or.inl ⟨by rfl, ?_⟩) ?_ ?_
                            rotate_left
                            · intro w'
                              go_simp
                              first | with_reducible rfl | (rw [if_neg (by (try clear HT_ HW_); simp only [ByteArray.size_extract, ByteArray.size_append, decide_eq_true_eq] at *; omega)]; try with_reducible rfl)
                            rotate_left
                            · simp only [Act.put, List.setIfInBounds_toArray, List.set_cons_zero, List.set_cons_succ, i64_w, i32_w]
                              rfl
                            refine pure_ (i := 4) (N := some 158) (v := ?_) (a' := ?_) #[true, true, false, false, true, false, false, false, false, false, false] rfl rfl (any_of HT_.out (by kernel_rfl)) (fun _ _ _ h => h) (Or.inl ⟨by rfl, ?_⟩) ?_ ?_
                            rotate_left
                            · intro w'
                              go_simp
                              first | with_reducible rfl | (rw [if_neg (by (try clear HT_ HW_); simp only [ByteArray.size_extract, ByteArray.size_append, decide_eq_true_eq] at *; omega)]; try with_reducible rfl)
                            rotate_left
                            · simp only [Act.put, List.setIfInBounds_toArray, List.set_cons_zero, List.set_cons_succ, i64_w, i32_w]
                              rfl
                            refine pure_ (i := 5) (N := some 159) (v := ?_) (a' := ?_) #[true, true, false, false, true, true, false, false, false, false, false] rfl rfl (any_of HT_.out (by kernel_rfl)) (fun _ _ _ h => h) (Or.inl ⟨by rfl, ?_⟩) ?_ ?_
                            rotate_left
                            · intro w'
                              go_simp
                              first | with_reducible rfl | (rw [if_neg (by (try clear HT_ HW_); simp only [ByteArray.size_extract, ByteArray.size_append, decide_eq_true_eq] at *; omega)]; try with_reducible rfl)
                            rotate_left
                            · simp only [Act.put, List.setIfInBounds_toArray, List.set_cons_zero, List.set_cons_succ, i64_w, i32_w]
                              rfl
                            refine pure_ (i := 6) (N := some 160) (v := ?_) (a' := ?_) #[true, true, false, false, true, true, true, false, false, false, false] rfl rfl (any_of HT_.out (by kernel_rfl)) (fun _ _ _ h => h) (Or.inl ⟨by rfl, ?_⟩) ?_ ?_
                            rotate_left
                            · intro w'
                              go_simp
                              first | with_reducible rfl | (rw [if_neg (by (try clear HT_ HW_); simp only [ByteArray.size_extract, ByteArray.size_append, decide_eq_true_eq] at *; omega)]; try with_reducible rfl)
                            rotate_left
                            · simp only [Act.put, List.setIfInBounds_toArray, List.set_cons_zero, List.set_cons_succ, i64_w, i32_w]
                              rfl
                            refine take_ (i := 2) (N := some 156) (v := ?_) (a' := ?_) #[true, true, true, false, true, true, true, false, false, false, false] rfl rfl (take_ofW HT_.out HW_.out (by kernel_rfl)) (fun _ _ _ h => h) (Or.inl ⟨by rfl, ?_⟩) hHeld ?_ ?_
                            rotate_left
                            · rintro w' ⟨s0, s1, s2, s3, s4, s5⟩
                              go_simp
                              first | with_reducible rfl | (rw [if_neg (by (try clear HT_ HW_); simp only [ByteArray.size_extract, ByteArray.size_append, decide_eq_true_eq] at *; omega)]; try with_reducible rfl)
                            rotate_left
                            · simp only [Act.put, List.setIfInBounds_toArray, List.set_cons_zero, List.set_cons_succ, i64_w, i32_w]
                              rfl
                            refine pure_ (i := 3) (N := some 157) (v := ?_) (a' := ?_) #[true, true, true, true, true, true, true, false, false, false, false] rfl rfl (any_of HT_.out (by kernel_rfl)) (fun _ _ _ h => h) (Or.inl ⟨by rfl, ?_⟩) ?_ ?_
                            rotate_left
                            · intro w'
                              go_simp
                              first | with_reducible rfl | (rw [if_neg (by (try clear HT_ HW_); simp only [ByteArray.size_extract, ByteArray.size_append, decide_eq_true_eq] at *; omega)]; try with_reducible rfl)
                            rotate_left
                            · simp only [Act.put, List.setIfInBounds_toArray, List.set_cons_zero, List.set_cons_succ, i64_w, i32_w]
                              rfl
                            refine take_ (i := 8) (N := some 162) (v := ?_) (a' := ?_) #[true, true, true, true, true, true, true, false, true, false, false] rfl rfl (take_ofW HT_.out HW_.out (by kernel_rfl)) (fun _ _ _ h => h) (Or.inl ⟨by rfl, ?_⟩) hHeld ?_ ?_
                            rotate_left
                            · rintro w' ⟨s0, s1, s2, s3, s4, s5⟩
                              go_simp
                              first | with_reducible rfl | (rw [if_neg (by (try clear HT_ HW_); simp only [ByteArray.size_extract, ByteArray.size_append, decide_eq_true_eq] at *; omega)]; try with_reducible rfl)
                            rotate_left
                            · simp only [Act.put, List.setIfInBounds_toArray, List.set_cons_zero, List.set_cons_succ, i64_w, i32_w]
                              rfl
                            refine one_ (i := 7) (N := some 161) #[true, true, true, true, true, true, true, true, true, false, false] rfl rfl (one_of HT_.out (by kernel_rfl)) (by decide) (fun K hK => ?_)
                            refine goes_ Try.func55 (by kernel_rfl) rfl #[.string t143, .int .i64 (wrap64 (a1_2 + 4)), .int .i64 (Int.tmod (wrap64 ((Int.tmod t142 65536) + 1)) 65536)] (by rfl) rfl rfl (by (try simp only [List.map_toArray, List.map_cons, List.map_nil]); first | done | rfl | (simp only [List.length_drop, List.length_take]; rfl)) ?_
                            with_reducible refine (spec_SetWord.calls t143 (wrap64 (a1_2 + 4)) (Int.tmod (wrap64 ((Int.tmod t142 65536) + 1)) 65536) t144 _ A72.out).mono ?_
                            rintro e w78 ⟨rfl, hb⟩
                            refine ⟨_, rfl, ?_⟩
                            have n0_ := Aside0.mk (blk_below (g := gb135) (o := .cells #[.int .i64 a1_0, .int .i64 a1_1, .int .i64 a1_2, .int .i64 a1_3, .int .i64 a1_4, .int .i64 a1_5] 31 (0, 0)) (by (with_reducible repeat (first | refine blk_drewN ?_ _ | refine blk_drew ?_ | refine blk_alloc ?_ _)); exact BK135.out) hb)
                            have n1_ := Aside0.mk (blk_below (g := gb136) (o := .cells #[.int .i64 x137000_3, .string x137001_3, .int .i64 x137002_3, .int .i64 x137003_3, .int .i64 x137004_3, .int .i64 x137005_3, .int .i64 x137006_3, .int .i64 x137007_3, .bool x137008_3] 40 (0, 0)) (by (with_reducible repeat (first | refine blk_drewN ?_ _ | refine blk_drew ?_ | refine blk_alloc ?_ _)); exact BK136.out) hb)
                            have n2_ := Aside0.mk (below_step (by repeat (first | (with_reducible first | exact HB.out | apply below_alloc | apply pw_below_drewN | apply below_drew1 | refine below_set ?_ GE135.out | refine below_set ?_ GE136.out) | exact HB.out)) hb)
                            clear BK135
                            clear BK136
                            clear HB
                            have BK135 := n0_
                            have BK136 := n1_
                            have HB := n2_
                            clear n0_ n1_ n2_
                            (try clear hb)
                            (try clear hb2)
                            (try clear hk)
                            (try clear hi)
                            refine hK.out _ _ ⟨(blk_cell BK135.out 0).trans rfl, (blk_cell BK135.out 1).trans rfl, (blk_cell BK135.out 2).trans rfl, (blk_cell BK135.out 3).trans rfl, (blk_cell BK135.out 4).trans rfl, (blk_cell BK135.out 5).trans rfl⟩ (fun hHeld => ?_)
                            clear hK K
                            refine norm_ (a' := ?_) ?_ ?_
                            rotate_left
                            · show Act.put _ (some 161) _ = _
                              simp only [Act.put, List.setIfInBounds_toArray, List.set_cons_zero, List.set_cons_succ, i64_w, i32_w]
                              rfl
                            refine pure_ (i := 9) (N := some 163) (v := ?_) (a' := ?_) #[true, true, true, true, true, true, true, true, true, true, false] rfl rfl (any_of HT_.out (by kernel_rfl)) (fun _ _ _ h => h) (Or.inl ⟨by rfl, ?_⟩) ?_ ?_
                            rotate_left
                            · intro w'
                              go_simp
                              first | with_reducible rfl | (rw [if_neg (by (try clear HT_ HW_); simp only [ByteArray.size_extract, ByteArray.size_append, decide_eq_true_eq] at *; omega)]; try with_reducible rfl)
                            rotate_left
                            · simp only [Act.put, List.setIfInBounds_toArray, List.set_cons_zero, List.set_cons_succ, i64_w, i32_w]
                              rfl
                            refine one_ (i := 10) (N := none) #[true, true, true, true, true, true, true, true, true, true, true] rfl rfl (one_of HT_.out (by kernel_rfl)) (by decide) (fun K hK => ?_)
                            have hs79 : w78.cell? ⟨gb136, 0, none⟩ = some (.int .i64 x137000_3) := (blk_cell BK136.out 0).trans rfl
                            have hfs79 := blk_frozen BK136.out 0
                            have hns79_0 := NB135_136.out
                            have hms79_0 := NB136_135.out
                            have hs80 : w78.cell? ⟨gb136, 1, none⟩ = some (.string x137001_3) := (blk_cell BK136.out 1).trans rfl
                            have hfs80 := blk_frozen BK136.out 1
                            have hns80_0 := NB135_136.out
                            have hms80_0 := NB136_135.out
                            have hs81 : w78.cell? ⟨gb136, 2, none⟩ = some (.int .i64 x137002_3) := (blk_cell BK136.out 2).trans rfl
                            have hfs81 := blk_frozen BK136.out 2
                            have hns81_0 := NB135_136.out
                            have hms81_0 := NB136_135.out
                            have hs82 : w78.cell? ⟨gb136, 3, none⟩ = some (.int .i64 x137003_3) := (blk_cell BK136.out 3).trans rfl
                            have hfs82 := blk_frozen BK136.out 3
                            have hns82_0 := NB135_136.out
                            have hms82_0 := NB136_135.out
                            have hs83 : w78.cell? ⟨gb136, 4, none⟩ = some (.int .i64 x137004_3) := (blk_cell BK136.out 4).trans rfl
                            have hfs83 := blk_frozen BK136.out 4
                            have hns83_0 := NB135_136.out
                            have hms83_0 := NB136_135.out
                            have hs84 : w78.cell? ⟨gb136, 5, none⟩ = some (.int .i64 x137005_3) := (blk_cell BK136.out 5).trans rfl
                            have hfs84 := blk_frozen BK136.out 5
                            have hns84_0 := NB135_136.out
                            have hms84_0 := NB136_135.out
                            have hs85 : w78.cell? ⟨gb136, 6, none⟩ = some (.int .i64 x137006_3) := (blk_cell BK136.out 6).trans rfl
                            have hfs85 := blk_frozen BK136.out 6
                            have hns85_0 := NB135_136.out
                            have hms85_0 := NB136_135.out
                            have hs86 : w78.cell? ⟨gb136, 7, none⟩ = some (.int .i64 x137007_3) := (blk_cell BK136.out 7).trans rfl
                            have hfs86 := blk_frozen BK136.out 7
                            have hns86_0 := NB135_136.out
                            have hms86_0 := NB136_135.out
                            have hs87 : w78.cell? ⟨gb136, 8, none⟩ = some (.bool x137008_3) := (blk_cell BK136.out 8).trans rfl
                            have hfs87 := blk_frozen BK136.out 8
                            have hns87_0 := NB135_136.out
                            have hms87_0 := NB136_135.out
                            refine skip_ (w1 := ?_) (by rfl) rfl ?_ ?_
                            rotate_left
                            · go_simp
                              rfl
                            refine hK.out _ _ ⟨((cell_far (p := ⟨gb136, _, none⟩) NB135_136.out _).trans (((cell_far (p := ⟨gb136, _, none⟩) NB135_136.out _).trans (((cell_far (p := ⟨gb136, _, none⟩) NB135_136.out _).trans (((cell_far (p := ⟨gb136, _, none⟩) NB135_136.out _).trans (((cell_far (p := ⟨gb136, _, none⟩) NB135_136.out _).trans (((cell_far (p := ⟨gb136, _, none⟩) NB135_136.out _).trans (((cell_far (p := ⟨gb136, _, none⟩) NB135_136.out _).trans (((cell_far (p := ⟨gb136, _, none⟩) NB135_136.out _).trans (((cell_far (p := ⟨gb136, _, none⟩) NB135_136.out _).trans (hHeld.1)))))))))))))))))), ((cell_far (p := ⟨gb136, _, none⟩) NB135_136.out _).trans (((cell_far (p := ⟨gb136, _, none⟩) NB135_136.out _).trans (((cell_far (p := ⟨gb136, _, none⟩) NB135_136.out _).trans (((cell_far (p := ⟨gb136, _, none⟩) NB135_136.out _).trans (((cell_far (p := ⟨gb136, _, none⟩) NB135_136.out _).trans (((cell_far (p := ⟨gb136, _, none⟩) NB135_136.out _).trans (((cell_far (p := ⟨gb136, _, none⟩) NB135_136.out _).trans (((cell_far (p := ⟨gb136, _, none⟩) NB135_136.out _).trans (((cell_far (p := ⟨gb136, _, none⟩) NB135_136.out _).trans (hHeld.2.1)))))))))))))))))), ((cell_far (p := ⟨gb136, _, none⟩) NB135_136.out _).trans (((cell_far (p := ⟨gb136, _, none⟩) NB135_136.out _).trans (((cell_far (p := ⟨gb136, _, none⟩) NB135_136.out _).trans (((cell_far (p := ⟨gb136, _, none⟩) NB135_136.out _).trans (((cell_far (p := ⟨gb136, _, none⟩) NB135_136.out _).trans (((cell_far (p := ⟨gb136, _, none⟩) NB135_136.out _).trans (((cell_far (p := ⟨gb136, _, none⟩) NB135_136.out _).trans (((cell_far (p := ⟨gb136, _, none⟩) NB135_136.out _).trans (((cell_far (p := ⟨gb136, _, none⟩) NB135_136.out _).trans (hHeld.2.2.1)))))))))))))))))), ((cell_far (p := ⟨gb136, _, none⟩) NB135_136.out _).trans (((cell_far (p := ⟨gb136, _, none⟩) NB135_136.out _).trans (((cell_far (p := ⟨gb136, _, none⟩) NB135_136.out _).trans (((cell_far (p := ⟨gb136, _, none⟩) NB135_136.out _).trans (((cell_far (p := ⟨gb136, _, none⟩) NB135_136.out _).trans (((cell_far (p := ⟨gb136, _, none⟩) NB135_136.out _).trans (((cell_far (p := ⟨gb136, _, none⟩) NB135_136.out _).trans (((cell_far (p := ⟨gb136, _, none⟩) NB135_136.out _).trans (((cell_far (p := ⟨gb136, _, none⟩) NB135_136.out _).trans (hHeld.2.2.2.1)))))))))))))))))), ((cell_far (p := ⟨gb136, _, none⟩) NB135_136.out _).trans (((cell_far (p := ⟨gb136, _, none⟩) NB135_136.out _).trans (((cell_far (p := ⟨gb136, _, none⟩) NB135_136.out _).trans (((cell_far (p := ⟨gb136, _, none⟩) NB135_136.out _).trans (((cell_far (p := ⟨gb136, _, none⟩) NB135_136.out _).trans (((cell_far (p := ⟨gb136, _, none⟩) NB135_136.out _).trans (((cell_far (p := ⟨gb136, _, none⟩) NB135_136.out _).trans (((cell_far (p := ⟨gb136, _, none⟩) NB135_136.out _).trans (((cell_far (p := ⟨gb136, _, none⟩) NB135_136.out _).trans (hHeld.2.2.2.2.1)))))))))))))))))), ((cell_far (p := ⟨gb136, _, none⟩) NB135_136.out _).trans (((cell_far (p := ⟨gb136, _, none⟩) NB135_136.out _).trans (((cell_far (p := ⟨gb136, _, none⟩) NB135_136.out _).trans (((cell_far (p := ⟨gb136, _, none⟩) NB135_136.out _).trans (((cell_far (p := ⟨gb136, _, none⟩) NB135_136.out _).trans (((cell_far (p := ⟨gb136, _, none⟩) NB135_136.out _).trans (((cell_far (p := ⟨gb136, _, none⟩) NB135_136.out _).trans (((cell_far (p := ⟨gb136, _, none⟩) NB135_136.out _).trans (((cell_far (p := ⟨gb136, _, none⟩) NB135_136.out _).trans (hHeld.2.2.2.2.2))))))))))))))))))⟩ (fun hHeld => ?_)
                            clear hK K
                            refine done_ (done_of HT_.out (by kernel_rfl)) ?_
                            try go_wp2
                            refine bodyPost_ret (results_cell_row rfl _ _ gb136 40 #[.int .i64 0, .string t144, .int .i64 a1_0, .int .i64 a1_1, .int .i64 a1_2, .int .i64 a1_3, .int .i64 a1_4, .int .i64 a1_5, .bool false] (0, 0) _ rfl (by (with_reducible repeat (first | refine blk_drewN ?_ _ | refine blk_drew ?_ | refine blk_alloc ?_ _)); refine blk_put (cs := #[.int .i64 0, .string t144, .int .i64 a1_0, .int .i64 a1_1, .int .i64 a1_2, .int .i64 a1_3, .int .i64 a1_4, .int .i64 a1_5, .bool x137008_3]) ?_ 8 _ rfl; (with_reducible repeat (first | refine blk_drewN ?_ _ | refine blk_drew ?_ | refine blk_alloc ?_ _)); refine blk_put (cs := #[.int .i64 0, .string t144, .int .i64 a1_0, .int .i64 a1_1, .int .i64 a1_2, .int .i64 a1_3, .int .i64 a1_4, .int .i64 x137007_3, .bool x137008_3]) ?_ 7 _ rfl; (with_reducible repeat (first | refine blk_drewN ?_ _ | refine blk_drew ?_ | refine blk_alloc ?_ _)); refine blk_put (cs := #[.int .i64 0, .string t144, .int .i64 a1_0, .int .i64 a1_1, .int .i64 a1_2, .int .i64 a1_3, .int .i64 x137006_3, .int .i64 x137007_3, .bool x137008_3]) ?_ 6 _ rfl; (with_reducible repeat (first | refine blk_drewN ?_ _ | refine blk_drew ?_ | refine blk_alloc ?_ _)); refine blk_put (cs := #[.int .i64 0, .string t144, .int .i64 a1_0, .int .i64 a1_1, .int .i64 a1_2, .int .i64 x137005_3, .int .i64 x137006_3, .int .i64 x137007_3, .bool x137008_3]) ?_ 5 _ rfl; (with_reducible repeat (first | refine blk_drewN ?_ _ | refine blk_drew ?_ | refine blk_alloc ?_ _)); refine blk_put (cs := #[.int .i64 0, .string t144, .int .i64 a1_0, .int .i64 a1_1, .int .i64 x137004_3, .int .i64 x137005_3, .int .i64 x137006_3, .int .i64 x137007_3, .bool x137008_3]) ?_ 4 _ rfl; (with_reducible repeat (first | refine blk_drewN ?_ _ | refine blk_drew ?_ | refine blk_alloc ?_ _)); refine blk_put (cs := #[.int .i64 0, .string t144, .int .i64 a1_0, .int .i64 x137003_3, .int .i64 x137004_3, .int .i64 x137005_3, .int .i64 x137006_3, .int .i64 x137007_3, .bool x137008_3]) ?_ 3 _ rfl; (with_reducible repeat (first | refine blk_drewN ?_ _ | refine blk_drew ?_ | refine blk_alloc ?_ _)); refine blk_put (cs := #[.int .i64 0, .string t144, .int .i64 x137002_3, .int .i64 x137003_3, .int .i64 x137004_3, .int .i64 x137005_3, .int .i64 x137006_3, .int .i64 x137007_3, .bool x137008_3]) ?_ 2 _ rfl; (with_reducible repeat (first | refine blk_drewN ?_ _ | refine blk_drew ?_ | refine blk_alloc ?_ _)); refine blk_put (cs := #[.int .i64 0, .string x137001_3, .int .i64 x137002_3, .int .i64 x137003_3, .int .i64 x137004_3, .int .i64 x137005_3, .int .i64 x137006_3, .int .i64 x137007_3, .bool x137008_3]) ?_ 1 _ rfl; (with_reducible repeat (first | refine blk_drewN ?_ _ | refine blk_drew ?_ | refine blk_alloc ?_ _)); refine blk_put (cs := #[.int .i64 x137000_3, .string x137001_3, .int .i64 x137002_3, .int .i64 x137003_3, .int .i64 x137004_3, .int .i64 x137005_3, .int .i64 x137006_3, .int .i64 x137007_3, .bool x137008_3]) ?_ 0 _ rfl; (with_reducible repeat (first | refine blk_drewN ?_ _ | refine blk_drew ?_ | refine blk_alloc ?_ _)); exact BK136.out) Try.underlying40 rfl (by kernel_rfl)) rfl ?_
                            exact ⟨by first | rfl | (simp [errW_none, errW_some] <;> rfl) | (simp [*, errW_none, errW_some] <;> rfl), by repeat (first | (with_reducible first | exact HB.out | apply below_alloc | apply pw_below_drewN | apply below_drew1 | refine below_set ?_ GE135.out | refine below_set ?_ GE136.out) | exact HB.out)⟩

end Go.Proofs.Ythcmgjbkmnpibaa.PFnExactPostChain
