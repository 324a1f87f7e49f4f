/- The plain statement of the law FnExactQueueFault. -/
import Derived.Test.YthcmgjbkmnpibaaStFnExactQueueFault
import Derived.OpenShut
namespace Go.Proofs.Ythcmgjbkmnpibaa.PureFnExactQueueFault
set_option linter.unusedVariables false
set_option linter.unusedSimpArgs false
open Go.RowKit Go.Proofs.Ythcmgjbkmnpibaa.PFnExactQueueFault Go.Proofs.YthcmgjbkmnpibaaW.PrintWords Go.Proofs.YthcmgjbkmnpibaaW.PrintLast Go.Proofs.YthcmgjbkmnpibaaW.PrintMore

/-! ### mem -/
/-- Memory as both want it: whole pages, at least one. -/
def memOk (m : ByteArray) : Bool := decide (256 ≤ (m.size : Int) ∧ (m.size : Int) ≤ 65536 ∧ (m.size : Int) % 256 = 0)
theorem impl_memOk (m : ByteArray) : impl_ymemOk.f m = some (memOk m) := by
  unfold impl_ymemOk.f memOk
  repeat' split
  all_goals (congr 1; rw [Bool.eq_iff_iff]; simp; omega)
theorem spec_memOk (m : ByteArray) : spec_MemFault.f m = some (if memOk m = true then 0 else 1) := by
  unfold spec_MemFault.f memOk
  grind
/-- A place in so many bytes. -/
def inB (n a b : Int) : Bool := decide (0 ≤ a ∧ 0 ≤ b ∧ a ≤ n ∧ b ≤ wrap64 (n - a))
theorem spec_in (m : ByteArray) (a b : Int) : spec_l10In.f m a b = some (inB m.size a b) := by
  unfold spec_l10In.f inB
  repeat' split
  all_goals (congr 1; rw [Bool.eq_iff_iff]; simp; omega)
theorem impl_in (n a b : Int) : impl_yfits.f n a b = some (inB n a b) := by
  unfold impl_yfits.f inB
  repeat' split
  all_goals (congr 1; rw [Bool.eq_iff_iff]; simp; omega)

/-! ### yin -/
theorem impl_yin (a b c : Int) : impl_yin.f a b c = some (decide (b ≤ a ∧ a ≤ c)) := by
  unfold impl_yin.f
  split
  all_goals (congr 1; rw [Bool.eq_iff_iff]; simp; try omega)

/-! ### place -/
def placeOk (n a b : Int) : Bool := decide (Int.tmod a 4 = 0) && inB n a b
theorem impl_place (m : ByteArray) (a b : Int) : impl_yplace.f m a b = some (placeOk m.size a b) := by
  unfold impl_yplace.f placeOk
  simp only [impl_in, Option.bind_some]
  split <;> rename_i h <;> simp [h]

/-! ### queue -/
/-- How many a queue may hold. -/
def sizeOk (s : Int) : Bool := s == 1 || s == 2 || s == 4 || s == 8 || s == 16
theorem spec_sizes (k : Nat) (hk : 6 ≤ k) (s : Int) : spec_l01InInts.f k ([1, 2, 4, 8, 16] : List Int) s = some (sizeOk s) := by
  obtain ⟨k, rfl⟩ : ∃ m, k = m + 6 := ⟨k - 6, by omega⟩
  unfold spec_l01InInts.f sizeOk
  simp only [spec_l01InInts.l0, rd, wrap64]
  simp (config := {decide := true})
  grind
theorem impl_sizes (k : Nat) (hk : 6 ≤ k) (s : Int) : slices_Contains_int64.f k ([1, 2, 4, 8, 16] : List Int) s = some (sizeOk s) := by
  obtain ⟨k, rfl⟩ : ∃ m, k = m + 6 := ⟨k - 6, by omega⟩
  unfold slices_Contains_int64.f slices_Index_int64.f sizeOk
  simp only [slices_Index_int64.l0, rd, wrap64]
  simp (config := {decide := true})
  grind
theorem sizeOk_le {s : Int} (h : sizeOk s = true) : 1 ≤ s ∧ s ≤ 16 := by
  unfold sizeOk at h
  simp at h
  omega
/-- What a queue is. -/
def queueOk (m : ByteArray) (s d a u t g : Int) : Bool :=
  memOk m && sizeOk s && placeOk m.size d (wrap64 (16 * s)) && placeOk m.size a (wrap64 (8 + wrap64 (4 * s))) && placeOk m.size u (wrap64 (8 + wrap64 (8 * s))) && decide (0 ≤ t ∧ t ≤ 65535) && decide (0 ≤ g ∧ g ≤ 65535)
theorem spec_queue (k : Nat) (hk : 7 ≤ k) (m : ByteArray) (s d a u t g : Int) : spec_QueueFault.f k m s d a u t g = some (if queueOk m s d a u t g = true then 0 else 1) := by
  obtain ⟨k, rfl⟩ : ∃ m, k = m + 1 := ⟨k - 1, by omega⟩
  unfold spec_QueueFault.f queueOk placeOk
  simp only [spec_memOk, spec_sizes _ (show 6 ≤ k + 1 by omega), spec_QueueFault.j0, spec_in, Option.bind_some]
  grind
theorem impl_queue (k : Nat) (hk : 6 ≤ k) (m : ByteArray) (s d a u t g : Int) : impl_QueueFault.f k m s d a u t g = some (if queueOk m s d a u t g = true then 0 else 1) := by
  unfold impl_QueueFault.f queueOk
  simp only [impl_memOk, impl_sizes _ hk, impl_place, impl_yin, Option.bind_some]
  grind

theorem FnExactQueueFault : laws_FnExactQueueFault.Pure := by
  intro m s d a u t g hm hs hd ha hu ht hg
  refine ⟨7, ?_⟩
  unfold laws_FnExactQueueFault.f laws_toQueue.f
  simp only [spec_queue 7 (by omega), impl_queue 7 (by omega), Option.bind_some, if_true, ite_self]

end Go.Proofs.Ythcmgjbkmnpibaa.PureFnExactQueueFault
namespace Go.Proofs.Ythcmgjbkmnpibaa.Pure
theorem FnExactQueueFault : Go.Proofs.Ythcmgjbkmnpibaa.PFnExactQueueFault.laws_FnExactQueueFault.Pure := Go.Proofs.Ythcmgjbkmnpibaa.PureFnExactQueueFault.FnExactQueueFault
end Go.Proofs.Ythcmgjbkmnpibaa.Pure
