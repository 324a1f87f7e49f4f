/- The plain statement of the law FnExactPackedFault. -/
import Derived.Test.YthcmgjbkmnpibaaStFnExactPackedFault
namespace Go.Proofs.Ythcmgjbkmnpibaa.Pure
open Go.RowKit Go.Proofs.Ythcmgjbkmnpibaa.PFnExactPackedFault Go.Proofs.YthcmgjbkmnpibaaW.PrintWords Go.Proofs.YthcmgjbkmnpibaaW.PrintLast

/-- Memory as both want it: whole pages, at least one. -/
def memOk (m : ByteArray) : Bool := decide (256 ≤ (m.size : Int) ∧ (m.size : Int) ≤ 65536 ∧ (m.size : Int) % 256 = 0)
theorem impl_memOk (m : ByteArray) : impl_ymemOk.f m = some (memOk m) := by
  unfold impl_ymemOk.f memOk
  repeat' split
  all_goals (congr 1; rw [Bool.eq_iff_iff]; simp; omega)
theorem spec_memOk (m : ByteArray) : spec_MemFault.f m = some (if memOk m = true then 0 else 1) := by
  unfold spec_MemFault.f memOk
  grind
/-- A place in so many bytes. -/
def inB (n a b : Int) : Bool := decide (0 ≤ a ∧ 0 ≤ b ∧ a ≤ n ∧ b ≤ wrap64 (n - a))
theorem spec_in (m : ByteArray) (a b : Int) : spec_l10In.f m a b = some (inB m.size a b) := by
  unfold spec_l10In.f inB
  repeat' split
  all_goals (congr 1; rw [Bool.eq_iff_iff]; simp; omega)
theorem impl_in (n a b : Int) : impl_yfits.f n a b = some (inB n a b) := by
  unfold impl_yfits.f inB
  repeat' split
  all_goals (congr 1; rw [Bool.eq_iff_iff]; simp; omega)
/-- What a packed ring is. -/
def packedOk (m : ByteArray) (s r a : Int) : Bool := memOk m && decide (1 ≤ s ∧ s ≤ 16) && decide (Int.tmod r 4 = 0) && inB m.size r (wrap64 (16 * s)) && decide (0 ≤ a ∧ a < s)
theorem spec_packed (m : ByteArray) (s r a : Int) (wr : Bool) : spec_PackedFault.f m s r a wr = some (if packedOk m s r a = true then 0 else 1) := by
  unfold spec_PackedFault.f packedOk
  simp only [spec_memOk, spec_in, Option.bind_some]
  grind
theorem impl_packed (m : ByteArray) (s r a : Int) (wr : Bool) (hs : (Lit.int .i64 s).wf = true) : impl_PackedFault.f m s r a wr = some (if packedOk m s r a = true then 0 else 1) := by
  have bs := bounds_i64 hs
  have e1 : 1 ≤ s → wrap64 (s - 1) = s - 1 := by intro h; unfold wrap64; omega
  unfold impl_PackedFault.f impl_yplace.f impl_yin.f packedOk
  simp only [impl_memOk, impl_in, Option.bind_some]
  grind

theorem FnExactPackedFault : laws_FnExactPackedFault.Pure := by
  intro m s r a wr hm hs hr ha
  unfold laws_FnExactPackedFault.f laws_toPacked.f
  simp only [spec_packed, impl_packed _ _ _ _ _ hs, Option.bind_some, if_true, ite_self]

end Go.Proofs.Ythcmgjbkmnpibaa.Pure
