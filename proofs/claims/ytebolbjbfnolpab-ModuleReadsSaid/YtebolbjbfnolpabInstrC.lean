/-
  The contracts of the instructions' Read, by the program and by the reference.
-/
import Derived.Test.YtebolbjbfnolpabInstrB
import Derived.Deep.RegionWith
import Derived.IntWalk
namespace Go.Proofs.Ytebolbjbfnolpab
open Go.RowKit HP

theorem str_list (l : List UInt8) : (str l).toList = l := by rw [ByteArray.toList_eq]; simp [str]
namespace Reel
theorem rdNum_errs (l : List UInt8) : ∀ i, (rdNum i l).1 = 0 ∨ (rdNum i l).1 = 2 ∨ (rdNum i l).1 = 4 := by
  induction l with
  | nil => intro i; exact .inr (.inl rfl)
  | cons c r ih =>
    intro i
    simp only [rdNum]
    split
    · exact .inr (.inr rfl)
    · split
      · exact .inl rfl
      · split
        · exact .inl rfl
        · exact ih (i + 1)
theorem read_int_ok (r : List UInt8) (h : (rdNum 0 r).1 = 0) : (read r).int = (unfold_ (rdNum 0 r).2.1, ⟨r, (rdNum 0 r).2.2, 0⟩) := by
  simp [R.int, R.num, read, h]
theorem read_int_no (r : List UInt8) (h : (rdNum 0 r).1 ≠ 0) : (read r).int = (0, ⟨r, 0, (rdNum 0 r).1⟩) := by
  simp [R.int, R.num, read, h, unfold_]
end Reel

section
variable {w0 w : World} {L : List HP}

end
end Go.Proofs.Ytebolbjbfnolpab
