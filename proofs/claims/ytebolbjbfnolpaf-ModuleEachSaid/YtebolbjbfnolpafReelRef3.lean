/-
  The contracts of the reference's reader: the rest.
-/
import Derived.Test.YtebolbjbfnolpafReelRef2
namespace Go.Proofs.Ytebolbjbfnolpaf
open Go.RowKit HP

section
variable {w0 w : World} {L : List HP} {a : Nat} {R : Reel.R}

theorem str_tail (l : List UInt8) (p : Nat) : (str l).extract p l.length = str (l.drop p) := by
  unfold str
  apply ByteArray.ext
  simp only [ByteArray.data_extract, List.extract_toArray]
  rw [List.extract_eq_take_drop, List.take_of_length_le (by simp)]

end

end Go.Proofs.Ytebolbjbfnolpaf
