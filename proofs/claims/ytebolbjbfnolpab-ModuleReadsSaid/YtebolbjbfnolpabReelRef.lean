/-
  The contracts of the reference's writer.
-/
import Derived.Test.YtebolbjbfnolpabReelW
namespace Go.Proofs.Ytebolbjbfnolpab
open Go.RowKit HP

section
variable {w0 w : World} {L : List HP} {a : Nat} {W : Reel.W}
theorem wrap_div128 (n : Nat) (hn : U64 n) : IntKind.u64.wrap ((n : Int) / 128) = ((n / 128 : Nat) : Int) := by
  unfold U64 at hn; rw [IntKind.wrap_u64]; omega
theorem u64_div {n : Nat} (hn : U64 n) : U64 (n / 128) := by unfold U64 at *; omega

end

end Go.Proofs.Ytebolbjbfnolpab
