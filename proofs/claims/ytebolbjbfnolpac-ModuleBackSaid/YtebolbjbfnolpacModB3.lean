/-
  The law ModuleSame.
-/
import Derived.Test.YtebolbjbfnolpacModSc
import Derived.Test.YtebolbjbfnolpacModB2
namespace Go.Proofs.Ytebolbjbfnolpac
open Go.RowKit HP
open Go.Proofs.Ytebolbjbfnolpac.Mod

theorem bytes_wrong {m : List Mod.Act} (h : err m ≠ 0) : Mod.bytes m = ([], err m) := by rw [Mod.bytes, if_neg h]

section
end
namespace moduleSame
end moduleSame
end Go.Proofs.Ytebolbjbfnolpac
