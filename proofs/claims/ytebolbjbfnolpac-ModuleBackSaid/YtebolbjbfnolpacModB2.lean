/-
  The law ModuleWhole.
-/
import Derived.Test.YtebolbjbfnolpacModV
import Derived.Test.YtebolbjbfnolpacModLaw
namespace Go.Proofs.Ytebolbjbfnolpac
open Go.RowKit HP
open Go.Proofs.Ytebolbjbfnolpac.Mod

theorem mstr_append (a b : List UInt8) : str a ++ str b = str (a ++ b) := by
  apply ByteArray.ext; simp [str]
theorem mstr_take (l : List UInt8) (n : Nat) : (str l).extract 0 n = str (l.take n) := by
  have := str_extract l 0 n
  simpa using this
/-- what the instructions of data name fits -/
theorem args_of {w : World} {ao : Option Addr} {l : List ActD} (h : Kn.At_ kActor w ao l) : ArgsD l := by
  rcases h with rfl | ⟨b, off, rfl, h⟩
  · intro a ha; simp at ha
  · intro a ha i hi
    obtain ⟨k, hk, rfl⟩ := List.mem_iff_getElem.1 ha
    obtain ⟨j, hj, rfl⟩ := List.mem_iff_getElem.1 hi
    obtain ⟨vs, hv, hc⟩ := h k l[k] (List.getElem?_eq_getElem hk)
    obtain ⟨c1, c2, e1, g1, c3, c4, e2, g2, c5, c6, e3, g3, c7, c8, e4, ⟨ao4, cap4, e5, g4⟩, _⟩ := hv
    exact (code_fits g4.2.2.2 j hj).2

section
end
namespace moduleWhole
end moduleWhole
end Go.Proofs.Ytebolbjbfnolpac
