/-
  The contracts of the instructions' Bytes, by the program and by the reference.
-/
import Derived.Test.YtebolbjbfnolpabInstrA
import Derived.Test.YtebolbjbfnolpabReelLaw0
namespace Go.Proofs.Ytebolbjbfnolpab
open Go.RowKit HP

namespace Instr
theorem wbyte (m : Int) (hm : 11 ≤ m) {op : Int} (h : 0 ≤ op ∧ op ≤ 26) : (Reel.new m).byte op = ⟨[UInt8.ofNat op.toNat], m - 1, 0⟩ := by
  have e : max m 0 = m := by omega
  simp only [Reel.W.byte, Reel.new, Reel.W.add, e, if_true]
  rw [if_neg (by omega), if_neg (by simp; omega)]
  simp
theorem wbytes (m : Int) (hm : 11 ≤ m) {op a : Int} (h : 0 ≤ op ∧ op ≤ 26) (hf : Reel.fold a < 18446744073709551616) : (((Reel.new m).byte op).int a).done = (UInt8.ofNat op.toNat :: Reel.digits (Reel.fold a), 0) := by
  rw [wbyte m hm h]
  have hl := Reel.digits_len10 hf
  simp only [Reel.W.int, Reel.W.num, Reel.W.add, if_true]
  rw [if_neg (by omega)]
  simp [Reel.W.done]
end Instr

section
variable {w0 w : World} {L : List HP}

theorem Reel.W.byte_keep (W : Reel.W) (n : Int) (h : 0 ≤ W.room) : (W.byte n).room + (W.byte n).out.length = W.room + W.out.length ∧ 0 ≤ (W.byte n).room ∧ (W.byte n).out.length ≤ W.out.length + 1 := by
  unfold Reel.W.byte Reel.W.add
  repeat' split
  all_goals simp_all
  all_goals omega

/-- what the reference writes of an instruction -/
def Reel.W.instr (W : Reel.W) (op a : Int) : Reel.W := if Instr.has op then (W.byte op).int a else W.byte op

end
end Go.Proofs.Ytebolbjbfnolpab
