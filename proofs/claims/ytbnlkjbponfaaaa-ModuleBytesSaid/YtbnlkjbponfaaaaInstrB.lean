/-
  The contracts of the instructions' Bytes, by the program and by the reference.
-/
import Derived.Test.YtbnlkjbponfaaaaInstrA
import Derived.Test.YtbnlkjbponfaaaaReelLaw0
namespace Go.Proofs.Ytbnlkjbponfaaaa
open Go.RowKit HP

namespace Instr
theorem wbyte (m : Int) (hm : 11 ≤ m) {op : Int} (h : 0 ≤ op ∧ op ≤ 26) : (Reel.new m).byte op = ⟨[UInt8.ofNat op.toNat], m - 1, 0⟩ := by
  have e : max m 0 = m := by omega
  simp only [Reel.W.byte, Reel.new, Reel.W.add, e, if_true]
  rw [if_neg (by omega), if_neg (by simp; omega)]
  simp
theorem wbytes (m : Int) (hm : 11 ≤ m) {op a : Int} (h : 0 ≤ op ∧ op ≤ 26) (hf : Reel.fold a < 18446744073709551616) : (((Reel.new m).byte op).int a).done = (UInt8.ofNat op.toNat :: Reel.digits (Reel.fold a), 0) := by
  rw [wbyte m hm h]
  have hl := Reel.digits_len10 hf
  simp only [Reel.W.int, Reel.W.num, Reel.W.add, if_true]
  rw [if_neg (by omega)]
  simp [Reel.W.done]
end Instr

section
variable {w0 w : World} {L : List HP}

theorem Reel.W.byte_keep (W : Reel.W) (n : Int) (h : 0 ≤ W.room) : (W.byte n).room + (W.byte n).out.length = W.room + W.out.length ∧ 0 ≤ (W.byte n).room ∧ (W.byte n).out.length ≤ W.out.length + 1 := by
  unfold Reel.W.byte Reel.W.add
  repeat' split
  all_goals simp_all
  all_goals omega

/-- what the reference writes of an instruction -/
def Reel.W.instr (W : Reel.W) (op a : Int) : Reel.W := if Instr.has op then (W.byte op).int a else W.byte op

theorem rput_any {b : Nat} {W : Reel.W} (op a : Int) (h1 : -9223372036854775808 ≤ op) (h2 : op ≤ 9223372036854775807) (h3 : -9223372036854775808 ≤ a) (h4 : a ≤ 9223372036854775807) (hA : At w0 w (RWriterC b W :: L))
    (g1 : W.out.length ≤ 140737488355317) (g0 : 0 ≤ W.room) (g2 : W.room + W.out.length ≤ 9223372036854775807) :
    Calls Try.prog 28 #[.pointer (some ⟨b, 0, none⟩), .agg #[.int .i64 op, .int .i64 a]] w fun e w' => e = .returned (.tuple #[]) ∧ At w0 w' (RWriterC b (W.instr op a) :: L) := by
  have hA0 := hA.alloc (.cells #[.int .i64 op, .int .i64 a] 43)
  obtain ⟨k1, k2, k3⟩ := W.byte_keep op g0
  cases hh : Instr.has op with
  | false =>
    have hi : W.instr op a = W.byte op := by simp [Reel.W.instr, hh]
    rw [hi]
    have HH := Lib.hid hh; clear hh
    go_enter Try.func28, Try.ntmps28
    go_wp2_with (first
      | (go_at_call 25; refine (rwbyte_any op h1 h2 hA0.pick2 (by omega) g0 g2).mono ?_; rintro e w' ⟨rfl, hA3⟩; have e0 := hA3.pick2.cell 0; have e1 := hA3.pick2.cell 1)
      | (go_at_call 67; refine (rhas_any _).mono ?_; rw [HH.out]; rintro e w' ⟨rfl, rfl⟩))
    go_returns
    exact ⟨rfl, hA3.pick2.drop⟩
  | true =>
    have hi : W.instr op a = (W.byte op).int a := by simp [Reel.W.instr, hh]
    rw [hi]
    have HH := Lib.hid hh; clear hh
    go_enter Try.func28, Try.ntmps28
    go_wp2_with (first
      | (go_at_call 25; refine (rwbyte_any op h1 h2 hA0.pick2 (by omega) g0 g2).mono ?_; rintro e w' ⟨rfl, hA3⟩; have e0 := hA3.pick2.cell 0; have e1 := hA3.pick2.cell 1)
      | (go_at_call 67; refine (rhas_any _).mono ?_; rw [HH.out]; rintro e w' ⟨rfl, rfl⟩)
      | (go_at_call 29; refine (rwint_any a h3 h4 hA3 (by omega) k2 (by omega)).mono ?_; rintro e w' ⟨rfl, hA4⟩))
    go_returns
    exact ⟨rfl, hA4.pick2.drop⟩

end
end Go.Proofs.Ytbnlkjbponfaaaa
