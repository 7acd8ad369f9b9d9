/-
  The contracts of the instructions' Bytes, by the program and by the reference.
-/
import Derived.Test.YthmfpmcpomjbdaaInstrA
import Derived.Test.YthmfpmcpomjbdaaReelLaw0
namespace Go.Proofs.Ythmfpmcpomjbdaa
open Go.RowKit HP

namespace Instr
theorem wbyte (m : Int) (hm : 11 ≤ m) {op : Int} (h : 0 ≤ op ∧ op ≤ 26) : (Reel.new m).byte op = ⟨[UInt8.ofNat op.toNat], m - 1, 0⟩ := by
  have e : max m 0 = m := by omega
  simp only [Reel.W.byte, Reel.new, Reel.W.add, e, if_true]
  rw [if_neg (by omega), if_neg (by simp; omega)]
  simp
theorem wbytes (m : Int) (hm : 11 ≤ m) {op a : Int} (h : 0 ≤ op ∧ op ≤ 26) (hf : Reel.fold a < 18446744073709551616) : (((Reel.new m).byte op).int a).done = (UInt8.ofNat op.toNat :: Reel.digits (Reel.fold a), 0) := by
  rw [wbyte m hm h]
  have hl := Reel.digits_len10 hf
  simp only [Reel.W.int, Reel.W.num, Reel.W.add, if_true]
  rw [if_neg (by omega)]
  simp [Reel.W.done]
end Instr

section
variable {w0 w : World} {L : List HP}

theorem bytes_any (op a : Int) (h3 : -9223372036854775808 ≤ a) (h4 : a ≤ 9223372036854775807) (hA : At w0 w L) :
    Calls Try.prog 10 #[.agg #[.int .i64 op, .int .i64 a]] w fun e w' => e = .returned (.tuple #[.string (str (Instr.bytes op a).1), .int .i64 (Instr.bytes op a).2]) ∧ At w0 w' L := by
  have hA0 := hA.alloc (.cells #[.int .i64 op, .int .i64 a] 23)
  have hff := fold_fits a h3 h4
  cases hr : Instr.right op a with
  | false =>
    have hb : Instr.bytes op a = ([], 4) := by simp [Instr.bytes, hr]
    rw [hb]
    have HR := Lib.hid hr; clear hr hb
    go_enter Try.func10, Try.ntmps10
    go_wp2_with (first
      | (go_at_call 14; refine (right_any op a hA0).mono ?_; rw [HR.out]; rintro e w' ⟨rfl, hA1⟩))
    go_returns
    exact ⟨rfl, hA1.drop⟩
  | true =>
    have hop := Instr.right_op hr
    cases hh : Instr.has op with
    | false =>
      have hb : Instr.bytes op a = ([UInt8.ofNat op.toNat], 0) := by simp [Instr.bytes, hr, hh]
      rw [hb]
      have hw := Instr.wbyte 16 (by decide) hop
      have HWW := Lib.hid (show ((Reel.new 16).byte op).done = ([UInt8.ofNat op.toNat], 0) by rw [hw]; rfl)
      have HR := Lib.hid hr
      have HH := Lib.hid hh; clear hr hh hb hw
      go_enter Try.func10, Try.ntmps10
      go_wp2_with (first
        | (go_at_call 14; refine (right_any op a hA0).mono ?_; rw [HR.out]; rintro e w' ⟨rfl, hA1⟩; have c0 := hA1.cell 0; have c1 := hA1.cell 1)
        | (go_at_call 22; refine (wnew_any 16 hA1).mono ?_; rintro e w' ⟨v, rfl, hA2⟩; have d0 := hA2.pick2.cell 0; have d1 := hA2.pick2.cell 1)
        | (go_at_call 23; refine (wbyte_any op hA2 (by decide) (by decide) (by decide)).mono ?_; rintro e w' ⟨rfl, hA3⟩; have e0 := hA3.pick2.cell 0; have e1 := hA3.pick2.cell 1)
        | (go_at_call 15; refine (has_any _).mono ?_; rw [HH.out]; rintro e w' ⟨rfl, rfl⟩)
        | (go_at_call 25; refine (wdone_any hA3).mono ?_; rw [HWW.out]; rintro e w' ⟨rfl, n, rfl⟩))
      go_returns
      exact ⟨rfl, (hA3.drewN _).drop.drop⟩
    | true =>
      have hb : Instr.bytes op a = (UInt8.ofNat op.toNat :: Reel.digits (Reel.fold a), 0) := by simp [Instr.bytes, hr, hh]
      rw [hb]
      have hw := Instr.wbyte 16 (by decide) hop
      have HWW := Lib.hid (Instr.wbytes 16 (by decide) hop hff)
      have HR := Lib.hid hr
      have HH := Lib.hid hh; clear hr hh hb
      have HFF := Lib.hid hff; clear hff
      have hq : ((Reel.new 16).byte op).out.length = 1 := by rw [hw]; rfl
      have hq2 : ((Reel.new 16).byte op).room = 15 := by rw [hw]; rfl
      clear hw
      go_enter Try.func10, Try.ntmps10
      go_wp2_with (first
        | (go_at_call 14; refine (right_any op a hA0).mono ?_; rw [HR.out]; rintro e w' ⟨rfl, hA1⟩; have c0 := hA1.cell 0; have c1 := hA1.cell 1)
        | (go_at_call 22; refine (wnew_any 16 hA1).mono ?_; rintro e w' ⟨v, rfl, hA2⟩; have d0 := hA2.pick2.cell 0; have d1 := hA2.pick2.cell 1)
        | (go_at_call 23; refine (wbyte_any op hA2 (by decide) (by decide) (by decide)).mono ?_; rintro e w' ⟨rfl, hA3⟩; have e0 := hA3.pick2.cell 0; have e1 := hA3.pick2.cell 1)
        | (go_at_call 15; refine (has_any _).mono ?_; rw [HH.out]; rintro e w' ⟨rfl, rfl⟩)
        | (go_at_call 24; refine (wint_any a h3 h4 hA3 (by omega) (by omega) (by omega)).mono ?_; rintro e w' ⟨rfl, hA4⟩)
        | (go_at_call 25; refine (wdone_any hA4).mono ?_; rw [HWW.out]; rintro e w' ⟨rfl, n, rfl⟩))
      go_returns
      exact ⟨rfl, (hA4.drewN _).drop.drop⟩

theorem Reel.W.byte_keep (W : Reel.W) (n : Int) (h : 0 ≤ W.room) : (W.byte n).room + (W.byte n).out.length = W.room + W.out.length ∧ 0 ≤ (W.byte n).room ∧ (W.byte n).out.length ≤ W.out.length + 1 := by
  unfold Reel.W.byte Reel.W.add
  repeat' split
  all_goals simp_all
  all_goals omega

/-- what the reference writes of an instruction -/
def Reel.W.instr (W : Reel.W) (op a : Int) : Reel.W := if Instr.has op then (W.byte op).int a else W.byte op

theorem rput_any {b : Nat} {W : Reel.W} (op a : Int) (h1 : -9223372036854775808 ≤ op) (h2 : op ≤ 9223372036854775807) (h3 : -9223372036854775808 ≤ a) (h4 : a ≤ 9223372036854775807) (hA : At w0 w (RWriterC b W :: L))
    (g1 : W.out.length ≤ 140737488355317) (g0 : 0 ≤ W.room) (g2 : W.room + W.out.length ≤ 9223372036854775807) :
    Calls Try.prog 27 #[.pointer (some ⟨b, 0, none⟩), .agg #[.int .i64 op, .int .i64 a]] w fun e w' => e = .returned (.tuple #[]) ∧ At w0 w' (RWriterC b (W.instr op a) :: L) := by
  have hA0 := hA.alloc (.cells #[.int .i64 op, .int .i64 a] 23)
  obtain ⟨k1, k2, k3⟩ := W.byte_keep op g0
  cases hh : Instr.has op with
  | false =>
    have hi : W.instr op a = W.byte op := by simp [Reel.W.instr, hh]
    rw [hi]
    have HH := Lib.hid hh; clear hh
    go_enter Try.func27, Try.ntmps27
    go_wp2_with (first
      | (go_at_call 44; refine (rwbyte_any op h1 h2 hA0.pick2 (by omega) g0 g2).mono ?_; rintro e w' ⟨rfl, hA3⟩; have e0 := hA3.pick2.cell 0; have e1 := hA3.pick2.cell 1)
      | (go_at_call 19; refine (rhas_any _).mono ?_; rw [HH.out]; rintro e w' ⟨rfl, rfl⟩))
    go_returns
    exact ⟨rfl, hA3.pick2.drop⟩
  | true =>
    have hi : W.instr op a = (W.byte op).int a := by simp [Reel.W.instr, hh]
    rw [hi]
    have HH := Lib.hid hh; clear hh
    go_enter Try.func27, Try.ntmps27
    go_wp2_with (first
      | (go_at_call 44; refine (rwbyte_any op h1 h2 hA0.pick2 (by omega) g0 g2).mono ?_; rintro e w' ⟨rfl, hA3⟩; have e0 := hA3.pick2.cell 0; have e1 := hA3.pick2.cell 1)
      | (go_at_call 19; refine (rhas_any _).mono ?_; rw [HH.out]; rintro e w' ⟨rfl, rfl⟩)
      | (go_at_call 45; refine (rwint_any a h3 h4 hA3 (by omega) k2 (by omega)).mono ?_; rintro e w' ⟨rfl, hA4⟩))
    go_returns
    exact ⟨rfl, hA4.pick2.drop⟩

theorem rbytes_any (op a : Int) (h1 : -9223372036854775808 ≤ op) (h2 : op ≤ 9223372036854775807) (h3 : -9223372036854775808 ≤ a) (h4 : a ≤ 9223372036854775807) (hA : At w0 w L) :
    Calls Try.prog 11 #[.agg #[.int .i64 op, .int .i64 a]] w fun e w' => e = .returned (.tuple #[.string (str (Instr.bytes op a).1), .int .i64 (Instr.bytes op a).2]) ∧ At w0 w' L := by
  have hA0 := hA.alloc (.cells #[.int .i64 op, .int .i64 a] 23)
  have hff := fold_fits a h3 h4
  cases hr : Instr.right op a with
  | false =>
    have hb : Instr.bytes op a = ([], 4) := by simp [Instr.bytes, hr]
    rw [hb]
    have HR := Lib.hid hr; clear hr hb
    go_enter Try.func11, Try.ntmps11
    go_wp2_with (first
      | (go_at_call 18; refine (rright_any op a hA0).mono ?_; rw [HR.out]; rintro e w' ⟨rfl, hA1⟩))
    go_returns
    exact ⟨rfl, hA1.drop⟩
  | true =>
    have hop := Instr.right_op hr
    have hd : ((Reel.new 20).instr op a).done = Instr.bytes op a := by
      rw [Reel.W.instr, Instr.bytes, if_pos hr]
      cases hh : Instr.has op with
      | false =>
        have hw := Instr.wbyte 20 (by decide) hop
        simp only [Bool.false_eq_true, if_false]
        rw [hw]; rfl
      | true =>
        simp only [if_true]
        exact Instr.wbytes 20 (by decide) hop hff
    have HR := Lib.hid hr
    have HD := Lib.hid hd; clear hr hd
    go_enter Try.func11, Try.ntmps11
    go_wp2_with (first
      | (go_at_call 18; refine (rright_any op a hA0).mono ?_; rw [HR.out]; rintro e w' ⟨rfl, hA1⟩; have c0 := hA1.cell 0; have c1 := hA1.cell 1)
      | (go_at_call 26; refine (rwnew_any 20 hA1).mono ?_; rintro e w' ⟨v, rfl, hA2⟩; have d0 := hA2.pick2.cell 0; have d1 := hA2.pick2.cell 1)
      | (go_at_call 27; refine (rput_any op a h1 h2 h3 h4 hA2 (by decide) (by decide) (by decide)).mono ?_; rintro e w' ⟨rfl, hA3⟩)
      | (go_at_call 28; refine (rwdone_any hA3).mono ?_; rw [HD.out]; rintro e w' ⟨rfl, n, rfl⟩))
    go_returns
    exact ⟨rfl, (hA3.drewN _).drop.drop⟩
end
end Go.Proofs.Ythmfpmcpomjbdaa
