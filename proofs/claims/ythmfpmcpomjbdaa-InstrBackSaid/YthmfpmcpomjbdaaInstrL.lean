/-
  The laws of the instructions: what all of them call first; InstrBytes, InstrReads, InstrSize.
-/
import Derived.Test.YthmfpmcpomjbdaaInstrC
import Derived.Test.YthmfpmcpomjbdaaInstrN
import Derived.Test.YthmfpmcpomjbdaaOpen
namespace Go.Proofs.Ythmfpmcpomjbdaa
open Go.RowKit HP

section
variable {w0 w : World} {L : List HP}
theorem d1 : Reel.digits 1 = [1] := by rw [Reel.digits_small (by decide)]; rfl
theorem lives_b : Instr.bytes 1 (-1) = ([1, 1], 0) := by
  simp [Instr.bytes, Instr.right, Instr.has, Reel.fold, d1]
theorem lives_r : Instr.read [1, 1, 120] = (1, -1, 2, 0) := by decide +kernel
theorem lives_p : Instr.parse [114, 101, 99, 118] = (21, true) := by decide +kernel

set_option maxRecDepth 100000 in
theorem lives_any (hA : At w0 w L) :
    Calls Try.prog 9 #[] w fun e w' => e = .returned (.bool true) ∧ At w0 w' L := by
  have hb := fun w hA => bytes_any (w0 := w0) (w := w) (L := L) 1 (-1) (by decide) (by decide) hA
  rw [lives_b] at hb
  have HB := Lib.hid hb; clear hb
  have hr := fun w hA => read_any (w0 := w0) (w := w) (L := L) [1, 1, 120] (by decide) hA
  rw [lives_r] at hr
  have HR := Lib.hid hr; clear hr
  have hp := fun w L hA => parse_any (w0 := w0) (w := w) (L := L) [114, 101, 99, 118] hA
  rw [lives_p] at hp
  have HP_ := Lib.hid hp; clear hp
  have hstr : (str [1, 1]).toList = [1, 1] := str_toList _
  go_enter Try.func9, Try.ntmps9
  go_wp2_with (first
    | (go_at_call 10; refine (HB.out _ hA).mono ?_; rintro e w1 ⟨rfl, hA1⟩)
    | (go_at_call 12; refine (HR.out _ hA1).mono ?_; rintro e w1 ⟨rfl, hA2⟩)
    | (go_at_call 16; refine (HP_.out _ _ (hA2.alloc _)).mono ?_; rintro e w1 ⟨rfl, hA3⟩; have c1 := hA3.cell 1))
  go_returns
  exact ⟨rfl, hA3.drop⟩

/-- the argument of an instruction -/
noncomputable def fsInstr : Array Field := match Try.prog.underlying 23 with | some (.struct fs) => fs | _ => #[]
abbrev InsD := Int × Int × Unit
noncomputable def kfInstr : Kf Try.prog [(3, 0, 1), (2, 1, 1)] 0 InsD :=
  .cons (Kn.int Try.underlying3) (.cons (off := 1) (Kn.int Try.underlying2) (.nil (off := 2)))
noncomputable def kInstr : Kn Try.prog 23 InsD := .st (fs := fsInstr) kfInstr (by kernel_rfl) (by kernel_rfl) (by kernel_rfl)
theorem wf_i64' {a : Int} (h : (Lit.int .i64 a).wf = true) : -9223372036854775808 ≤ a ∧ a ≤ 9223372036854775807 := by
  simpa [Lit.wf, IntKind.min, IntKind.max, IntKind.signed, IntKind.bits] using h
theorem instr_open {w : World} {l : InsD} {cs : Array Value} (h : kInstr.R w l cs.toList) : cs = #[.int .i64 l.1, .int .i64 l.2.1] ∧ (-9223372036854775808 ≤ l.1 ∧ l.1 ≤ 9223372036854775807) ∧ (-9223372036854775808 ≤ l.2.1 ∧ l.2.1 ≤ 9223372036854775807) := by
  obtain ⟨c1, _, h0, ⟨rfl, h1⟩, c2, _, rfl, ⟨rfl, h2⟩, rfl⟩ := h
  refine ⟨Array.toList_inj.1 h0, wf_i64' h1, wf_i64' h2⟩

set_option maxRecDepth 100000 in
theorem instrBytes_any (op a : Int) (h1 : -9223372036854775808 ≤ op) (h2 : op ≤ 9223372036854775807) (h3 : -9223372036854775808 ≤ a) (h4 : a ≤ 9223372036854775807) (w : World) :
    Calls Try.prog 3 #[.agg #[.int .i64 op, .int .i64 a]] w fun e w' => e = .returned (.bool true) ∧ Below w.heap.size w w' := by
  obtain ⟨W0, hW⟩ : ∃ W0, W0 = w := ⟨_, rfl⟩
  have hA : At W0 w [] := hW ▸ At.start w
  have HW := Lib.hid hW; clear hW
  have hb := fun w L hA => bytes_any (w0 := W0) (w := w) (L := L) op a h3 h4 hA
  have hr := fun w L hA => rbytes_any (w0 := W0) (w := w) (L := L) op a h1 h2 h3 h4 hA
  generalize Instr.bytes op a = p at *
  obtain ⟨s, er⟩ := p
  simp only at hb hr
  have HB := Lib.hid hb; clear hb
  have HR := Lib.hid hr; clear hr
  have T : ((str s).toList == (str s).toList) = true := by simp
  have T2 : (er == er) = true := by simp
  go_enter Try.func3, Try.ntmps3
  go_wp2_with (first
    | (go_at_call 9; refine (lives_any (hA.alloc _)).mono ?_; rintro e w1 ⟨rfl, hA1⟩; have c0 := hA1.cell 0; have c1 := hA1.cell 1)
    | (go_at_call 10; refine (HB.out _ _ hA1).mono ?_; rintro e w2 ⟨rfl, hA2⟩; have d0 := hA2.cell 0; have d1 := hA2.cell 1)
    | (go_at_call 11; refine (HR.out _ _ hA2).mono ?_; rintro e w3 ⟨rfl, hA3⟩; have e0 := hA3.cell 0; have e1 := hA3.cell 1))
  go_returns
  exact ⟨rfl, HW.out ▸ hA3.below⟩
end
namespace instrBytes
theorem instrBytes_walk (W : World) (l : InsD) (cs : Array Value) (hR : kInstr.R W l cs.toList) :
    Calls Try.prog 3 #[.agg cs] W fun e w' => e = .returned (.bool true) ∧ Below W.heap.size W w' := by
  obtain ⟨rfl, ⟨h1, h2⟩, h3, h4⟩ := instr_open hR
  exact instrBytes_any _ _ h1 h2 h3 h4 W
end instrBytes
end Go.Proofs.Ythmfpmcpomjbdaa
