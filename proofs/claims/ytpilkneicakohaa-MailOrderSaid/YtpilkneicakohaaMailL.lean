/-
  The laws over the mailbox: what all of them call first; how arguments are opened; MailNil.
-/
import Derived.Test.YtpilkneicakohaaMailG
import Derived.Test.YtpilkneicakohaaOpen
import Derived.Deep.RegionHeld3
namespace Go.Proofs.Ytpilkneicakohaa
open Go.RowKit HP
open Mail (M)

theorem wf_i64 {a : Int} (h : (Lit.int .i64 a).wf = true) : -9223372036854775808 ≤ a ∧ a ≤ 9223372036854775807 := by
  simpa [Lit.wf, IntKind.min, IntKind.max, IntKind.signed, IntKind.bits] using h

section
variable {w0 w : World} {L : List HP}

set_option maxRecDepth 100000 in
theorem lives_any (hA : At w0 w L) :
    Calls Try.prog 8 #[] w fun e w' => e = .returned (.bool true) ∧ At w0 w' L := by
  have hp1 := fun w a hA => mput_any (w0 := w0) (w := w) (L := L) (a := a) (l := []) 1 5 (by decide) hA
  have hp2 := fun w a hA => mput_any (w0 := w0) (w := w) (L := L) (a := a) (l := [(1, 5)]) 2 6 (by decide) hA
  have hf := fun w L a ao hrd hA => mfind_any (w0 := w0) (w := w) (L := L) (a := a) (l := [(1, 5), (2, 6)]) [2, 3] ao 2 (by decide) hrd (by decide) hA
  have ht := fun w L a hA => mtake_any (w0 := w0) (w := w) (L := L) (a := a) (l := [(1, 5), (2, 6)]) 1 (by decide) hA
  have e1 : Mail.put (1, 5) [] = (0, [(1, 5)]) := by decide
  have e2 : Mail.put (2, 6) [(1, 5)] = (0, [(1, 5), (2, 6)]) := by decide
  have e3 : Mail.find [2, 3] [(1, 5), (2, 6)] 0 = (1, true) := by decide
  have e4 : Mail.at_ [(1, 5), (2, 6)] 1 = ((2, 6), true) := by decide
  have e5 : Mail.take [(1, 5), (2, 6)] 1 = [(1, 5)] := by decide
  rw [e1] at hp1
  rw [e2] at hp2
  rw [e3] at hf
  rw [e4, e5] at ht
  have P1 := Lib.hid hp1; clear hp1
  have P2 := Lib.hid hp2; clear hp2
  have F1 := Lib.hid hf; clear hf
  have T1 := Lib.hid ht; clear ht
  clear e1 e2 e3 e4 e5
  go_enter Try.func8, Try.ntmps8
  go_wp2_with (first
    | (go_at_call 9; refine (mnew_any hA).mono ?_; rintro e w1 ⟨a, rfl, hA1⟩)
    | (go_at_call_of 11 (Value.int .i64 5); refine (P1.out _ _ hA1).mono ?_; rintro e w2 ⟨rfl, hA2⟩)
    | (go_at_call_of 11 (Value.int .i64 6); refine (P2.out _ _ hA2).mono ?_; rintro e w3 ⟨rfl, hA3⟩; have hA4 := hA3.alloc (.cells #[.int .i64 2, .int .i64 3] 3); have hrd := Rd.new w3 #[.int .i64 2, .int .i64 3] 3)
    | (go_at_call 13; refine (F1.out _ _ _ _ hrd hA4.pick2).mono ?_; rintro e w5 ⟨rfl, hA5⟩)
    | (go_at_call 15; refine (T1.out _ _ _ hA5).mono ?_; rintro e w6 ⟨rfl, hA6⟩; have hA7 := hA6.alloc (.cells #[.int .i64 2, .int .i64 6] 31); have c1 := hA7.cell 1)
    | (go_at_call 18; refine (mlen_any hA7.pick2).mono ?_; rintro e w7 ⟨rfl, rfl⟩))
  go_returns
  exact ⟨rfl, hA7.drop.drop.drop⟩

theorem kind_any (k t n i : Int) (ao : Option Addr) (ln cap : Nat) (q : Int) (hq : k % 4 = q) (hA : At w0 w L) :
    Calls Try.prog 10 #[.agg #[.int .i64 k, .int .i64 t, .int .i64 n, .slice ao ln cap, .int .i64 i]] w fun e w' => e = .returned (.int .i64 q) ∧ At w0 w' L := by
  have HQ := Lib.hid hq; clear hq
  go_enter Try.func10, Try.ntmps10
  go_wp2
  go_returns
  refine ⟨ret_int ?_, (hA.alloc _).drop⟩
  have := HQ.out
  simp only [IntKind.wrap_u64]
  rw [Int.tmod_eq_emod_of_nonneg (by omega)]
  unfold wrap64
  omega
end

/-! arguments -/
theorem rd_of_at {t : TypeId} (ht : Try.prog.underlying t = some (.int .i64)) {w : World} {ao : Option Addr} {l : List Int} (h : Kn.At_ (Kn.int ht) w ao l) : Rd w ao (l.map (Value.int .i64)) := by
  rcases h with rfl | ⟨b, off, rfl, h⟩
  · exact Rd.nil _ _
  · refine .inr ⟨b, off, rfl, fun j u hj => ?_⟩
    rw [List.getElem?_map] at hj
    cases hx : l[j]? with
    | none => rw [hx] at hj; cases hj
    | some x =>
      rw [hx] at hj; cases hj
      obtain ⟨cs, ⟨rfl, _⟩, hc⟩ := h j x hx
      have := hc 0 _ rfl
      have e : (Kn.int ht).sz = 1 := rfl
      rw [e, Nat.mul_one, Nat.add_zero] at this
      exact this

noncomputable def fsMsg : Array Field := match Try.prog.underlying 31 with | some (.struct fs) => fs | _ => #[]
abbrev MsgD := Int × Int × Unit
noncomputable def kfMsg : Kf Try.prog [(3, 0, 1), (2, 1, 1)] 0 MsgD :=
  .cons (Kn.int Try.underlying3) (.cons (off := 1) (Kn.int Try.underlying2) (.nil (off := 2)))
noncomputable def kMsg : Kn Try.prog 31 MsgD := .st (fs := fsMsg) kfMsg (by kernel_rfl) (by kernel_rfl) (by kernel_rfl)
noncomputable def kMsgs : Kn Try.prog 27 (List MsgD) := .slice kMsg (by decide) (by kernel_rfl) (by kernel_rfl)
noncomputable def kInts : Kn Try.prog 32 (List Int) := .slice (Kn.int Try.underlying3) (by decide) (by kernel_rfl) (by kernel_rfl)
noncomputable def fsOp : Array Field := match Try.prog.underlying 34 with | some (.struct fs) => fs | _ => #[]
abbrev OpD := Int × MsgD × List Int × Int × Unit
noncomputable def kfOp : Kf Try.prog [(3, 0, 1), (31, 1, 2), (32, 3, 1), (3, 4, 1)] 0 OpD :=
  .cons (Kn.int Try.underlying3) (.cons (off := 1) kMsg (.cons (off := 3) kInts (.cons (off := 4) (Kn.int Try.underlying3) (.nil (off := 5)))))
noncomputable def kOp : Kn Try.prog 34 OpD := .st (fs := fsOp) kfOp (by kernel_rfl) (by kernel_rfl) (by kernel_rfl)
noncomputable def kOps : Kn Try.prog 22 (List OpD) := .slice kOp (by decide) (by kernel_rfl) (by kernel_rfl)

theorem op_open {w : World} {l : OpD} {cs : List Value} (h : kOp.R w l cs) : ∃ ao cap, cs = [.int .i64 l.1, .int .i64 l.2.1.1, .int .i64 l.2.1.2.1, .slice ao l.2.2.1.length cap, .int .i64 l.2.2.2.1] ∧
    Rd w ao (l.2.2.1.map (Value.int .i64)) ∧ l.2.2.1.length ≤ maxLen ∧ (-9223372036854775808 ≤ l.1 ∧ l.1 ≤ 9223372036854775807) ∧ (-9223372036854775808 ≤ l.2.2.2.1 ∧ l.2.2.2.1 ≤ 9223372036854775807) := by
  obtain ⟨c1, _, rfl, ⟨rfl, h1⟩, c2, _, rfl, ⟨c3, _, rfl, ⟨rfl, h3⟩, c4, _, rfl, ⟨rfl, h4⟩, rfl⟩, c5, _, rfl, ⟨ao, cap, rfl, h5, h6, _, h7⟩, c6, _, rfl, ⟨rfl, h8⟩, rfl⟩ := h
  exact ⟨ao, cap, rfl, rd_of_at _ h7, by omega, wf_i64 h1, wf_i64 h8⟩

section
variable {w0 w : World} {L : List HP}
set_option maxRecDepth 100000 in
theorem mailNil_any (k t n i : Int) (ts : List Int) (ao : Option Addr) (cap : Nat) (hm : ts.length ≤ maxLen) (w : World) (hrd : Rd w ao (ts.map (Value.int .i64))) :
    Calls Try.prog 6 #[.agg #[.int .i64 k, .int .i64 t, .int .i64 n, .slice ao ts.length cap, .int .i64 i]] w fun e w' => e = .returned (.bool true) ∧ Below w.heap.size w w' := by
  obtain ⟨W0, hW⟩ : ∃ W0, W0 = w := ⟨_, rfl⟩
  have hA : At W0 w [] := hW ▸ At.start w
  have hrd0 : Rd W0 ao (ts.map (Value.int .i64)) := hW ▸ hrd
  clear hrd
  have HW := Lib.hid hW; clear hW
  go_enter Try.func6, Try.ntmps6
  go_wp2_with (first
    | (go_at_call 8; refine (lives_any (hA.alloc _)).mono ?_; rintro e w1 ⟨rfl, hA1⟩; have c0 := hA1.cell 0; have c1 := hA1.cell 1; have c2 := hA1.cell 2; have c3 := hA1.cell 3; have c4 := hA1.cell 4)
    | (go_at_call 13; refine (mfind_nil ts ao cap hm _ (hrd0.old hA1) hA1).mono ?_; rintro e w2 ⟨rfl, hA2⟩; have d4 := hA2.cell 4)
    | (go_at_call 15; refine (mtake_nil _ hA2).mono ?_; rintro e w3 ⟨rfl, hA3⟩; have hA4 := hA3.alloc (.cells #[.int .i64 0, .int .i64 0] 31); have e4 := hA4.pick2.cell 4)
    | (go_at_call 17; refine (mat_nil _ hA4).mono ?_; rintro e w5 ⟨rfl, hA5⟩; have hA6 := hA5.alloc (.cells #[.int .i64 0, .int .i64 0] 31); have f1 := hA6.pick3.cell 1; have f2 := hA6.pick3.cell 2)
    | (go_at_call 11; refine (mput_nil _ _ hA6).mono ?_; rintro e w7 ⟨rfl, hA7⟩)
    | (go_at_call 18; refine (mlen_nil _).mono ?_; rintro e w8 ⟨rfl, rfl⟩)
    | (go_at_call 20; refine (lall_nil _ hA7).mono ?_; rintro e w9 ⟨ao9, cap9, rfl, hA9⟩))
  go_returns
  exact ⟨rfl, HW.out ▸ hA9.below⟩
end
namespace mailNil
theorem mailNil_walk (W : World) (l : OpD) (cs : Array Value) (hR : kOp.R W l cs.toList) :
    Calls Try.prog 6 #[.agg cs] W fun e w' => e = .returned (.bool true) ∧ Below W.heap.size W w' := by
  obtain ⟨ao, cap, h, hrd, hm, _, _⟩ := op_open hR
  obtain rfl : cs = #[.int .i64 l.1, .int .i64 l.2.1.1, .int .i64 l.2.1.2.1, .slice ao l.2.2.1.length cap, .int .i64 l.2.2.2.1] := Array.toList_inj.1 h
  exact mailNil_any _ _ _ _ _ ao cap hm W hrd
end mailNil
end Go.Proofs.Ytpilkneicakohaa
