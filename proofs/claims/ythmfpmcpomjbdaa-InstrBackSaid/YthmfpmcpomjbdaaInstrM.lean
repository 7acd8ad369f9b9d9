/-
  The laws InstrReads, InstrSize, InstrRight, InstrNames.
-/
import Derived.Test.YthmfpmcpomjbdaaInstrD
import Derived.Test.YthmfpmcpomjbdaaInstrL
import Derived.Deep.RegionHeld3
namespace Go.Proofs.Ythmfpmcpomjbdaa
open Go.RowKit HP

section
variable {w0 w : World} {L : List HP}

set_option maxRecDepth 100000 in
theorem instrReads_any (t : List UInt8) (ht : t.length ≤ 140737488351232) (w : World) :
    Calls Try.prog 4 #[.string (str t)] w fun e w' => e = .returned (.bool true) ∧ Below w.heap.size w w' := by
  obtain ⟨W0, hW⟩ : ∃ W0, W0 = w := ⟨_, rfl⟩
  have hA : At W0 w [] := hW ▸ At.start w
  have HW := Lib.hid hW; clear hW
  have hb := fun w L hA => read_any (w0 := W0) (w := w) (L := L) t (by omega) hA
  have hr := fun w L hA => rread_any (w0 := W0) (w := w) (L := L) t (by omega) hA
  generalize Instr.read t = p at *
  obtain ⟨op, a, n, er⟩ := p
  simp only at hb hr
  have HB := Lib.hid hb; clear hb
  have HR := Lib.hid hr; clear hr
  go_enter Try.func4, Try.ntmps4
  go_wp2_with (first
    | (go_at_call 9; refine (lives_any hA).mono ?_; rintro e w1 ⟨rfl, hA1⟩)
    | (go_at_call 12; refine (HB.out _ _ hA1).mono ?_; rintro e w2 ⟨rfl, hA2⟩)
    | (go_at_call 13; refine (HR.out _ _ (hA2.alloc _)).mono ?_; rintro e w3 ⟨rfl, hA3⟩; have hA4 := hA3.alloc (.cells #[.int .i64 op, .int .i64 a] 23); have e0 := hA4.cell 0; have e1 := hA4.cell 1; have f0 := hA4.pick2.cell 0; have f1 := hA4.pick2.cell 1))
  go_returns
  exact ⟨rfl, HW.out ▸ hA4.below⟩

set_option maxHeartbeats 8000000 in
set_option maxRecDepth 100000 in
theorem instrRight_any (op a : Int) (o : Int) (s : List UInt8) (w : World) :
    Calls Try.prog 7 #[.agg #[.int .i64 op, .int .i64 a], .int .i64 o, .string (str s)] w fun e w' => e = .returned (.bool true) ∧ Below w.heap.size w w' := by
  obtain ⟨W0, hW⟩ : ∃ W0, W0 = w := ⟨_, rfl⟩
  have hA : At W0 w [] := hW ▸ At.start w
  have HW := Lib.hid hW; clear hW
  have hb := fun w L hA => parse_any (w0 := W0) (w := w) (L := L) s hA
  have hr := fun w L hA => rparse_any (w0 := W0) (w := w) (L := L) s hA
  generalize Instr.parse s = p at *
  obtain ⟨pa, pb⟩ := p
  simp only at hb hr
  have HB := Lib.hid hb; clear hb
  have HR := Lib.hid hr; clear hr
  obtain ⟨r, hr⟩ : ∃ r, r = Instr.right op a := ⟨_, rfl⟩
  obtain ⟨h, hh⟩ : ∃ h, h = Instr.has o := ⟨_, rfl⟩
  have T : ((str (Instr.name o)).toList == (str (Instr.name o)).toList) = true := by simp
  have T2 : (pa == pa) = true := by simp
  have T3 : (pb == pb) = true := by simp
  have T4 : (Instr.right op a == Instr.right op a) = true := by simp
  have T5 : (Instr.has o == Instr.has o) = true := by simp
  go_enter Try.func7, Try.ntmps7
  go_wp2_with (first
    | (go_at_call 9; refine (lives_any (hA.alloc _)).mono ?_; rintro e w1 ⟨rfl, hA1⟩)
    | (go_at_call 16; refine (HB.out _ _ hA1).mono ?_; rintro e w2 ⟨rfl, hA2⟩)
    | (go_at_call 17; refine (HR.out _ _ hA2).mono ?_; rintro e w3 ⟨rfl, hA3⟩; have hA4 := hA3.drew; have e0 := hA4.cell 0; have e1 := hA4.cell 1))
  go_region_held3 (fun w' => At W0 w' [one w.heap.size (.cells #[.int .i64 op, .int .i64 a] 23)] ∧ w'.cell? ⟨w.heap.size, 0, none⟩ = some (.int .i64 op) ∧ w'.cell? ⟨w.heap.size, 1, none⟩ = some (.int .i64 a))
    (first | assumption | (exact ⟨by assumption, At.cell (by assumption) 0, At.cell (by assumption) 1⟩) | (exact ⟨At.drew (by assumption), At.cell (by assumption) 0, At.cell (by assumption) 1⟩))
    (first
    | (go_at_call 14; refine (right_any op a (And.left (by assumption))).mono ?_; rintro e w3 ⟨rfl, hB⟩)
    | (go_at_call 18; refine (rright_any op a (And.left (by assumption))).mono ?_; rintro e w3 ⟨rfl, hB⟩)
    | (go_at_call 15; refine (has_any _).mono ?_; rintro e w3 ⟨rfl, rfl⟩)
    | (go_at_call 19; refine (rhas_any _).mono ?_; rintro e w3 ⟨rfl, rfl⟩)
    | (go_at_call 20; refine (name_any _ (And.left (by assumption))).mono ?_; rintro e w3 ⟨rfl, hB⟩)
    | (go_at_call 21; refine (rname_any _ (And.left (by assumption))).mono ?_; rintro e w3 ⟨rfl, hB⟩))
  all_goals
    go_wp2
    go_returns
    exact ⟨rfl, HW.out ▸ hB.below⟩

set_option maxHeartbeats 2000000 in
set_option maxRecDepth 100000 in
theorem instrSize_any (op a : Int) (h1 : -9223372036854775808 ≤ op) (h2 : op ≤ 9223372036854775807) (h3 : -9223372036854775808 ≤ a) (h4 : a ≤ 9223372036854775807) (w : World) :
    Calls Try.prog 6 #[.agg #[.int .i64 op, .int .i64 a]] w fun e w' => e = .returned (.bool true) ∧ Below w.heap.size w w' := by
  obtain ⟨W0, hW⟩ : ∃ W0, W0 = w := ⟨_, rfl⟩
  have hA : At W0 w [] := hW ▸ At.start w
  have HW := Lib.hid hW; clear hW
  have hb := fun w L hA => bytes_any (w0 := W0) (w := w) (L := L) op a h3 h4 hA
  cases hr : Instr.right op a with
  | false =>
    have hbb : Instr.bytes op a = ([], 4) := by simp [Instr.bytes, hr]
    rw [hbb] at hb
    have HB := Lib.hid hb; clear hb
    have HR := Lib.hid hr; clear hr hbb
    go_enter Try.func6, Try.ntmps6
    go_wp2_with (first
      | (go_at_call 9; refine (lives_any (hA.alloc _)).mono ?_; rintro e w1 ⟨rfl, hA1⟩; have c0 := hA1.cell 0; have c1 := hA1.cell 1)
      | (go_at_call 10; refine (HB.out _ _ hA1).mono ?_; rintro e w2 ⟨rfl, hA2⟩; have d0 := hA2.cell 0; have d1 := hA2.cell 1)
      | (go_at_call 14; refine (right_any _ _ hA2).mono ?_; rw [HR.out]; rintro e w3 ⟨rfl, hA3⟩))
    go_returns
    exact ⟨rfl, HW.out ▸ hA3.below⟩
  | true =>
    obtain ⟨g0, g26⟩ := Instr.right_op hr
    cases hh : Instr.has op with
    | false =>
      have hz : a = 0 := by rw [Instr.right_zero g0 g26 hh] at hr; simpa using hr
      subst hz
      have hbb : Instr.bytes op 0 = ([UInt8.ofNat op.toNat], 0) := by simp [Instr.bytes, hr, hh]
      rw [hbb] at hb
      have hsz : (str [UInt8.ofNat op.toNat]).size = 1 := rfl
      have HB := Lib.hid hb; clear hb
      have HR := Lib.hid hr; clear hr hbb
      have HH := Lib.hid hh; clear hh
      go_enter Try.func6, Try.ntmps6
      go_wp2_with (first
        | (go_at_call 9; refine (lives_any (hA.alloc _)).mono ?_; rintro e w1 ⟨rfl, hA1⟩; have c0 := hA1.cell 0; have c1 := hA1.cell 1)
        | (go_at_call 10; refine (HB.out _ _ hA1).mono ?_; rintro e w2 ⟨rfl, hA2⟩; have d0 := hA2.cell 0; have d1 := hA2.cell 1)
        | (go_at_call 15; refine (has_any _).mono ?_; rw [HH.out]; rintro e w3 ⟨rfl, rfl⟩))
      go_returns
      exact ⟨rfl, HW.out ▸ hA2.below⟩
    | true =>
      obtain ⟨k1, k2, k3, r, k4⟩ := Instr.bytes_len op a h3 h4 hr hh
      have k5 : (Instr.bytes op a).2 = 0 := by rw [Instr.bytes, if_pos hr]
      have hc := Instr.ofNat_op g0 g26
      generalize UInt8.ofNat op.toNat = c at *
      rw [k4] at k1 k2 k3
      rw [k4, k5] at hb
      clear k4 k5
      have hix := run_index_str (c :: r) 0 0 rfl c rfl
      have hsz : (str (c :: r)).size = r.length + 1 := rfl
      simp only [List.length_cons] at k1 k2 k3
      have j1 : decide (2 ≤ ((r.length : Int) + 1)) = true := by simp; omega
      have j2 : decide (((r.length : Int) + 1) ≤ 11) = true := by simp; omega
      have HB := Lib.hid hb; clear hb
      have HR := Lib.hid hr; clear hr
      have HH := Lib.hid hh; clear hh
      have j3 : (decide (a < 0) = true ∨ (decide (a < 0) = false ∧ decide (63 < a) = true)) ∨ (decide (a < 0) = false ∧ decide (63 < a) = false ∧ (((r.length : Int) + 1) == 2) = true) := by
        by_cases q : a < 0
        · exact .inl (.inl (by simpa using q))
        · by_cases q2 : 63 < a
          · exact .inl (.inr ⟨by simpa using q, by simpa using q2⟩)
          · have := k3 (by omega) (by omega)
            exact .inr ⟨by simpa using q, by simpa using q2, by simp; omega⟩
      have K3 := Lib.hid k3; clear k3
      have hm : op % 256 = op := by omega
      have HC := Lib.hid hc
      have hw8 : IntKind.u8.wrap op = op := IntWalk.u8_in _ (by omega)
      rcases j3 with (j3 | ⟨j3, j4⟩) | ⟨j3, j4, j5⟩
      all_goals
        go_enter Try.func6, Try.ntmps6
        go_wp2_with (first
          | (go_at_call 9; refine (lives_any (hA.alloc _)).mono ?_; rintro e w1 ⟨rfl, hA1⟩; have c0 := hA1.cell 0; have c1 := hA1.cell 1)
          | (go_at_call 10; refine (HB.out _ _ hA1).mono ?_; rintro e w2 ⟨rfl, hA2⟩; have d0 := hA2.cell 0; have d1 := hA2.cell 1)
          | (go_at_call 15; refine (has_any _).mono ?_; rw [HH.out]; rintro e w3 ⟨rfl, rfl⟩))
        go_quiet (fail)
        go_wp2
        go_returns
        exact ⟨rfl, HW.out ▸ (hA2.drewN _).below⟩
end
namespace instrReads
theorem instrReads_walk (W : World) (l : List UInt8) (y : l.length ≤ 140737488351232) :
    Calls Try.prog 4 #[.string (str l)] W fun e w' => e = .returned (.bool true) ∧ Below W.heap.size W w' := instrReads_any l y W
end instrReads
namespace instrSize
theorem instrSize_walk (W : World) (l : InsD) (cs : Array Value) (hR : kInstr.R W l cs.toList) :
    Calls Try.prog 6 #[.agg cs] W fun e w' => e = .returned (.bool true) ∧ Below W.heap.size W w' := by
  obtain ⟨rfl, ⟨h1, h2⟩, h3, h4⟩ := instr_open hR
  exact instrSize_any _ _ h1 h2 h3 h4 W
end instrSize
namespace instrRight
theorem instrRight_walk (W : World) (l : InsD) (cs : Array Value) (hR : kInstr.R W l cs.toList) (o : Int) (_wo : (Lit.int .i64 o).wf = true) (s : List UInt8) (_y : s.length ≤ 140737488351232) :
    Calls Try.prog 7 #[.agg cs, .int .i64 o, .string (str s)] W fun e w' => e = .returned (.bool true) ∧ Below W.heap.size W w' := by
  obtain ⟨rfl, _, _⟩ := instr_open hR
  exact instrRight_any _ _ o s W
end instrRight
end Go.Proofs.Ythmfpmcpomjbdaa
