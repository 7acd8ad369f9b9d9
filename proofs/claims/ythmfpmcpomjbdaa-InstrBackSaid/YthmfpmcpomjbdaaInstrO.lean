/-
  The laws InstrNames, InstrBack.
-/
import Derived.Test.YthmfpmcpomjbdaaInstrM
namespace Go.Proofs.Ythmfpmcpomjbdaa
open Go.RowKit HP

section
variable {w0 w : World} {L : List HP}

set_option maxHeartbeats 2000000 in
set_option maxRecDepth 100000 in
theorem instrNames_any (a b : Int) (s : List UInt8) (w : World) :
    Calls Try.prog 8 #[.int .i64 a, .int .i64 b, .string (str s)] w fun e w' => e = .returned (.bool true) ∧ Below w.heap.size w w' := by
  obtain ⟨W0, hW⟩ : ∃ W0, W0 = w := ⟨_, rfl⟩
  have hA : At W0 w [] := hW ▸ At.start w
  have HW := Lib.hid hW; clear hW
  have hna := fun w L hA => name_any (w0 := W0) (w := w) (L := L) a hA
  have hnb := fun w L hA => name_any (w0 := W0) (w := w) (L := L) b hA
  have hp := fun w L hA => parse_any (w0 := W0) (w := w) (L := L) s hA
  have hpx := fun w L hA => parse_any (w0 := W0) (w := w) (L := L) (Instr.name a) hA
  have hnp := fun w L hA => name_any (w0 := W0) (w := w) (L := L) (Instr.parse s).1 hA
  have hps := Instr.parse_ok s
  by_cases ha : Instr.name a = []
  · have ho : a < 0 ∨ 26 < a := by
      apply Classical.byContradiction; intro hc
      exact (Instr.name_in (op := a) (by omega) (by omega)).2 ha
    rw [ha] at hna
    clear hpx
    generalize Instr.name b = y at *
    generalize Instr.parse s = p at *
    obtain ⟨k, q⟩ := p
    simp only at hp hnp hps
    have HNA := Lib.hid hna
    have HNB := Lib.hid hnb
    have HP_ := Lib.hid hp
    have HNP := Lib.hid hnp
    have HA_ := Lib.hid ha
    clear hna hnb hp hnp ha
    have T0 : (str []).toList = [] := str_toList _
    have ho' : decide (a < 0) = true ∨ (decide (a < 0) = false ∧ decide (26 < a) = true) := by
      simp only [decide_eq_true_eq, decide_eq_false_iff_not]; omega
    clear ho
    rcases hps with ⟨rfl, rfl⟩ | ⟨rfl, hk, _, _⟩
    · rcases ho' with ho | ⟨ho, ho2⟩
      all_goals
        go_enter Try.func8, Try.ntmps8
        go_wp2_with (first
          | (go_at_call 9; refine (lives_any hA).mono ?_; rintro e w1 ⟨rfl, hA1⟩)
          | (go_at_call_of 20 a; refine (HNA.out _ _ hA1).mono ?_; rintro e w2 ⟨rfl, hA2⟩)
          | (go_at_call_of 20 b; refine (HNB.out _ _ hA2).mono ?_; rintro e w3 ⟨rfl, hA3⟩)
          | (go_at_call 16; refine (HP_.out _ _ hA3).mono ?_; rintro e w4 ⟨rfl, hA4⟩))
        go_returns
        exact ⟨rfl, HW.out ▸ hA4.below⟩
    · have hnp := HNP.out
      rw [hk] at hnp
      have HNP := Lib.hid hnp; clear hnp hk
      have T1 : ((str s).toList == (str s).toList) = true := by simp
      rcases ho' with ho | ⟨ho, ho2⟩
      all_goals
        go_enter Try.func8, Try.ntmps8
        go_wp2_with (first
          | (go_at_call 9; refine (lives_any hA).mono ?_; rintro e w1 ⟨rfl, hA1⟩)
          | (go_at_call_of 20 a; refine (HNA.out _ _ hA1).mono ?_; rintro e w2 ⟨rfl, hA2⟩)
          | (go_at_call_of 20 b; refine (HNB.out _ _ hA2).mono ?_; rintro e w3 ⟨rfl, hA3⟩)
          | (go_at_call 16; refine (HP_.out _ _ hA3).mono ?_; rintro e w4 ⟨rfl, hA4⟩)
          | (go_at_call_of 20 k; refine (HNP.out _ _ hA4).mono ?_; rintro e w6 ⟨rfl, hA6⟩))
        go_returns
        exact ⟨rfl, HW.out ▸ hA6.below⟩
  · have hin : 0 ≤ a ∧ a ≤ 26 := by
      refine ⟨?_, ?_⟩ <;> (apply Classical.byContradiction; intro hc; exact ha (Instr.name_out (by omega)))
    have hinj := fun e => Instr.name_inj (a := a) (b := b) ha e
    have hpa := Instr.parse_name ha
    rw [hpa] at hpx
    clear hpa
    generalize Instr.name a = x at *
    generalize Instr.name b = y at *
    generalize Instr.parse s = p at *
    obtain ⟨k, q⟩ := p
    simp only at hp hnp hps hpx
    have HNA := Lib.hid hna
    have HNB := Lib.hid hnb
    have HP_ := Lib.hid hp
    have HPX := Lib.hid hpx
    clear hna hnb hp hpx
    have T0 : (str x).toList.isEmpty = false := by rw [str_toList]; cases x <;> simp_all
    have T00 : (!(str x).toList.isEmpty) = true := by rw [T0]; rfl
    have T01 : ((str x).toList == []) = false := by rw [str_toList]; cases x <;> simp_all
    have T02 : ¬ (str x).toList = [] := by rw [str_toList]; exact ha
    have HA_ := Lib.hid ha
    clear ha
    have o1 : decide (a < 0) = false := by simp; omega
    have o2 : decide (26 < a) = false := by simp; omega
    have ho : ((str x).toList == (str y).toList) = false ∨ (((str x).toList == (str y).toList) = true ∧ (a != b) = false) := by
      rw [str_toList, str_toList]
      by_cases e : x = y
      · exact .inr ⟨by simp [e], by simp [hinj e]⟩
      · exact .inl (by simp [e])
    clear hinj
    rcases hps with ⟨rfl, rfl⟩ | ⟨rfl, hk, _, _⟩
    · clear hnp
      rcases ho with ho | ⟨ho, ho2⟩
      all_goals
        go_enter Try.func8, Try.ntmps8
        go_wp2_with (first
          | (go_at_call 9; refine (lives_any hA).mono ?_; rintro e w1 ⟨rfl, hA1⟩)
          | (go_at_call_of 20 a; refine (HNA.out _ _ hA1).mono ?_; rintro e w2 ⟨rfl, hA2⟩)
          | (go_at_call_of 20 b; refine (HNB.out _ _ hA2).mono ?_; rintro e w3 ⟨rfl, hA3⟩)
          | (go_at_call_of 16 (str x); refine (HPX.out _ _ hA3).mono ?_; rintro e w4 ⟨rfl, hA4⟩)
          | (go_at_call_of 16 (str s); refine (HP_.out _ _ hA4).mono ?_; rintro e w5 ⟨rfl, hA5⟩))
        go_returns
        exact ⟨rfl, HW.out ▸ hA5.below⟩
    · rw [hk] at hnp
      have HNP := Lib.hid hnp; clear hnp hk
      have T1 : ((str s).toList == (str s).toList) = true := by simp
      rcases ho with ho | ⟨ho, ho2⟩
      all_goals
        go_enter Try.func8, Try.ntmps8
        go_wp2_with (first
          | (go_at_call 9; refine (lives_any hA).mono ?_; rintro e w1 ⟨rfl, hA1⟩)
          | (go_at_call_of 20 a; refine (HNA.out _ _ hA1).mono ?_; rintro e w2 ⟨rfl, hA2⟩)
          | (go_at_call_of 20 b; refine (HNB.out _ _ hA2).mono ?_; rintro e w3 ⟨rfl, hA3⟩)
          | (go_at_call_of 16 (str x); refine (HPX.out _ _ hA3).mono ?_; rintro e w4 ⟨rfl, hA4⟩)
          | (go_at_call_of 16 (str s); refine (HP_.out _ _ hA4).mono ?_; rintro e w5 ⟨rfl, hA5⟩)
          | (go_at_call_of 20 k; refine (HNP.out _ _ hA5).mono ?_; rintro e w6 ⟨rfl, hA6⟩))
        go_returns
        exact ⟨rfl, HW.out ▸ hA6.below⟩

theorem str_append (a b : List UInt8) : str a ++ str b = str (a ++ b) := by
  apply ByteArray.ext; simp [str]
theorem str_take (l : List UInt8) (n : Nat) : (str l).extract 0 n = str (l.take n) := by
  have := str_extract l 0 n
  simpa using this

set_option maxHeartbeats 4000000 in
set_option maxRecDepth 100000 in
theorem instrBack_any (op a : Int) (h1 : -9223372036854775808 ≤ op) (h2 : op ≤ 9223372036854775807) (h3 : -9223372036854775808 ≤ a) (h4 : a ≤ 9223372036854775807) (bh t : List UInt8) (hbh : bh.length ≤ 140737488351232) (ht : t.length ≤ 140737488351232) (w : World) :
    Calls Try.prog 5 #[.agg #[.int .i64 op, .int .i64 a], .string (str bh), .string (str t)] w fun e w' => e = .returned (.bool true) ∧ Below w.heap.size w w' := by
  obtain ⟨W0, hW⟩ : ∃ W0, W0 = w := ⟨_, rfl⟩
  have hA : At W0 w [] := hW ▸ At.start w
  have HW := Lib.hid hW; clear hW
  have hb := fun w L hA => bytes_any (w0 := W0) (w := w) (L := L) op a h3 h4 hA
  have hrt := fun w L hA => read_any (w0 := W0) (w := w) (L := L) t (by omega) hA
  have hno := Instr.read_no t
  have hok := Instr.read_ok t
  have hszt : (str t).size = t.length := rfl
  have HTK := Lib.hid (str_take t)
  generalize Instr.read t = q at *
  obtain ⟨jo, ja, n, f⟩ := q
  simp only at hrt hno hok
  have HRT := Lib.hid hrt; clear hrt
  have hT : (f = 0 ∧ ∃ k : Nat, n = k ∧ k ≤ t.length ∧ -9223372036854775808 ≤ ja ∧ ja ≤ 9223372036854775807 ∧ Instr.bytes jo ja = (t.take k, 0)) ∨ ((f != 0) = true ∧ jo = 0 ∧ ja = 0 ∧ n = 0) := by
    by_cases hf : f = 0
    · obtain ⟨_, g1, g2, g3, _, _, g4, g5⟩ := hok hf
      exact .inl ⟨hf, n.toNat, by omega, by omega, g4, g5, g1⟩
    · obtain ⟨g1, g2, g3⟩ := hno hf
      exact .inr ⟨by simp [hf], g1, g2, g3⟩
  clear hno hok
  cases hr : Instr.right op a with
  | false =>
    have hbb : Instr.bytes op a = ([], 4) := by simp [Instr.bytes, hr]
    rw [hbb] at hb
    have HB := Lib.hid hb; clear hb
    have HR := Lib.hid hr; clear hr hbb
    rcases hT with ⟨rfl, k, rfl, hk, g1, g2, hbt⟩ | ⟨hf, rfl, rfl, rfl⟩
    · have hbt2 := fun w L hA => bytes_any (w0 := W0) (w := w) (L := L) jo ja g1 g2 hA
      rw [hbt] at hbt2
      have HBT := Lib.hid hbt2; clear hbt hbt2
      have HTK2 := Lib.hid (HTK.out k)
      have TT : ((str (t.take k)).toList == ((str t).extract 0 k).toList) = true := by rw [HTK2.out]; simp
      go_enter Try.func5, Try.ntmps5
      go_wp2_with (first
        | (go_at_call 9; refine (lives_any (hA.alloc _)).mono ?_; rintro e w1 ⟨rfl, hA1⟩; have c0 := hA1.cell 0; have c1 := hA1.cell 1)
        | (go_at_call_of 10 (Value.int .i64 op); refine (HB.out _ _ hA1).mono ?_; rintro e w2 ⟨rfl, hA2⟩; have hA2' := hA2.drew; have d0 := hA2.cell 0; have d1 := hA2.cell 1)
        | (go_at_call 14; refine (right_any _ _ hA2).mono ?_; rw [HR.out]; rintro e w3 ⟨rfl, hA3⟩; have e0 := hA3.cell 0; have e1 := hA3.cell 1)
        | (go_at_call_of 12 (str t); refine (HRT.out _ _ hA3).mono ?_; rintro e w6 ⟨rfl, hE⟩; have hF := hE.alloc (.cells #[.int .i64 jo, .int .i64 ja] 23); have z0 := hF.cell 0; have z1 := hF.cell 1)
        | (go_at_call 10; refine (HBT.out _ _ hF).mono ?_; rintro e w7 ⟨rfl, hG⟩))
      go_returns
      exact ⟨rfl, HW.out ▸ hG.below⟩
    · go_enter Try.func5, Try.ntmps5
      go_wp2_with (first
        | (go_at_call 9; refine (lives_any (hA.alloc _)).mono ?_; rintro e w1 ⟨rfl, hA1⟩; have c0 := hA1.cell 0; have c1 := hA1.cell 1)
        | (go_at_call 10; refine (HB.out _ _ hA1).mono ?_; rintro e w2 ⟨rfl, hA2⟩; have hA2' := hA2.drew; have d0 := hA2.cell 0; have d1 := hA2.cell 1)
        | (go_at_call 14; refine (right_any _ _ hA2).mono ?_; rw [HR.out]; rintro e w3 ⟨rfl, hA3⟩; have e0 := hA3.cell 0; have e1 := hA3.cell 1)
        | (go_at_call_of 12 (str t); refine (HRT.out _ _ hA3).mono ?_; rintro e w6 ⟨rfl, hE⟩; have hF := hE.alloc (.cells #[.int .i64 0, .int .i64 0] 23); have z0 := hF.cell 0; have z1 := hF.cell 1))
      go_returns
      exact ⟨rfl, HW.out ▸ hF.below⟩
  | true =>
    have hb2 : (Instr.bytes op a).2 = 0 := by rw [Instr.bytes, if_pos hr]
    have hr1 := fun w L hA => read_any (w0 := W0) (w := w) (L := L) ((Instr.bytes op a).1 ++ bh) (by
      have hl : (Instr.bytes op a).1.length ≤ 11 := by
        cases hh : Instr.has op with
        | true => exact (Instr.bytes_len op a h3 h4 hr hh).2.1
        | false => rw [Instr.bytes, if_pos hr, hh]; simp
      simp; omega) hA
    rw [Instr.read_bytes op a h3 h4 hr bh] at hr1
    have hr2 := fun w L hA => read_any (w0 := W0) (w := w) (L := L) (Instr.bytes op a).1.dropLast (by
      have hl : (Instr.bytes op a).1.length ≤ 11 := by
        cases hh : Instr.has op with
        | true => exact (Instr.bytes_len op a h3 h4 hr hh).2.1
        | false => rw [Instr.bytes, if_pos hr, hh]; simp
      simp; omega) hA
    rw [Instr.read_short op a h3 h4 hr] at hr2
    have hl0 : (Instr.bytes op a).1.length ≠ 0 := by
      rw [Instr.bytes, if_pos hr]; simp
    have hl11 : (Instr.bytes op a).1.length ≤ 11 := by
      cases hh : Instr.has op with
      | true => exact (Instr.bytes_len op a h3 h4 hr hh).2.1
      | false => rw [Instr.bytes, if_pos hr, hh]; simp
    rw [show Instr.bytes op a = ((Instr.bytes op a).1, 0) from Prod.ext rfl hb2] at hb
    clear hb2
    generalize (Instr.bytes op a).1 = t0 at *
    simp only at hb
    obtain ⟨m, hm⟩ : ∃ m, t0.length = m + 1 := ⟨t0.length - 1, by omega⟩
    have hdl : t0.dropLast = t0.take m := by rw [List.dropLast_eq_take, hm]; rfl
    rw [hdl] at hr2
    clear hdl hl0
    rw [hm] at hr1 hl11
    have hsz0 : (str t0).size = m + 1 := hm
    have hszb : (str bh).size = bh.length := rfl
    have hsum : ¬ 9223372036854775807 < m + 1 + bh.length := by omega
    have HM := Lib.hid hm; clear hm
    have HCAT := Lib.hid (str_append t0 bh)
    have HTK0 := Lib.hid (str_take t0 m)
    have HB := Lib.hid hb; clear hb
    have HR1 := Lib.hid hr1; clear hr1
    have HR2 := Lib.hid hr2; clear hr2
    have HR := Lib.hid hr; clear hr
    rcases hT with ⟨rfl, k, rfl, hk, g1, g2, hbt⟩ | ⟨hf, rfl, rfl, rfl⟩
    · have hbt2 := fun w L hA => bytes_any (w0 := W0) (w := w) (L := L) jo ja g1 g2 hA
      rw [hbt] at hbt2
      have HBT := Lib.hid hbt2; clear hbt hbt2
      have HTK2 := Lib.hid (HTK.out k)
      have TT : ((str (t.take k)).toList == ((str t).extract 0 k).toList) = true := by rw [HTK2.out]; simp
      go_enter Try.func5, Try.ntmps5
      go_wp2_with (first
        | (go_at_call 9; refine (lives_any (hA.alloc _)).mono ?_; rintro e w1 ⟨rfl, hA1⟩; have c0 := hA1.cell 0; have c1 := hA1.cell 1)
        | (go_at_call_of 10 (Value.int .i64 op); refine (HB.out _ _ hA1).mono ?_; rintro e w2 ⟨rfl, hA2⟩; have hA2' := hA2.drew; have d0 := hA2.cell 0; have d1 := hA2.cell 1)
        | (go_at_call 14; refine (right_any _ _ hA2).mono ?_; rw [HR.out]; rintro e w3 ⟨rfl, hA3⟩; have e0 := hA3.cell 0; have e1 := hA3.cell 1)
        | (go_at_call_of 12 (str bh); rw [HCAT.out]; refine (HR1.out _ _ hA3).mono ?_; rintro e w4 ⟨rfl, hA4⟩; have hB := hA4.alloc (.cells #[.int .i64 op, .int .i64 a] 23))
        | (go_at_call_of 12 (str t); refine (HRT.out _ _ hD).mono ?_; rintro e w6 ⟨rfl, hE⟩; have hF := hE.alloc (.cells #[.int .i64 jo, .int .i64 ja] 23); have z0 := hF.cell 0; have z1 := hF.cell 1)
        | (go_at_call_of 12 (str t0); rw [HTK0.out]; refine (HR2.out _ _ hB).mono ?_; rintro e w5 ⟨rfl, hC⟩; have hD := hC.alloc (.cells #[.int .i64 0, .int .i64 0] 23); have j0 := hD.pick2.cell 0; have j1 := hD.pick2.cell 1; have i0 := hD.pick3.cell 0; have i1 := hD.pick3.cell 1)
        | (go_at_call_of 10 (Value.int .i64 jo); refine (HBT.out _ _ hF).mono ?_; rintro e w7 ⟨rfl, hG⟩))
      go_returns
      exact ⟨rfl, HW.out ▸ hG.below⟩
    · go_enter Try.func5, Try.ntmps5
      go_wp2_with (first
        | (go_at_call 9; refine (lives_any (hA.alloc _)).mono ?_; rintro e w1 ⟨rfl, hA1⟩; have c0 := hA1.cell 0; have c1 := hA1.cell 1)
        | (go_at_call 10; refine (HB.out _ _ hA1).mono ?_; rintro e w2 ⟨rfl, hA2⟩; have hA2' := hA2.drew; have d0 := hA2.cell 0; have d1 := hA2.cell 1)
        | (go_at_call 14; refine (right_any _ _ hA2).mono ?_; rw [HR.out]; rintro e w3 ⟨rfl, hA3⟩; have e0 := hA3.cell 0; have e1 := hA3.cell 1)
        | (go_at_call_of 12 (str bh); rw [HCAT.out]; refine (HR1.out _ _ hA3).mono ?_; rintro e w4 ⟨rfl, hA4⟩; have hB := hA4.alloc (.cells #[.int .i64 op, .int .i64 a] 23))
        | (go_at_call_of 12 (str t); refine (HRT.out _ _ hD).mono ?_; rintro e w6 ⟨rfl, hE⟩; have hF := hE.alloc (.cells #[.int .i64 0, .int .i64 0] 23); have z0 := hF.cell 0; have z1 := hF.cell 1)
        | (go_at_call_of 12 (str t0); rw [HTK0.out]; refine (HR2.out _ _ hB).mono ?_; rintro e w5 ⟨rfl, hC⟩; have hD := hC.alloc (.cells #[.int .i64 0, .int .i64 0] 23); have j0 := hD.pick2.cell 0; have j1 := hD.pick2.cell 1; have i0 := hD.pick3.cell 0; have i1 := hD.pick3.cell 1))
      go_returns
      exact ⟨rfl, HW.out ▸ hF.below⟩
end
namespace instrNames
theorem instrNames_walk (W : World) (a : Int) (_wa : (Lit.int .i64 a).wf = true) (b : Int) (_wb : (Lit.int .i64 b).wf = true) (s : List UInt8) (_y : s.length ≤ 140737488351232) :
    Calls Try.prog 8 #[.int .i64 a, .int .i64 b, .string (str s)] W fun e w' => e = .returned (.bool true) ∧ Below W.heap.size W w' := instrNames_any a b s W
end instrNames
namespace instrBack
theorem instrBack_walk (W : World) (l : InsD) (cs : Array Value) (hR : kInstr.R W l cs.toList) (s : List UInt8) (y : s.length ≤ 140737488351232) (t : List UInt8) (z : t.length ≤ 140737488351232) :
    Calls Try.prog 5 #[.agg cs, .string (str s), .string (str t)] W fun e w' => e = .returned (.bool true) ∧ Below W.heap.size W w' := by
  obtain ⟨rfl, ⟨h1, h2⟩, h3, h4⟩ := instr_open hR
  exact instrBack_any _ _ h1 h2 h3 h4 s t y z W
end instrBack
end Go.Proofs.Ythmfpmcpomjbdaa
