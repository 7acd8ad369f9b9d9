/-
  The contracts of the instructions' Read, by the program and by the reference.
-/
import Derived.Test.YthmfpmcpomjbdaaInstrB
import Derived.Deep.RegionWith
import Derived.IntWalk
namespace Go.Proofs.Ythmfpmcpomjbdaa
open Go.RowKit HP

theorem str_list (l : List UInt8) : (str l).toList = l := by rw [ByteArray.toList_eq]; simp [str]
namespace Reel
theorem rdNum_errs (l : List UInt8) : ∀ i, (rdNum i l).1 = 0 ∨ (rdNum i l).1 = 2 ∨ (rdNum i l).1 = 4 := by
  induction l with
  | nil => intro i; exact .inr (.inl rfl)
  | cons c r ih =>
    intro i
    simp only [rdNum]
    split
    · exact .inr (.inr rfl)
    · split
      · exact .inl rfl
      · split
        · exact .inl rfl
        · exact ih (i + 1)
theorem read_int_ok (r : List UInt8) (h : (rdNum 0 r).1 = 0) : (read r).int = (unfold_ (rdNum 0 r).2.1, ⟨r, (rdNum 0 r).2.2, 0⟩) := by
  simp [R.int, R.num, read, h]
theorem read_int_no (r : List UInt8) (h : (rdNum 0 r).1 ≠ 0) : (read r).int = (0, ⟨r, 0, (rdNum 0 r).1⟩) := by
  simp [R.int, R.num, read, h, unfold_]
end Reel

section
variable {w0 w : World} {L : List HP}

set_option maxHeartbeats 4000000 in
theorem read_any (t : List UInt8) (ht : t.length ≤ 140737488355328) (hA : At w0 w L) :
    Calls Try.prog 12 #[.string (str t)] w fun e w' => e = .returned (.tuple #[.agg #[.int .i64 (Instr.read t).1, .int .i64 (Instr.read t).2.1], .int .i64 (Instr.read t).2.2.1, .int .i64 (Instr.read t).2.2.2]) ∧ At w0 w' L := by
  have hstr := str_list t
  cases t with
  | nil =>
    go_enter Try.func12, Try.ntmps12
    go_wp2
    go_returns
    exact ⟨rfl, (hA.alloc _).drop⟩
  | cons c r =>
    have hrl : r.length + 1 ≤ 140737488355328 := by simpa using ht
    have hix := run_index_str (c :: r) 0 0 rfl c rfl
    have hsz : (str (c :: r)).size = r.length + 1 := rfl
    have HX := Lib.hid (show (str (c :: r)).extract 1 (r.length + 1) = str r from str_tail (c :: r) 1)
    have hc := c.toNat_lt
    have hw64 : wrap64 (c.toNat : Int) = (c.toNat : Int) := by unfold wrap64; omega
    by_cases hk : 26 < c.toNat
    · have hrd : Instr.read (c :: r) = (0, 0, 0, 9) := by rw [Instr.read, if_pos (by omega)]
      rw [hrd]
      go_enter Try.func12, Try.ntmps12
      go_wp2
      go_returns
      exact ⟨rfl, ((hA.alloc _).alloc _).drop.drop⟩
    · have hC : At w0 ((w.alloc (.cells #[.int .i64 0, .int .i64 0] 23)).alloc (.cells #[.int .i64 c.toNat, .int .i64 0] 23)) (one (w.heap.size + 1) (.cells #[.int .i64 c.toNat, .int .i64 0] 23) :: one w.heap.size (.cells #[.int .i64 0, .int .i64 0] 23) :: L) := by
        have := (hA.alloc (.cells #[.int .i64 0, .int .i64 0] 23)).alloc (.cells #[.int .i64 c.toNat, .int .i64 0] 23)
        simpa using this
      have hleq : r.length ≤ 140737488355328 := by omega
      cases hh : Instr.has c.toNat with
      | false =>
        have hrt : Instr.right c.toNat 0 = true := by
          have h1 : ¬ (c.toNat : Int) = 1 := by rintro e; rw [e] at hh; simp [Instr.has] at hh
          rw [Instr.right, if_neg (by omega), if_neg h1, if_neg (by simp [hh])]; rfl
        have hrd : Instr.read (c :: r) = ((c.toNat : Int), 0, 1, 0) := by rw [Instr.read, if_neg (by omega), if_neg (by simp [hh])]
        rw [hrd]
        have HH := Lib.hid hh
        have HR := Lib.hid hrt; clear hrt hrd hh
        go_enter Try.func12, Try.ntmps12
        go_wp2_with (first
          | (go_at_call 29; rw [HX.out]; refine (rnew_any r hC).mono ?_; rintro e w2 ⟨b, rfl, hD⟩; have d0 := hD.pick2.cell 0; have d1 := hD.pick2.cell 1)
          | (go_at_call 15; refine (has_any _).mono ?_; rw [HH.out]; rintro e w2 ⟨rfl, rfl⟩)
          | (go_at_call 14; refine (right_any _ _ hD).mono ?_; rw [HR.out]; rintro e w2 ⟨rfl, hE⟩; have e0 := hE.pick2.cell 0; have e1 := hE.pick2.cell 1))
        have g0 := hE.pick3.cell 0
        have g1 := hE.pick3.cell 1
        have f0 := hE.pick3.free 0
        have f1 := hE.pick3.free 1
        have HLF := Lib.hid (show ((Reel.read r).left : Int) = r.length from rfl)
        go_region_with (first
          | (go_at_call 32; refine (rleft_any (R := Reel.read r) (Nat.zero_le _) hleq hE.drew).mono ?_; rw [HLF.out]; rintro e w3 ⟨rfl, n, rfl⟩))
        all_goals
          have hY := (hE.pick3.drewN (1 + n)).setCell 0 (.int .i64 c.toNat)
          have hZ := hY.setCell 1 (.int .i64 0)
          have y0 : ((w2.drewN (1 + n)).setCell ⟨w.heap.size, 0, none⟩ (.int .i64 c.toNat)).cell? ⟨w.heap.size, 0, none⟩ = some (.int .i64 c.toNat) := hY.cell 0
          have y1 : (((w2.drewN (1 + n)).setCell ⟨w.heap.size, 0, none⟩ (.int .i64 c.toNat)).setCell ⟨w.heap.size, 1, none⟩ (.int .i64 0)).cell? ⟨w.heap.size, 1, none⟩ = some (.int .i64 0) := hZ.cell 1
          go_wp2
          refine bodyPost_ret (by simp [results, Try.results12, go_sem, y0, y1]; try rfl) rfl ?_
          refine ⟨?_, hZ.drop.drop.drop⟩
          rw [show (r.length : Int) + 1 - r.length = 1 by omega]
          rfl
      | true =>
        have HH := Lib.hid hh
        by_cases herr : (Reel.rdNum 0 r).1 = 0
        · obtain ⟨v, hv⟩ : ∃ v, v = Reel.unfold_ (Reel.rdNum 0 r).2.1 := ⟨_, rfl⟩
          obtain ⟨R1, hR1⟩ : ∃ R1 : Reel.R, R1 = ⟨r, (Reel.rdNum 0 r).2.2, 0⟩ := ⟨_, rfl⟩
          have HINT := Lib.hid (show (Reel.read r).int = (v, R1) by rw [Reel.read_int_ok r herr, hv, hR1])
          have hszr := Reel.rdNum_size r 0
          have hR1p : R1.pos ≤ R1.text.length := by rw [hR1]; exact hszr
          have hR1l : R1.text.length ≤ 140737488355328 := by rw [hR1]; exact hleq
          have hfin : R1.fin = 0 ∨ R1.fin = 5 := by
            rw [hR1]; simp only [Reel.R.fin, if_true]; split
            · exact .inr rfl
            · exact .inl rfl
          cases hrt : Instr.right c.toNat v with
          | false =>
            have hrd : Instr.read (c :: r) = (0, 0, 0, 4) := by
              rw [Instr.read, if_neg (by omega), if_pos hh, if_pos herr, ← hv, if_neg (by simp [hrt])]
            rw [hrd]
            have HRT := Lib.hid hrt
            clear hrt hrd hh herr hR1 hv hszr
            rcases hfin with hfin | hfin
            all_goals
              have HFIN := Lib.hid hfin; clear hfin
              go_enter Try.func12, Try.ntmps12
              go_wp2_with (first
                | (go_at_call 29; rw [HX.out]; refine (rnew_any r hC).mono ?_; rintro e w2 ⟨b, rfl, hD⟩; have d0 := hD.pick2.cell 0; have d1 := hD.pick2.cell 1)
                | (go_at_call 15; refine (has_any _).mono ?_; rw [HH.out]; rintro e w2 ⟨rfl, rfl⟩)
                | (go_at_call 30; refine (rint_any (R := Reel.read r) (Nat.zero_le _) hleq hD).mono ?_; rw [HINT.out]; rintro e w3 ⟨rfl, hE⟩; have f1 := hE.pick2.free 1; have z1 := hE.pick2.cell 1; have g0 := hE.pick3.cell 0; have g1 := hE.pick3.cell 1; have k0 := hE.pick3.free 0; have k1 := hE.pick3.free 1; have hF := hE.pick2.setCell 1 (.int .i64 v); have d0 := hF.cell 0; have d1 := hF.cell 1)
                | (go_at_call 31; refine (rend_any (R := R1) hR1p hR1l hF.pick2).mono ?_; rw [HFIN.out]; rintro e w4 ⟨rfl, n, rfl⟩)
                | (go_at_call 14; refine (right_any _ _ (hF.drewN _)).mono ?_; rw [HRT.out]; rintro e w5 ⟨rfl, hG⟩; have g0 := hG.pick3.cell 0; have g1 := hG.pick3.cell 1; have k0 := hG.pick3.free 0; have k1 := hG.pick3.free 1))
              have hY := hG.pick3.setCell 0 (.int .i64 0)
              have hZ := hY.setCell 1 (.int .i64 0)
              have y0 : (w5.setCell ⟨w.heap.size, 0, none⟩ (.int .i64 0)).cell? ⟨w.heap.size, 0, none⟩ = some (.int .i64 0) := hY.cell 0
              have y1 : ((w5.setCell ⟨w.heap.size, 0, none⟩ (.int .i64 0)).setCell ⟨w.heap.size, 1, none⟩ (.int .i64 0)).cell? ⟨w.heap.size, 1, none⟩ = some (.int .i64 0) := hZ.cell 1
              refine bodyPost_ret (by simp [results, Try.results12, go_sem, y0, y1]; try rfl) rfl ?_
              exact ⟨rfl, hZ.drop.drop.drop⟩
          | true =>
            have hrd : Instr.read (c :: r) = ((c.toNat : Int), v, 1 + ((Reel.rdNum 0 r).2.2 : Int), 0) := by
              rw [Instr.read, if_neg (by omega), if_pos hh, if_pos herr, ← hv, if_pos hrt]
            rw [hrd]
            have hlf : (R1.left : Int) = r.length - (Reel.rdNum 0 r).2.2 := by rw [hR1]; simp only [Reel.R.left]; omega
            generalize (Reel.rdNum 0 r).2.2 = sz at hlf hszr
            have HLF := Lib.hid hlf
            have HRT := Lib.hid hrt
            clear hrt hrd hh herr hR1 hv hlf
            rcases hfin with hfin | hfin
            all_goals
              have HFIN := Lib.hid hfin; clear hfin
              go_enter Try.func12, Try.ntmps12
              go_wp2_with (first
                | (go_at_call 29; rw [HX.out]; refine (rnew_any r hC).mono ?_; rintro e w2 ⟨b, rfl, hD⟩; have d0 := hD.pick2.cell 0; have d1 := hD.pick2.cell 1)
                | (go_at_call 15; refine (has_any _).mono ?_; rw [HH.out]; rintro e w2 ⟨rfl, rfl⟩)
                | (go_at_call 30; refine (rint_any (R := Reel.read r) (Nat.zero_le _) hleq hD).mono ?_; rw [HINT.out]; rintro e w3 ⟨rfl, hE⟩; have f1 := hE.pick2.free 1; have z1 := hE.pick2.cell 1; have g0 := hE.pick3.cell 0; have g1 := hE.pick3.cell 1; have k0 := hE.pick3.free 0; have k1 := hE.pick3.free 1; have hF := hE.pick2.setCell 1 (.int .i64 v); have d0 := hF.cell 0; have d1 := hF.cell 1)
                | (go_at_call 31; refine (rend_any (R := R1) hR1p hR1l hF.pick2).mono ?_; rw [HFIN.out]; rintro e w4 ⟨rfl, n, rfl⟩)
                | (go_at_call 14; refine (right_any _ _ (hF.drewN _)).mono ?_; rw [HRT.out]; rintro e w5 ⟨rfl, hG⟩; have e0 := hG.cell 0; have e1 := hG.cell 1))
              have g0 := hG.pick3.cell 0
              have g1 := hG.pick3.cell 1
              have f0 := hG.pick3.free 0
              have f1 := hG.pick3.free 1
              have hGG := hG.pick2.drew
              go_region_with (first
                | (go_at_call 32; refine (rleft_any (R := R1) hR1p hR1l hGG).mono ?_; rw [HLF.out]; rintro e w3 ⟨rfl, n, rfl⟩))
              all_goals
                have hY := (hG.pick3.drewN (1 + n)).setCell 0 (.int .i64 c.toNat)
                have hZ := hY.setCell 1 (.int .i64 v)
                have y0 : ((w5.drewN (1 + n)).setCell ⟨w.heap.size, 0, none⟩ (.int .i64 c.toNat)).cell? ⟨w.heap.size, 0, none⟩ = some (.int .i64 c.toNat) := hY.cell 0
                have y1 : (((w5.drewN (1 + n)).setCell ⟨w.heap.size, 0, none⟩ (.int .i64 c.toNat)).setCell ⟨w.heap.size, 1, none⟩ (.int .i64 v)).cell? ⟨w.heap.size, 1, none⟩ = some (.int .i64 v) := hZ.cell 1
                go_wp2
                refine bodyPost_ret (by simp [results, Try.results12, go_sem, y0, y1]; try rfl) rfl ?_
                refine ⟨?_, hZ.drop.drop.drop⟩
                rw [show (r.length : Int) + 1 - (r.length - sz) = 1 + (sz : Int) by omega]
                rw [IntWalk.i64_in _ (by omega)]
        · have herrs := Reel.rdNum_errs r 0
          have hrd : Instr.read (c :: r) = (0, 0, 0, (Reel.rdNum 0 r).1) := by
            rw [Instr.read, if_neg (by omega), if_pos hh, if_neg herr]
          rw [hrd]
          obtain ⟨v, hv⟩ : ∃ v : Int, v = 0 := ⟨_, rfl⟩
          obtain ⟨R1, hR1⟩ : ∃ R1 : Reel.R, R1 = ⟨r, 0, (Reel.rdNum 0 r).1⟩ := ⟨_, rfl⟩
          have HINT := Lib.hid (show (Reel.read r).int = (v, R1) by rw [Reel.read_int_no r herr, hv, hR1])
          have hR1p : R1.pos ≤ R1.text.length := by rw [hR1]; exact Nat.zero_le _
          have hR1l : R1.text.length ≤ 140737488355328 := by rw [hR1]; exact hleq
          have hfin : R1.fin = (Reel.rdNum 0 r).1 := by rw [hR1]; simp [Reel.R.fin, herr]
          have herrs : (Reel.rdNum 0 r).1 = 2 ∨ (Reel.rdNum 0 r).1 = 4 := by omega
          clear hR1 hv
          generalize (Reel.rdNum 0 r).1 = er at *
          rcases herrs with rfl | rfl
          all_goals
            have HFIN := Lib.hid hfin; clear hfin
            go_enter Try.func12, Try.ntmps12
            go_wp2_with (first
              | (go_at_call 29; rw [HX.out]; refine (rnew_any r hC).mono ?_; rintro e w2 ⟨b, rfl, hD⟩; have d0 := hD.pick2.cell 0; have d1 := hD.pick2.cell 1)
              | (go_at_call 15; refine (has_any _).mono ?_; rw [HH.out]; rintro e w2 ⟨rfl, rfl⟩)
              | (go_at_call 30; refine (rint_any (R := Reel.read r) (Nat.zero_le _) hleq hD).mono ?_; rw [HINT.out]; rintro e w3 ⟨rfl, hE⟩; have f1 := hE.pick2.free 1; have z1 := hE.pick2.cell 1; have g0 := hE.pick3.cell 0; have g1 := hE.pick3.cell 1; have k0 := hE.pick3.free 0; have k1 := hE.pick3.free 1; have hF := hE.pick2.setCell 1 (.int .i64 v); have d0 := hF.cell 0; have d1 := hF.cell 1)
              | (go_at_call 31; refine (rend_any (R := R1) hR1p hR1l hF.pick2).mono ?_; rw [HFIN.out]; rintro e w4 ⟨rfl, n, rfl⟩))
            have hY := (hF.drewN n).pick3.setCell 0 (.int .i64 0)
            have hZ := hY.setCell 1 (.int .i64 0)
            have y0 : (((w3.setCell ⟨w.heap.size + 1, 1, none⟩ (.int .i64 v)).drewN n).setCell ⟨w.heap.size, 0, none⟩ (.int .i64 0)).cell? ⟨w.heap.size, 0, none⟩ = some (.int .i64 0) := hY.cell 0
            have y1 : ((((w3.setCell ⟨w.heap.size + 1, 1, none⟩ (.int .i64 v)).drewN n).setCell ⟨w.heap.size, 0, none⟩ (.int .i64 0)).setCell ⟨w.heap.size, 1, none⟩ (.int .i64 0)).cell? ⟨w.heap.size, 1, none⟩ = some (.int .i64 0) := hZ.cell 1
            refine bodyPost_ret (by simp [results, Try.results12, go_sem, y0, y1]; try rfl) rfl ?_
            exact ⟨rfl, hZ.drop.drop.drop⟩
end
end Go.Proofs.Ythmfpmcpomjbdaa
