/-
  The contract of the reference's Read of an instruction.
-/
import Derived.Test.YtebolbjbfnolpabInstrC
namespace Go.Proofs.Ytebolbjbfnolpab
open Go.RowKit HP

namespace Reel
theorem byte_cons (c : UInt8) (r : List UInt8) : (read (c :: r)).byte = ((c.toNat : Int), ⟨c :: r, 1, 0⟩) := rfl
theorem byte_nil : (read []).byte = (0, ⟨[], 0, 2⟩) := rfl
theorem at1_int_ok (c : UInt8) (r : List UInt8) (h : (rdNum 0 r).1 = 0) : (⟨c :: r, 1, 0⟩ : R).int = (unfold_ (rdNum 0 r).2.1, ⟨c :: r, 1 + (rdNum 0 r).2.2, 0⟩) := by
  simp [R.int, R.num, h]
theorem at1_int_no (c : UInt8) (r : List UInt8) (h : (rdNum 0 r).1 ≠ 0) : (⟨c :: r, 1, 0⟩ : R).int = (0, ⟨c :: r, 1, (rdNum 0 r).1⟩) := by
  simp [R.int, R.num, h, unfold_]
end Reel

section
variable {w0 w : World} {L : List HP}

set_option maxHeartbeats 4000000 in
theorem rread_any (t : List UInt8) (ht : t.length ≤ 140737488355328) (hA : At w0 w L) :
    Calls Try.prog 48 #[.string (str t)] w fun e w' => e = .returned (.tuple #[.agg #[.int .i64 (Instr.read t).1, .int .i64 (Instr.read t).2.1], .int .i64 (Instr.read t).2.2.1, .int .i64 (Instr.read t).2.2.2]) ∧ At w0 w' L := by
  have hA0 : At w0 ((w.alloc (.cells #[.int .i64 0, .int .i64 0] 32)).alloc (.cells #[.string (str t), .int .i64 0] 53)) (RReaderC (w.heap.size + 1) (Reel.read t) :: one w.heap.size (.cells #[.int .i64 0, .int .i64 0] 32) :: L) := by
    have := (hA.alloc (.cells #[.int .i64 0, .int .i64 0] 32)).alloc (.cells #[.string (str t), .int .i64 0] 53)
    rw [World.size_alloc] at this
    exact this
  cases t with
  | nil =>
    have HB := Lib.hid Reel.byte_nil
    go_enter Try.func48, Try.ntmps48
    go_wp2_with (first
      | (go_at_call 17; refine (rrbyte_any hA0).mono ?_; rw [HB.out]; rintro e w1 ⟨rfl, hB⟩; have hC := hB.alloc (.cells #[.int .i64 0, .int .i64 0] 32); have b0 := hC.pick2.cell 0; have b1 := hC.pick2.cell 1; have g0 := hC.pick3.cell 0; have g1 := hC.pick3.cell 1; have k0 := hC.pick3.free 0; have k1 := hC.pick3.free 1; have i0 := hC.cell 0; have i1 := hC.cell 1; have j1 := hC.free 1))
    go_region_with (fail)
    all_goals
      have hY := hC.pick3.setCell 0 (.int .i64 0)
      have hZ := hY.setCell 1 (.int .i64 0)
      have y0 : ((w1.alloc (.cells #[.int .i64 0, .int .i64 0] 32)).setCell ⟨w.heap.size, 0, none⟩ (.int .i64 0)).cell? ⟨w.heap.size, 0, none⟩ = some (.int .i64 0) := hY.cell 0
      have y1 : (((w1.alloc (.cells #[.int .i64 0, .int .i64 0] 32)).setCell ⟨w.heap.size, 0, none⟩ (.int .i64 0)).setCell ⟨w.heap.size, 1, none⟩ (.int .i64 0)).cell? ⟨w.heap.size, 1, none⟩ = some (.int .i64 0) := hZ.cell 1
      go_wp2
      refine bodyPost_ret (by simp [results, Try.results48, go_sem, y0, y1]; try rfl) rfl ?_
      exact ⟨rfl, hZ.drew.drop.drop.drop⟩
  | cons c r =>
    have HB := Lib.hid (Reel.byte_cons c r)
    have hrl : r.length + 1 ≤ 140737488355328 := by simpa using ht
    have hc := c.toNat_lt
    have hsz : (str (c :: r)).size = r.length + 1 := rfl
    have hl1 : (⟨c :: r, 1, 0⟩ : Reel.R).text.length ≤ 140737488355328 := ht
    by_cases hk : 26 < c.toNat
    · have hrd : Instr.read (c :: r) = (0, 0, 0, 9) := by rw [Instr.read, if_pos (by omega)]
      rw [hrd]
      have HI := Lib.hid (show (decide (0 ≤ (c.toNat : Int)) && decide ((c.toNat : Int) ≤ 26)) = false by simp; omega)
      go_enter Try.func48, Try.ntmps48
      go_wp2_with (first
        | (go_at_call 17; refine (rrbyte_any hA0).mono ?_; rw [HB.out]; rintro e w1 ⟨rfl, hB⟩; have hC := hB.alloc (.cells #[.int .i64 c.toNat, .int .i64 0] 32); have b0 := hC.pick2.cell 0; have b1 := hC.pick2.cell 1; have g0 := hC.pick3.cell 0; have g1 := hC.pick3.cell 1; have k0 := hC.pick3.free 0; have k1 := hC.pick3.free 1; have i0 := hC.cell 0; have i1 := hC.cell 1; have j1 := hC.free 1)
        | (go_at_call 69; refine (is_any _).mono ?_; rw [HI.out]; rintro e w2 ⟨rfl, rfl⟩))
      have hY := hC.pick3.setCell 0 (.int .i64 0)
      have hZ := hY.setCell 1 (.int .i64 0)
      have y0 : ((w1.alloc (.cells #[.int .i64 c.toNat, .int .i64 0] 32)).setCell ⟨w.heap.size, 0, none⟩ (.int .i64 0)).cell? ⟨w.heap.size, 0, none⟩ = some (.int .i64 0) := hY.cell 0
      have y1 : (((w1.alloc (.cells #[.int .i64 c.toNat, .int .i64 0] 32)).setCell ⟨w.heap.size, 0, none⟩ (.int .i64 0)).setCell ⟨w.heap.size, 1, none⟩ (.int .i64 0)).cell? ⟨w.heap.size, 1, none⟩ = some (.int .i64 0) := hZ.cell 1
      refine bodyPost_ret (by simp [results, Try.results48, go_sem, y0, y1]; try rfl) rfl ?_
      exact ⟨rfl, hZ.drop.drop.drop⟩
    have HI := Lib.hid (show (decide (0 ≤ (c.toNat : Int)) && decide ((c.toNat : Int) ≤ 26)) = true by simp; omega)
    cases hh : Instr.has c.toNat with
    | false =>
      have hrt : Instr.right c.toNat 0 = true := by
        have h1 : ¬ (c.toNat : Int) = 1 := by rintro e; rw [e] at hh; simp [Instr.has] at hh
        rw [Instr.right, if_neg (by omega), if_neg h1, if_neg (by simp [hh])]; rfl
      have hrd : Instr.read (c :: r) = ((c.toNat : Int), 0, 1, 0) := by rw [Instr.read, if_neg (by omega), if_neg (by simp [hh])]
      rw [hrd]
      have HH := Lib.hid hh
      have HR := Lib.hid hrt; clear hrt hrd hh
      have hs1 : (str r).size = r.length := rfl
      go_enter Try.func48, Try.ntmps48
      go_wp2_with (first
        | (go_at_call 17; refine (rrbyte_any hA0).mono ?_; rw [HB.out]; rintro e w1 ⟨rfl, hB⟩; have hC := hB.alloc (.cells #[.int .i64 c.toNat, .int .i64 0] 32); have b0 := hC.pick2.cell 0; have b1 := hC.pick2.cell 1; have g0 := hC.pick3.cell 0; have g1 := hC.pick3.cell 1; have k0 := hC.pick3.free 0; have k1 := hC.pick3.free 1; have i0 := hC.cell 0; have i1 := hC.cell 1; have j1 := hC.free 1)
        | (go_at_call 69; refine (is_any _).mono ?_; rw [HI.out]; rintro e w2 ⟨rfl, rfl⟩)
        | (go_at_call 70; refine (rhas_any _).mono ?_; rw [HH.out]; rintro e w2 ⟨rfl, rfl⟩)
        | (go_at_call 71; refine (rright_any _ _ hC).mono ?_; rw [HR.out]; rintro e w4 ⟨rfl, hF⟩; have m0 := hF.cell 0; have m1 := hF.cell 1; have n0 := hF.pick2.cell 0; have o0 := hF.pick3.cell 0; have o1 := hF.pick3.cell 1; have p0 := hF.pick3.free 0; have p1 := hF.pick3.free 1))
      go_region_with (fail)
      all_goals
        have hY := hF.pick3.setCell 0 (.int .i64 c.toNat)
        have hZ := hY.setCell 1 (.int .i64 0)
        have y0 : ((w4).setCell ⟨w.heap.size, 0, none⟩ (.int .i64 c.toNat)).cell? ⟨w.heap.size, 0, none⟩ = some (.int .i64 c.toNat) := hY.cell 0
        have y1 : (((w4).setCell ⟨w.heap.size, 0, none⟩ (.int .i64 c.toNat)).setCell ⟨w.heap.size, 1, none⟩ (.int .i64 0)).cell? ⟨w.heap.size, 1, none⟩ = some (.int .i64 0) := hZ.cell 1
        go_wp2
        refine bodyPost_ret (by simp [results, Try.results48, go_sem, y0, y1]; try rfl) rfl ?_
        refine ⟨?_, hZ.drew.drop.drop.drop⟩
        rw [show (r.length : Int) + 1 - r.length = 1 by omega]
        rfl
    | true =>
      have HH := Lib.hid hh
      by_cases herr : (Reel.rdNum 0 r).1 = 0
      · obtain ⟨v, hv⟩ : ∃ v, v = Reel.unfold_ (Reel.rdNum 0 r).2.1 := ⟨_, rfl⟩
        have hszr := Reel.rdNum_size r 0
        have hint := Reel.at1_int_ok c r herr
        rw [← hv] at hint
        cases hrt : Instr.right c.toNat v with
        | false =>
          have hrd : Instr.read (c :: r) = (0, 0, 0, 4) := by
            rw [Instr.read, if_neg (by omega), if_pos hh, if_pos herr, ← hv, if_neg (by simp [hrt])]
          rw [hrd]
          have HR := Lib.hid hrt
          have HINT := Lib.hid hint
          clear hrt hrd hh herr hv hint
          go_enter Try.func48, Try.ntmps48
          go_wp2_with (first
            | (go_at_call 17; refine (rrbyte_any hA0).mono ?_; rw [HB.out]; rintro e w1 ⟨rfl, hB⟩; have hC := hB.alloc (.cells #[.int .i64 c.toNat, .int .i64 0] 32); have b0 := hC.pick2.cell 0; have b1 := hC.pick2.cell 1; have g0 := hC.pick3.cell 0; have g1 := hC.pick3.cell 1; have k0 := hC.pick3.free 0; have k1 := hC.pick3.free 1; have i0 := hC.cell 0; have i1 := hC.cell 1; have j1 := hC.free 1)
            | (go_at_call 69; refine (is_any _).mono ?_; rw [HI.out]; rintro e w2 ⟨rfl, rfl⟩)
            | (go_at_call 70; refine (rhas_any _).mono ?_; rw [HH.out]; rintro e w2 ⟨rfl, rfl⟩)
            | (go_at_call 49; refine (rrint_any hl1 hC.pick2).mono ?_; rw [HINT.out]; rintro e w3 ⟨rfl, hD⟩; have hE := hD.pick2.setCell 1 (.int .i64 v); have f1 := hD.pick2.free 1; have z1 := hD.pick2.cell 1; have e0 := hE.cell 0; have e1 := hE.cell 1; have r0 := hE.pick2.cell 0; have r1 := hE.pick2.cell 1; have q0 := hE.pick3.cell 0; have q1 := hE.pick3.cell 1; have l0 := hE.pick3.free 0; have l1 := hE.pick3.free 1)
            | (go_at_call 71; refine (rright_any _ _ hE).mono ?_; rw [HR.out]; rintro e w4 ⟨rfl, hF⟩; have m0 := hF.cell 0; have m1 := hF.cell 1; have n0 := hF.pick2.cell 0; have o0 := hF.pick3.cell 0; have o1 := hF.pick3.cell 1; have p0 := hF.pick3.free 0; have p1 := hF.pick3.free 1))
          have hY := hF.pick3.setCell 0 (.int .i64 0)
          have hZ := hY.setCell 1 (.int .i64 0)
          have y0 : ((w4).setCell ⟨w.heap.size, 0, none⟩ (.int .i64 0)).cell? ⟨w.heap.size, 0, none⟩ = some (.int .i64 0) := hY.cell 0
          have y1 : (((w4).setCell ⟨w.heap.size, 0, none⟩ (.int .i64 0)).setCell ⟨w.heap.size, 1, none⟩ (.int .i64 0)).cell? ⟨w.heap.size, 1, none⟩ = some (.int .i64 0) := hZ.cell 1
          refine bodyPost_ret (by simp [results, Try.results48, go_sem, y0, y1]; try rfl) rfl ?_
          exact ⟨rfl, hZ.drop.drop.drop⟩
        | true =>
          have hrd : Instr.read (c :: r) = ((c.toNat : Int), v, 1 + ((Reel.rdNum 0 r).2.2 : Int), 0) := by
            rw [Instr.read, if_neg (by omega), if_pos hh, if_pos herr, ← hv, if_pos hrt]
          rw [hrd]
          generalize (Reel.rdNum 0 r).2.2 = sz at *
          have HR := Lib.hid hrt
          have HINT := Lib.hid hint
          clear hrt hrd hh herr hv hint
          have hs1 : (str (List.drop (1 + sz) (c :: r))).size = r.length - sz := by rw [str_size, List.length_drop, List.length_cons]; omega
          go_enter Try.func48, Try.ntmps48
          go_wp2_with (first
            | (go_at_call 17; refine (rrbyte_any hA0).mono ?_; rw [HB.out]; rintro e w1 ⟨rfl, hB⟩; have hC := hB.alloc (.cells #[.int .i64 c.toNat, .int .i64 0] 32); have b0 := hC.pick2.cell 0; have b1 := hC.pick2.cell 1; have g0 := hC.pick3.cell 0; have g1 := hC.pick3.cell 1; have k0 := hC.pick3.free 0; have k1 := hC.pick3.free 1; have i0 := hC.cell 0; have i1 := hC.cell 1; have j1 := hC.free 1)
            | (go_at_call 69; refine (is_any _).mono ?_; rw [HI.out]; rintro e w2 ⟨rfl, rfl⟩)
            | (go_at_call 70; refine (rhas_any _).mono ?_; rw [HH.out]; rintro e w2 ⟨rfl, rfl⟩)
            | (go_at_call 49; refine (rrint_any hl1 hC.pick2).mono ?_; rw [HINT.out]; rintro e w3 ⟨rfl, hD⟩; have hE := hD.pick2.setCell 1 (.int .i64 v); have f1 := hD.pick2.free 1; have z1 := hD.pick2.cell 1; have e0 := hE.cell 0; have e1 := hE.cell 1; have r0 := hE.pick2.cell 0; have r1 := hE.pick2.cell 1; have q0 := hE.pick3.cell 0; have q1 := hE.pick3.cell 1; have l0 := hE.pick3.free 0; have l1 := hE.pick3.free 1)
            | (go_at_call 71; refine (rright_any _ _ hE).mono ?_; rw [HR.out]; rintro e w4 ⟨rfl, hF⟩; have m0 := hF.cell 0; have m1 := hF.cell 1; have n0 := hF.pick2.cell 0; have o0 := hF.pick3.cell 0; have o1 := hF.pick3.cell 1; have p0 := hF.pick3.free 0; have p1 := hF.pick3.free 1))
          go_region_with (fail)
          all_goals
            have hY := hF.pick3.setCell 0 (.int .i64 c.toNat)
            have hZ := hY.setCell 1 (.int .i64 v)
            have y0 : ((w4).setCell ⟨w.heap.size, 0, none⟩ (.int .i64 c.toNat)).cell? ⟨w.heap.size, 0, none⟩ = some (.int .i64 c.toNat) := hY.cell 0
            have y1 : (((w4).setCell ⟨w.heap.size, 0, none⟩ (.int .i64 c.toNat)).setCell ⟨w.heap.size, 1, none⟩ (.int .i64 v)).cell? ⟨w.heap.size, 1, none⟩ = some (.int .i64 v) := hZ.cell 1
            go_wp2
            refine bodyPost_ret (by simp [results, Try.results48, go_sem, y0, y1]; try rfl) rfl ?_
            refine ⟨?_, hZ.drew.drop.drop.drop⟩
            first
              | rw [show (r.length : Int) + 1 - ((r.length - sz : Nat) : Int) = 1 + (sz : Int) by omega]
              | skip
            try rw [IntWalk.i64_in _ (by omega)]
      · have hrd : Instr.read (c :: r) = (0, 0, 0, (Reel.rdNum 0 r).1) := by
          rw [Instr.read, if_neg (by omega), if_pos hh, if_neg herr]
        rw [hrd]
        obtain ⟨v, hv⟩ : ∃ v : Int, v = 0 := ⟨_, rfl⟩
        have hint : (⟨c :: r, 1, 0⟩ : Reel.R).int = (v, ⟨c :: r, 1, (Reel.rdNum 0 r).1⟩) := by rw [hv]; exact Reel.at1_int_no c r herr
        have hne : ((Reel.rdNum 0 r).1 != 0) = true := by simp [herr]
        generalize (Reel.rdNum 0 r).1 = er at *
        have HINT := Lib.hid hint
        clear hrd hh herr hv hint
        go_enter Try.func48, Try.ntmps48
        go_wp2_with (first
          | (go_at_call 17; refine (rrbyte_any hA0).mono ?_; rw [HB.out]; rintro e w1 ⟨rfl, hB⟩; have hC := hB.alloc (.cells #[.int .i64 c.toNat, .int .i64 0] 32); have b0 := hC.pick2.cell 0; have b1 := hC.pick2.cell 1; have g0 := hC.pick3.cell 0; have g1 := hC.pick3.cell 1; have k0 := hC.pick3.free 0; have k1 := hC.pick3.free 1; have i0 := hC.cell 0; have i1 := hC.cell 1; have j1 := hC.free 1)
          | (go_at_call 69; refine (is_any _).mono ?_; rw [HI.out]; rintro e w2 ⟨rfl, rfl⟩)
          | (go_at_call 70; refine (rhas_any _).mono ?_; rw [HH.out]; rintro e w2 ⟨rfl, rfl⟩)
          | (go_at_call 49; refine (rrint_any hl1 hC.pick2).mono ?_; rw [HINT.out]; rintro e w3 ⟨rfl, hD⟩; have hE := hD.pick2.setCell 1 (.int .i64 v); have f1 := hD.pick2.free 1; have z1 := hD.pick2.cell 1; have e0 := hE.cell 0; have e1 := hE.cell 1; have r0 := hE.pick2.cell 0; have r1 := hE.pick2.cell 1; have q0 := hE.pick3.cell 0; have q1 := hE.pick3.cell 1; have l0 := hE.pick3.free 0; have l1 := hE.pick3.free 1))
        go_region_with (fail)
        all_goals
          have hY := hE.pick3.setCell 0 (.int .i64 0)
          have hZ := hY.setCell 1 (.int .i64 0)
          have y0 : ((w3.setCell ⟨w1.heap.size, 1, none⟩ (.int .i64 v)).setCell ⟨w.heap.size, 0, none⟩ (.int .i64 0)).cell? ⟨w.heap.size, 0, none⟩ = some (.int .i64 0) := hY.cell 0
          have y1 : (((w3.setCell ⟨w1.heap.size, 1, none⟩ (.int .i64 v)).setCell ⟨w.heap.size, 0, none⟩ (.int .i64 0)).setCell ⟨w.heap.size, 1, none⟩ (.int .i64 0)).cell? ⟨w.heap.size, 1, none⟩ = some (.int .i64 0) := hZ.cell 1
          go_wp2
          refine bodyPost_ret (by simp [results, Try.results48, go_sem, y0, y1]; try rfl) rfl ?_
          exact ⟨rfl, hZ.drew.drop.drop.drop⟩
end
end Go.Proofs.Ytebolbjbfnolpab
