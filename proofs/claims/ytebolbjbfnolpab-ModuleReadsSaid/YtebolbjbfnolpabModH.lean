/-
  The contract of module.right.
-/
import Derived.Test.YtebolbjbfnolpabModG
namespace Go.Proofs.Ytebolbjbfnolpab
open Go.RowKit HP

section
variable {w0 w : World} {L : List HP}

set_option maxHeartbeats 2000000 in
theorem mright_any (p r m : List Int) (c : List (Int × Int)) (ts : List TabD) (k : Int) (aP aR aM aC aT : Option Addr) (nP nR nM nC nT cP cR cM cC cT : Nat)
    (eP : p.length = nP) (eR : r.length = nR) (eM : m.length = nM) (eC : c.length = nC) (eT : ts.length = nT) (hP : nP ≤ 300) (hR : nR ≤ 300) (hM : nM ≤ 300) (hC : nC ≤ maxLen) (hT : nT ≤ maxLen) (hcR : nR ≤ cR)
    (rP : Rd w aP (p.map (Value.int .i64))) (rR : Rd w aR (r.map (Value.int .i64))) (rM : Rd w aM (m.map (Value.int .i64))) (rC : Rd w aC (pvs .i64 .i64 c)) (rT : Kn.At_ kTable w aT ts) (hA : At w0 w L) :
    Calls Try.prog 46 #[.agg #[.slice aP nP cP, .slice aR nR cR, .slice aM nM cM, .slice aC nC cC, .slice aT nT cT], .int .i64 k] w fun e w' =>
      e = .returned (.bool (Mod.right ⟨p, r, m, c, ts.map toTab⟩ k)) ∧ At w0 w' L := by
  suffices h : Calls Try.prog 46 #[.agg #[.slice aP nP cP, .slice aR nR cR, .slice aM nM cM, .slice aC nC cC, .slice aT nT cT], .int .i64 k] w fun e w' =>
      e = .returned (.bool (Mod.right ⟨p, r, m, c, ts.map toTab⟩ k)) ∧ At w w' [] from h.mono fun e w' h => ⟨h.1, hA.join h.2⟩
  clear hA
  unfold maxLen at hC hT
  have hB := (At.start w).alloc (.cells #[.slice aP nP cP, .slice aR nR cR, .slice aM nM cM, .slice aC nC cC, .slice aT nT cT] 37)
  have hD := hB.alloc (.cells #[.slice aP nP cP, .slice aR nR cR, .slice aM nM cM] 34)
  rw [World.size_alloc] at hD
  have b0 := hB.cell 0
  have b1 := hB.cell 1
  have b2 := hB.cell 2
  have b3 := hB.cell 3
  have b4 := hB.cell 4
  have hcat := concat_any p r m aP aR aM nP nR nM cP cR cM eP eR eM hP hR hM rP rR rM _ hD
  have hlen : 0 + nP + nR + nM = ((p ++ r) ++ m).length := by simp [eP, eR, eM]; omega
  have hN300 : 0 + nP + nR + nM ≤ 900 := by omega
  generalize 0 + nP + nR + nM = N at *
  have HCAT := Lib.hid hcat; clear hcat hD
  have HLEN := Lib.hid hlen; clear hlen
  have htys : (Mod.tys p k && Mod.tys r k && Mod.tys m k) = Mod.tys ((p ++ r) ++ m) k := by simp [Mod.tys, Bool.and_assoc]
  have hright : Mod.right ⟨p, r, m, c, ts.map toTab⟩ k = (Mod.tys ((p ++ r) ++ m) k && decide (c ≠ []) && decide (nP ≤ nR) && c.all Mod.ins && ts.all tabOk && decide (p = r.take nP)) := by
    rw [tabOk_all, ← htys, ← eP, ← eR]; rfl
  rw [hright]
  clear hright htys
  have hall : ∀ ao cap w' , At w w' (row 84 1 ao N cap ([] ++ p.map (Value.int .i64) ++ r.map (Value.int .i64) ++ m.map (Value.int .i64)) :: one (w.heap.size + 1) (.cells #[.slice aP nP cP, .slice aR nR cR, .slice aM nM cM] 34) :: [one w.heap.size (.cells #[.slice aP nP cP, .slice aR nR cR, .slice aM nM cM, .slice aC nC cC, .slice aT nT cT] 37)]) →
      Calls Try.prog 60 #[.slice ao N cap, .int .i64 k] w' fun e w2 => e = .returned (.bool (Mod.tys ((p ++ r) ++ m) k)) ∧ At w w2 [one w.heap.size (.cells #[.slice aP nP cP, .slice aR nR cR, .slice aM nM cM, .slice aC nC cC, .slice aT nT cT] 37)] := fun ao cap w' h => by
    rw [HLEN.out]
    refine kall_any k _ ao cap (by rw [← HLEN.out]; unfold maxLen; omega) h.drop.drop ?_
    have := h.rd
    simpa using this
  have HALL := Lib.hid hall; clear hall
  have rR2 : Rd w aR ((r.take nP).map (Value.int .i64)) := by
    rcases rR with h | ⟨b, off, e, h⟩
    · left; rw [List.map_take, h, List.take_nil]
    · refine .inr ⟨b, off, e, fun j u hj => h j u ?_⟩
      rw [List.map_take, List.getElem?_take] at hj
      split at hj
      · exact hj
      · cases hj
  cases hT_ : Mod.tys ((p ++ r) ++ m) k with
  | false =>
    have HT := Lib.hid hT_; clear hT_
    go_enter Try.func46, Try.ntmps46
    go_wp2_with (first
        | (go_at_call 61; refine HCAT.out.mono ?_; rintro e w' ⟨ao, cap, rfl, hW⟩; have x0 := hW.pick3.cell 0; have x1 := hW.pick3.cell 1; have x3 := hW.pick3.cell 3)
        | (go_at_call 60; refine (HALL.out _ _ _ hW).mono ?_; rw [HT.out]; rintro e w' ⟨rfl, hV⟩; have y0 := hV.cell 0; have y1 := hV.cell 1; have y3 := hV.cell 3; have y4 := hV.cell 4)
        | (go_at_call 62; refine (hasI_any c aC nC cC eC hC hV (rC.old hV)).mono ?_; rintro e w' ⟨rfl, hI⟩; have u0 := hI.cell 0; have u1 := hI.cell 1; have u4 := hI.cell 4)
        | (go_at_call 65; refine (hasT_any ts aT nT cT eT hT hI (Kn.At_.mv hI.below rT)).mono ?_; rintro e w' ⟨rfl, hJ⟩; have v0 := hJ.cell 0; have v1 := hJ.cell 1))
    go_returns
    exact ⟨ret_bool (by simp), hV.drop⟩
  | true =>
    have HT := Lib.hid hT_; clear hT_
    by_cases hc0 : nC = 0
    · have hcn : c = [] := List.eq_nil_of_length_eq_zero (eC.trans hc0)
      subst hc0
      go_enter Try.func46, Try.ntmps46
      go_wp2_with (first
        | (go_at_call 61; refine HCAT.out.mono ?_; rintro e w' ⟨ao, cap, rfl, hW⟩; have x0 := hW.pick3.cell 0; have x1 := hW.pick3.cell 1; have x3 := hW.pick3.cell 3)
        | (go_at_call 60; refine (HALL.out _ _ _ hW).mono ?_; rw [HT.out]; rintro e w' ⟨rfl, hV⟩; have y0 := hV.cell 0; have y1 := hV.cell 1; have y3 := hV.cell 3; have y4 := hV.cell 4)
        | (go_at_call 62; refine (hasI_any c aC nC cC eC hC hV (rC.old hV)).mono ?_; rintro e w' ⟨rfl, hI⟩; have u0 := hI.cell 0; have u1 := hI.cell 1; have u4 := hI.cell 4)
        | (go_at_call 65; refine (hasT_any ts aT nT cT eT hT hI (Kn.At_.mv hI.below rT)).mono ?_; rintro e w' ⟨rfl, hJ⟩; have v0 := hJ.cell 0; have v1 := hJ.cell 1))
      go_returns
      exact ⟨ret_bool (by simp [hcn]), hV.drop⟩
    · have hcn : c ≠ [] := by rintro rfl; exact hc0 eC.symm
      have HCN := Lib.hid hcn; clear hcn
      have T2 : ((nC : Int) == 0) = false := by simp [hc0]
      by_cases hPR : nP ≤ nR
      · have T3 : decide ((nR : Int) < (nP : Int)) = false := by simp; omega
        have T4 : (nP : Int) ≤ (nR : Int) := by omega
        have T5 : nP ≤ cR := by omega
        have T6 : (nP : Int) ≤ (cR : Int) := by omega
        have hhI := fun w2 (h : At w w2 [one w.heap.size (.cells #[.slice aP nP cP, .slice aR nR cR, .slice aM nM cM, .slice aC nC cC, .slice aT nT cT] 37)]) => hasI_any c aC nC cC eC hC h (rC.old h)
        have hhJ := fun w2 (h : At w w2 [one w.heap.size (.cells #[.slice aP nP cP, .slice aR nR cR, .slice aM nM cM, .slice aC nC cC, .slice aT nT cT] 37)]) => hasT_any ts aT nT cT eT hT h (Kn.At_.mv h.below rT)
        rcases aR with _ | ⟨bR, oR, sR⟩
        · have hr0 : nR = 0 := by
            rcases rR with h | ⟨b, off, e, h⟩
            · rw [← eR]; simpa using h
            · cases e
          have HP0 := Lib.hid (show nP = 0 by omega); clear hr0
          cases hi : c.all Mod.ins with
          | false =>
            rw [hi] at hhI
            have HI := Lib.hid hi; clear hi
            generalize ts.all tabOk = bj at *
            have HHJ := Lib.hid hhJ; clear hhJ
            have HHI := Lib.hid hhI; clear hhI
            go_enter Try.func46, Try.ntmps46
            go_wp2_with (first
                  | (go_at_call 61; refine HCAT.out.mono ?_; rintro e w' ⟨ao, cap, rfl, hW⟩; have x0 := hW.pick3.cell 0; have x1 := hW.pick3.cell 1; have x3 := hW.pick3.cell 3)
                  | (go_at_call 60; refine (HALL.out _ _ _ hW).mono ?_; rw [HT.out]; rintro e w' ⟨rfl, hV⟩; have y0 := hV.cell 0; have y1 := hV.cell 1; have y3 := hV.cell 3; have y4 := hV.cell 4)
                  | (go_at_call 62; refine (HHI.out _ hV).mono ?_; rintro e w' ⟨rfl, hI⟩; have u0 := hI.cell 0; have u1 := hI.cell 1; have u4 := hI.cell 4)
                  | (go_at_call 65; refine (HHJ.out _ hI).mono ?_; rintro e w' ⟨rfl, hJ⟩; have v0 := hJ.cell 0; have v1 := hJ.cell 1))
            go_quiet ((go_at_call 33; exact Calls.quiet_of (ksame_any p (r.take nP) aP none nP nP cP cR eP (by simp [eR]; omega) (by unfold maxLen; omega) (by unfold maxLen; omega) (rP.old (hJ.drewN _)) (rR2.old (hJ.drewN _)))))
            go_wp2
            go_returns
            exact ⟨ret_bool (by simp), (hJ.drewN _).drop⟩
          | true =>
            rw [hi] at hhI
            have HI := Lib.hid hi; clear hi
            have HHI := Lib.hid hhI; clear hhI
            cases hj : ts.all tabOk with
            | false =>
              rw [hj] at hhJ
              have HJ := Lib.hid hj; clear hj
              have HHJ := Lib.hid hhJ; clear hhJ
              go_enter Try.func46, Try.ntmps46
              go_wp2_with (first
                  | (go_at_call 61; refine HCAT.out.mono ?_; rintro e w' ⟨ao, cap, rfl, hW⟩; have x0 := hW.pick3.cell 0; have x1 := hW.pick3.cell 1; have x3 := hW.pick3.cell 3)
                  | (go_at_call 60; refine (HALL.out _ _ _ hW).mono ?_; rw [HT.out]; rintro e w' ⟨rfl, hV⟩; have y0 := hV.cell 0; have y1 := hV.cell 1; have y3 := hV.cell 3; have y4 := hV.cell 4)
                  | (go_at_call 62; refine (HHI.out _ hV).mono ?_; rintro e w' ⟨rfl, hI⟩; have u0 := hI.cell 0; have u1 := hI.cell 1; have u4 := hI.cell 4)
                  | (go_at_call 65; refine (HHJ.out _ hI).mono ?_; rintro e w' ⟨rfl, hJ⟩; have v0 := hJ.cell 0; have v1 := hJ.cell 1))
              go_quiet ((go_at_call 33; exact Calls.quiet_of (ksame_any p (r.take nP) aP none nP nP cP cR eP (by simp [eR]; omega) (by unfold maxLen; omega) (by unfold maxLen; omega) (rP.old (hJ.drewN _)) (rR2.old (hJ.drewN _)))))
              go_wp2
              go_returns
              exact ⟨ret_bool (by simp), (hJ.drewN _).drop⟩
            | true =>
              rw [hj] at hhJ
              have HJ := Lib.hid hj; clear hj
              have HHJ := Lib.hid hhJ; clear hhJ
              go_enter Try.func46, Try.ntmps46
              go_wp2_with (first
                  | (go_at_call 61; refine HCAT.out.mono ?_; rintro e w' ⟨ao, cap, rfl, hW⟩; have x0 := hW.pick3.cell 0; have x1 := hW.pick3.cell 1; have x3 := hW.pick3.cell 3)
                  | (go_at_call 60; refine (HALL.out _ _ _ hW).mono ?_; rw [HT.out]; rintro e w' ⟨rfl, hV⟩; have y0 := hV.cell 0; have y1 := hV.cell 1; have y3 := hV.cell 3; have y4 := hV.cell 4)
                  | (go_at_call 62; refine (HHI.out _ hV).mono ?_; rintro e w' ⟨rfl, hI⟩; have u0 := hI.cell 0; have u1 := hI.cell 1; have u4 := hI.cell 4)
                  | (go_at_call 65; refine (HHJ.out _ hI).mono ?_; rintro e w' ⟨rfl, hJ⟩; have v0 := hJ.cell 0; have v1 := hJ.cell 1))
              go_quiet ((go_at_call 33; exact Calls.quiet_of (ksame_any p (r.take nP) aP none nP nP cP cR eP (by simp [eR]; omega) (by unfold maxLen; omega) (by unfold maxLen; omega) (rP.old (hJ.drewN _)) (rR2.old (hJ.drewN _)))))
              go_wp2
              go_returns
              exact ⟨ret_bool (by simp [HCN.out, hPR]), (hJ.drewN _).drop⟩
        · -- a slice with an array
          cases hi : c.all Mod.ins with
          | false =>
            rw [hi] at hhI
            have HI := Lib.hid hi; clear hi
            generalize ts.all tabOk = bj at *
            have HHJ := Lib.hid hhJ; clear hhJ
            have HHI := Lib.hid hhI; clear hhI
            go_enter Try.func46, Try.ntmps46
            go_wp2_with (first
                  | (go_at_call 61; refine HCAT.out.mono ?_; rintro e w' ⟨ao, cap, rfl, hW⟩; have x0 := hW.pick3.cell 0; have x1 := hW.pick3.cell 1; have x3 := hW.pick3.cell 3)
                  | (go_at_call 60; refine (HALL.out _ _ _ hW).mono ?_; rw [HT.out]; rintro e w' ⟨rfl, hV⟩; have y0 := hV.cell 0; have y1 := hV.cell 1; have y3 := hV.cell 3; have y4 := hV.cell 4)
                  | (go_at_call 62; refine (HHI.out _ hV).mono ?_; rintro e w' ⟨rfl, hI⟩; have u0 := hI.cell 0; have u1 := hI.cell 1; have u4 := hI.cell 4)
                  | (go_at_call 65; refine (HHJ.out _ hI).mono ?_; rintro e w' ⟨rfl, hJ⟩; have v0 := hJ.cell 0; have v1 := hJ.cell 1))
            go_quiet ((go_at_call 33; exact Calls.quiet_of (ksame_any p (r.take nP) aP (some ⟨bR, oR, sR⟩) nP nP cP cR eP (by simp [eR]; omega) (by unfold maxLen; omega) (by unfold maxLen; omega) (rP.old (hJ.drewN _)) (rR2.old (hJ.drewN _)))))
            go_wp2
            go_returns
            exact ⟨ret_bool (by simp), (hJ.drewN _).drop⟩
          | true =>
            rw [hi] at hhI
            have HI := Lib.hid hi; clear hi
            have HHI := Lib.hid hhI; clear hhI
            cases hj : ts.all tabOk with
            | false =>
              rw [hj] at hhJ
              have HJ := Lib.hid hj; clear hj
              have HHJ := Lib.hid hhJ; clear hhJ
              go_enter Try.func46, Try.ntmps46
              go_wp2_with (first
                  | (go_at_call 61; refine HCAT.out.mono ?_; rintro e w' ⟨ao, cap, rfl, hW⟩; have x0 := hW.pick3.cell 0; have x1 := hW.pick3.cell 1; have x3 := hW.pick3.cell 3)
                  | (go_at_call 60; refine (HALL.out _ _ _ hW).mono ?_; rw [HT.out]; rintro e w' ⟨rfl, hV⟩; have y0 := hV.cell 0; have y1 := hV.cell 1; have y3 := hV.cell 3; have y4 := hV.cell 4)
                  | (go_at_call 62; refine (HHI.out _ hV).mono ?_; rintro e w' ⟨rfl, hI⟩; have u0 := hI.cell 0; have u1 := hI.cell 1; have u4 := hI.cell 4)
                  | (go_at_call 65; refine (HHJ.out _ hI).mono ?_; rintro e w' ⟨rfl, hJ⟩; have v0 := hJ.cell 0; have v1 := hJ.cell 1))
              go_quiet ((go_at_call 33; exact Calls.quiet_of (ksame_any p (r.take nP) aP (some ⟨bR, oR, sR⟩) nP nP cP cR eP (by simp [eR]; omega) (by unfold maxLen; omega) (by unfold maxLen; omega) (rP.old (hJ.drewN _)) (rR2.old (hJ.drewN _)))))
              go_wp2
              go_returns
              exact ⟨ret_bool (by simp), (hJ.drewN _).drop⟩
            | true =>
              rw [hj] at hhJ
              have HJ := Lib.hid hj; clear hj
              have HHJ := Lib.hid hhJ; clear hhJ
              go_enter Try.func46, Try.ntmps46
              go_wp2_with (first
                  | (go_at_call 61; refine HCAT.out.mono ?_; rintro e w' ⟨ao, cap, rfl, hW⟩; have x0 := hW.pick3.cell 0; have x1 := hW.pick3.cell 1; have x3 := hW.pick3.cell 3)
                  | (go_at_call 60; refine (HALL.out _ _ _ hW).mono ?_; rw [HT.out]; rintro e w' ⟨rfl, hV⟩; have y0 := hV.cell 0; have y1 := hV.cell 1; have y3 := hV.cell 3; have y4 := hV.cell 4)
                  | (go_at_call 62; refine (HHI.out _ hV).mono ?_; rintro e w' ⟨rfl, hI⟩; have u0 := hI.cell 0; have u1 := hI.cell 1; have u4 := hI.cell 4)
                  | (go_at_call 65; refine (HHJ.out _ hI).mono ?_; rintro e w' ⟨rfl, hJ⟩; have v0 := hJ.cell 0; have v1 := hJ.cell 1))
              go_quiet ((go_at_call 33; exact Calls.quiet_of (ksame_any p (r.take nP) aP (some ⟨bR, oR, sR⟩) nP nP cP cR eP (by simp [eR]; omega) (by unfold maxLen; omega) (by unfold maxLen; omega) (rP.old (hJ.drewN _)) (rR2.old (hJ.drewN _)))))
              go_wp2
              go_returns
              exact ⟨ret_bool (by simp [HCN.out, hPR]), (hJ.drewN _).drop⟩
      · have T3 : (nR : Int) < (nP : Int) := by omega
        have HPR := Lib.hid hPR; clear hPR
        go_enter Try.func46, Try.ntmps46
        go_wp2_with (first
        | (go_at_call 61; refine HCAT.out.mono ?_; rintro e w' ⟨ao, cap, rfl, hW⟩; have x0 := hW.pick3.cell 0; have x1 := hW.pick3.cell 1; have x3 := hW.pick3.cell 3)
        | (go_at_call 60; refine (HALL.out _ _ _ hW).mono ?_; rw [HT.out]; rintro e w' ⟨rfl, hV⟩; have y0 := hV.cell 0; have y1 := hV.cell 1; have y3 := hV.cell 3; have y4 := hV.cell 4)
        | (go_at_call 62; refine (hasI_any c aC nC cC eC hC hV (rC.old hV)).mono ?_; rintro e w' ⟨rfl, hI⟩; have u0 := hI.cell 0; have u1 := hI.cell 1; have u4 := hI.cell 4)
        | (go_at_call 65; refine (hasT_any ts aT nT cT eT hT hI (Kn.At_.mv hI.below rT)).mono ?_; rintro e w' ⟨rfl, hJ⟩; have v0 := hJ.cell 0; have v1 := hJ.cell 1))
        go_returns
        exact ⟨ret_bool (by simp [HPR.out]), hV.drop⟩
end
end Go.Proofs.Ytebolbjbfnolpab
