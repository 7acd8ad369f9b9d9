/-
  The contract of the reference's Same.
-/
import Derived.Test.YtebolbjbfnolpabModSa
import Derived.Deep.DeepCutAuto
namespace Go.Proofs.Ytebolbjbfnolpab
open Go.RowKit HP
open Go.Proofs.Ytebolbjbfnolpab.Mod

section
variable {w0 w : World} {L : List HP}

def SmRel (w : World) (M : List HP) (l l2 : List ActD) (n : Nat) (i : Value) (wr : World) : Prop := ∃ k : Nat, i = .int .i64 k ∧ k ≤ n ∧ (l.map toAct).take k = (l2.map toAct).take k ∧ At w wr M

def BxRel (w : World) (A1 A2 : Obj) (M : List HP) (s6 s7 : Value) (wx : World) : Prop := ∃ b1 b2 : Nat, s6 = .pointer (some ⟨b1, 0, none⟩) ∧ s7 = .pointer (some ⟨b2, 0, none⟩) ∧ At w wx (HP.one b1 A1 :: HP.one b2 A2 :: M)
def ScRel (w : World) (M : List HP) (X Y : List (Int × Int)) (n : Nat) (i : Value) (wr : World) : Prop := ∃ j : Nat, i = .int .i64 j ∧ j ≤ n ∧ X.take j = Y.take j ∧ At w wr M

set_option maxRecDepth 100000 in
set_option maxHeartbeats 8000000 in
theorem rsame_any (l l2 : List ActD) (ao ao2 : Option Addr) (n cap cap2 : Nat) (hn : l.length = n) (hn2 : l2.length = n) (hm : n ≤ maxLen) (h1 : Kn.At_ kActor w ao l) (h2 : Kn.At_ kActor w ao2 l2) :
    Calls Try.prog 7 #[.agg #[.slice ao n cap], .agg #[.slice ao2 n cap2]] w fun e w' => e = .returned (.bool (decide (l.map toAct = l2.map toAct))) ∧ At w w' [] := by
  unfold maxLen at hm
  have T : ((n : Int) != (n : Int)) = false := by simp
  have hB := ((At.start w).alloc (.cells #[.slice ao n cap] 25)).alloc (.cells #[.slice ao2 n cap2] 25)
  rw [World.size_alloc] at hB
  have b0 := hB.pick2.cell 0
  have b1 := hB.cell 0
  have HN := Lib.hid hn; clear hn
  have HN2 := Lib.hid hn2; clear hn2
  obtain ⟨res, hres⟩ : ∃ res, res = decide (l.map toAct = l2.map toAct) := ⟨_, rfl⟩
  rw [← hres]
  have HRES := Lib.hid hres; clear hres
  go_enter Try.func7, Try.ntmps7
  go_wp2
  go_loopw [5] (fun i wr => SmRel w [HP.one (w.heap.size + 1) (.cells #[.slice ao2 n cap2] 25 (0, 0)), HP.one w.heap.size (.cells #[.slice ao n cap] 25 (0, 0))] l l2 n i wr) (fun i _ => n - (intOf i).toNat)
  case atStart => exact ⟨0, rfl, by omega, rfl, hB⟩
  case round =>
    clear hB b0 b1
    obtain ⟨k, rfl, hk, hx, hW⟩ := hrel
    have HX := Lib.hid hx; clear hx
    have c0 := hW.pick2.cell 0
    have c1 := hW.cell 0
    by_cases hlt : k < n
    · have hlt1 : k < l.length := by rw [HN.out]; exact hlt
      have hlt2 : k < l2.length := by rw [HN2.out]; exact hlt
      obtain ⟨b, off, rfl⟩ : ∃ b off, ao = some ⟨b, off, none⟩ := by
        rcases h1 with rfl | ⟨b, off, e, _⟩
        · simp at hlt1
        · exact ⟨b, off, e⟩
      obtain ⟨b2, off2, rfl⟩ : ∃ b off, ao2 = some ⟨b, off, none⟩ := by
        rcases h2 with rfl | ⟨b, off, e, _⟩
        · simp at hlt2
        · exact ⟨b, off, e⟩
      have HS := Lib.hid (map_take_succ toAct l k hlt1)
      have HS2 := Lib.hid (map_take_succ toAct l2 k hlt2)
      have HNE := Lib.hid (map_ne toAct l l2 k hlt1 hlt2)
      obtain ⟨aP, cP, aR, cR, aM, cM, aC, cC, aT, cT, ⟨d0, d1, d2, d3, d4⟩, ga⟩ := actor_at2 h1 k hlt1
      obtain ⟨aP2, cP2, aR2, cR2, aM2, cM2, aC2, cC2, aT2, cT2, ⟨e0, e1, e2, e3, e4⟩, gb⟩ := actor_at2 h2 k hlt2
      generalize l[k] = t1 at *
      generalize l2[k] = t2 at *
      obtain ⟨p, r, m, c, ts, _⟩ := t1
      obtain ⟨p2, r2, m2, c2, ts2, _⟩ := t2
      simp only at d0 d1 d2 d3 d4 e0 e1 e2 e3 e4 ga gb
      have D0 := Lib.hid d0; have D1 := Lib.hid d1; have D2 := Lib.hid d2; have D3 := Lib.hid d3; have D4 := Lib.hid d4
      have E0 := Lib.hid e0; have E1 := Lib.hid e1; have E2 := Lib.hid e2; have E3 := Lib.hid e3; have E4 := Lib.hid e4
      clear d0 d1 d2 d3 d4 e0 e1 e2 e3 e4
      have hbad : toAct (p, r, m, c, ts, ()) ≠ toAct (p2, r2, m2, c2, ts2, ()) → false = res := fun h => by
        rw [HRES.out]; exact (decide_eq_false (HNE.out h)).symm
      have HBAD := Lib.hid hbad; clear hbad
      go_wp2
      go_upto_region 6 with (fail)
      go_cut [6, 7] (fun s6 s7 wx => BxRel w (.cells #[.slice aP p.length cP, .slice aR r.length cR, .slice aM m.length cM, .slice aC c.length cC, .slice aT ts.length cT] 37 (0, 0)) (.cells #[.slice aP2 p2.length cP2, .slice aR2 r2.length cR2, .slice aM2 m2.length cM2, .slice aC2 c2.length cC2, .slice aT2 ts2.length cT2] 37 (0, 0)) [HP.one (w.heap.size + 1) (.cells #[.slice (some ⟨b2, off2, none⟩) n cap2] 25 (0, 0)), HP.one w.heap.size (.cells #[.slice (some ⟨b, off, none⟩) n cap] 25 (0, 0))] s6 s7 wx)
      case first =>
        have z0 := hW.drew
        have z0c0 := z0.cell 0
        have z0c1 := z0.pick2.cell 0
        have z0d0 := z0.oldCell D0.out
        have z0e0 := z0.oldCell E0.out
        have z0d1 := z0.oldCell D1.out
        have z0e1 := z0.oldCell E1.out
        have z0d2 := z0.oldCell D2.out
        have z0e2 := z0.oldCell E2.out
        have z0d3 := z0.oldCell D3.out
        have z0e3 := z0.oldCell E3.out
        have z0d4 := z0.oldCell D4.out
        have z0e4 := z0.oldCell E4.out
        have z1 := (hW.alloc (.cells #[.slice none 0 0, .slice none 0 0, .slice none 0 0, .slice none 0 0, .slice none 0 0] 37)).drew
        have z1c0 := z1.cell 0
        have z1c1 := z1.pick2.cell 0
        have z1c2 := z1.pick3.cell 0
        have z1f0 := z1.free
        have z1d0 := z1.oldCell D0.out
        have z1e0 := z1.oldCell E0.out
        have z1d1 := z1.oldCell D1.out
        have z1e1 := z1.oldCell E1.out
        have z1d2 := z1.oldCell D2.out
        have z1e2 := z1.oldCell E2.out
        have z1d3 := z1.oldCell D3.out
        have z1e3 := z1.oldCell E3.out
        have z1d4 := z1.oldCell D4.out
        have z1e4 := z1.oldCell E4.out
        have z2 := (hW.alloc (.cells #[.slice aP p.length cP, .slice aR r.length cR, .slice aM m.length cM, .slice aC c.length cC, .slice aT ts.length cT] 37)).drew
        have z2c0 := z2.cell 0
        have z2c1 := z2.pick2.cell 0
        have z2c2 := z2.pick3.cell 0
        have z2f0 := z2.free
        have z2d0 := z2.oldCell D0.out
        have z2e0 := z2.oldCell E0.out
        have z2d1 := z2.oldCell D1.out
        have z2e1 := z2.oldCell E1.out
        have z2d2 := z2.oldCell D2.out
        have z2e2 := z2.oldCell E2.out
        have z2d3 := z2.oldCell D3.out
        have z2e3 := z2.oldCell E3.out
        have z2d4 := z2.oldCell D4.out
        have z2e4 := z2.oldCell E4.out
        have z3 := ((hW.alloc (.cells #[.slice none 0 0, .slice none 0 0, .slice none 0 0, .slice none 0 0, .slice none 0 0] 37)).alloc (.cells #[.slice none 0 0, .slice none 0 0, .slice none 0 0, .slice none 0 0, .slice none 0 0] 37)).drew
        rw [World.size_alloc] at z3
        have z3c0 := z3.cell 0
        have z3c1 := z3.pick2.cell 0
        have z3c2 := z3.pick3.cell 0
        have z3c3 := z3.pick4.cell 0
        have z3f0 := z3.free
        have z3f1 := z3.pick2.free
        have z3d0 := z3.oldCell D0.out
        have z3e0 := z3.oldCell E0.out
        have z3d1 := z3.oldCell D1.out
        have z3e1 := z3.oldCell E1.out
        have z3d2 := z3.oldCell D2.out
        have z3e2 := z3.oldCell E2.out
        have z3d3 := z3.oldCell D3.out
        have z3e3 := z3.oldCell E3.out
        have z3d4 := z3.oldCell D4.out
        have z3e4 := z3.oldCell E4.out
        have z4 := ((hW.alloc (.cells #[.slice none 0 0, .slice none 0 0, .slice none 0 0, .slice none 0 0, .slice none 0 0] 37)).alloc (.cells #[.slice aP p.length cP, .slice aR r.length cR, .slice aM m.length cM, .slice aC c.length cC, .slice aT ts.length cT] 37)).drew
        rw [World.size_alloc] at z4
        have z4c0 := z4.cell 0
        have z4c1 := z4.pick2.cell 0
        have z4c2 := z4.pick3.cell 0
        have z4c3 := z4.pick4.cell 0
        have z4f0 := z4.free
        have z4f1 := z4.pick2.free
        have z4d0 := z4.oldCell D0.out
        have z4e0 := z4.oldCell E0.out
        have z4d1 := z4.oldCell D1.out
        have z4e1 := z4.oldCell E1.out
        have z4d2 := z4.oldCell D2.out
        have z4e2 := z4.oldCell E2.out
        have z4d3 := z4.oldCell D3.out
        have z4e3 := z4.oldCell E3.out
        have z4d4 := z4.oldCell D4.out
        have z4e4 := z4.oldCell E4.out
        have z5 := ((hW.alloc (.cells #[.slice aP p.length cP, .slice aR r.length cR, .slice aM m.length cM, .slice aC c.length cC, .slice aT ts.length cT] 37)).alloc (.cells #[.slice none 0 0, .slice none 0 0, .slice none 0 0, .slice none 0 0, .slice none 0 0] 37)).drew
        rw [World.size_alloc] at z5
        have z5c0 := z5.cell 0
        have z5c1 := z5.pick2.cell 0
        have z5c2 := z5.pick3.cell 0
        have z5c3 := z5.pick4.cell 0
        have z5f0 := z5.free
        have z5f1 := z5.pick2.free
        have z5d0 := z5.oldCell D0.out
        have z5e0 := z5.oldCell E0.out
        have z5d1 := z5.oldCell D1.out
        have z5e1 := z5.oldCell E1.out
        have z5d2 := z5.oldCell D2.out
        have z5e2 := z5.oldCell E2.out
        have z5d3 := z5.oldCell D3.out
        have z5e3 := z5.oldCell E3.out
        have z5d4 := z5.oldCell D4.out
        have z5e4 := z5.oldCell E4.out
        go_region
        all_goals
          go_wp2
          go_meet
          refine ⟨_, _, rfl, rfl, ?_⟩
          have q1 := ((hW.alloc (.cells #[.slice aP p.length cP, .slice aR r.length cR, .slice aM m.length cM, .slice aC c.length cC, .slice aT ts.length cT] 37)).alloc (.cells #[.slice aP2 p2.length cP2, .slice aR2 r2.length cR2, .slice aM2 m2.length cM2, .slice aC2 c2.length cC2, .slice aT2 ts2.length cT2] 37)).drew
          have q2 := ((hW.alloc (.cells #[.slice aP2 p2.length cP2, .slice aR2 r2.length cR2, .slice aM2 m2.length cM2, .slice aC2 c2.length cC2, .slice aT2 ts2.length cT2] 37)).alloc (.cells #[.slice aP p.length cP, .slice aR r.length cR, .slice aM m.length cM, .slice aC c.length cC, .slice aT ts.length cT] 37)).drew
          rw [World.size_alloc] at q1 q2
          first
            | exact q1.pick2
            | exact q2
      case rest =>
        obtain ⟨bx, by_, rfl, rfl, hV⟩ := hcut
        clear hW c0 c1
        clear D0 D1 D2 D3 D4 E0 E1 E2 E3 E4
        obtain ⟨rP, rR, rM, rC, rT, lP, lR, lM, lC, lT⟩ := ga
        obtain ⟨sP, sR, sM, sC, sT, nP, nR, nM, nC, nT⟩ := gb
        have kP := fun (w1 : World) (L : List HP) (h : At w w1 L) => (rsameT_any p p2 aP aP2 p.length p2.length cP cP2 rfl rfl lP nP (rP.old h) (sP.old h)).mono fun e w' g => (⟨g.1, by obtain ⟨q, rfl⟩ := g.2; exact h.drewN q⟩ : e = .returned (.bool (decide (p = p2))) ∧ At w w' L)
        have kR := fun (w1 : World) (L : List HP) (h : At w w1 L) => (rsameT_any r r2 aR aR2 r.length r2.length cR cR2 rfl rfl lR nR (rR.old h) (sR.old h)).mono fun e w' g => (⟨g.1, by obtain ⟨q, rfl⟩ := g.2; exact h.drewN q⟩ : e = .returned (.bool (decide (r = r2))) ∧ At w w' L)
        have kM := fun (w1 : World) (L : List HP) (h : At w w1 L) => (rsameT_any m m2 aM aM2 m.length m2.length cM cM2 rfl rfl lM nM (rM.old h) (sM.old h)).mono fun e w' g => (⟨g.1, by obtain ⟨q, rfl⟩ := g.2; exact h.drewN q⟩ : e = .returned (.bool (decide (m = m2))) ∧ At w w' L)
        have kT := fun (w1 : World) (L : List HP) (h : At w w1 L) => rsameTabs_any ts ts2 aT aT2 ts.length ts2.length cT cT2 rfl rfl lT nT (Kn.At_.mv h.below rT) (Kn.At_.mv h.below sT) h
        generalize p.length = uP at *
        generalize r.length = uR at *
        generalize m.length = uM at *
        generalize ts.length = uT at *
        generalize p2.length = uP2 at *
        generalize r2.length = uR2 at *
        generalize m2.length = uM2 at *
        generalize ts2.length = uT2 at *
        unfold maxLen at *
        have hE1 : toAct (p, r, m, c, ts, ()) = ⟨p, r, m, c.map toP, ts.map toTab⟩ := rfl
        have hE2 : toAct (p2, r2, m2, c2, ts2, ()) = ⟨p2, r2, m2, c2.map toP, ts2.map toTab⟩ := rfl
        have hS := HS.out
        have hS2 := HS2.out
        have hbad := HBAD.out
        clear HS HS2 HBAD HNE
        have hxl : (c.map toP).length = c.length := by simp
        have hxl2 : (c2.map toP).length = c2.length := by simp
        rw [hE1] at hS hbad
        rw [hE2] at hS2 hbad
        clear hE1 hE2
        rw [hxl] at lC
        rw [hxl2] at nC
        generalize c.map toP = X at *
        generalize c2.map toP = Y at *
        generalize ts.map toTab = TX at *
        generalize ts2.map toTab = TY at *
        generalize c.length = uC at *
        generalize c2.length = uC2 at *
        clear rP rR rM rT sP sR sM sT h1 h2 hlt1 hlt2
        have HS := Lib.hid hS; clear hS
        have HS2 := Lib.hid hS2; clear hS2
        have HBAD := Lib.hid hbad; clear hbad
        have HXL := Lib.hid hxl; clear hxl
        have HYL := Lib.hid hxl2; clear hxl2
        have x0 := hV.cell 0
        have y0 := hV.pick2.cell 0
        by_cases f1 : p = p2
        case neg =>
          rw [decide_eq_false f1] at kP
          have F1 := Lib.hid f1; clear f1
          have KP := Lib.hid kP; clear kP
          clear kR kM kT
          go_wp2_with (go_at_call 24; with_reducible refine (KP.out _ _ hV).mono ?_; rintro e w3 ⟨rfl, hV1⟩)
          go_returns
          exact ⟨ret_bool (HBAD.out fun e => F1.out (by injection e)), hV1.drop.drop.drop.drop⟩
        rw [decide_eq_true f1] at kP
        have F1 := Lib.hid f1; clear f1
        have KP := Lib.hid kP; clear kP
        by_cases f2 : r = r2
        case neg =>
          rw [decide_eq_false f2] at kR
          have F2 := Lib.hid f2; clear f2
          have KR := Lib.hid kR; clear kR
          clear kM kT
          go_wp2_with (first
          | (go_at_call 24; with_reducible refine (KP.out _ _ hV).mono ?_; rintro e w3 ⟨rfl, hV1⟩; have x1 := hV1.cell 1; have y1 := hV1.pick2.cell 1)
          | (go_at_call 24; with_reducible refine (KR.out _ _ hV1).mono ?_; rintro e w4 ⟨rfl, hV2⟩))
          go_returns
          exact ⟨ret_bool (HBAD.out fun e => F2.out (by injection e)), hV2.drop.drop.drop.drop⟩
        rw [decide_eq_true f2] at kR
        have F2 := Lib.hid f2; clear f2
        have KR := Lib.hid kR; clear kR
        by_cases f3 : m = m2
        case neg =>
          rw [decide_eq_false f3] at kM
          have F3 := Lib.hid f3; clear f3
          have KM := Lib.hid kM; clear kM
          clear kT
          go_wp2_with (first
          | (go_at_call 24; with_reducible refine (KP.out _ _ hV).mono ?_; rintro e w3 ⟨rfl, hV1⟩; have x1 := hV1.cell 1; have y1 := hV1.pick2.cell 1)
          | (go_at_call 24; with_reducible refine (KR.out _ _ hV1).mono ?_; rintro e w4 ⟨rfl, hV2⟩; have x2 := hV2.cell 2; have y2 := hV2.pick2.cell 2)
          | (go_at_call 24; with_reducible refine (KM.out _ _ hV2).mono ?_; rintro e w5 ⟨rfl, hV3⟩))
          go_returns
          exact ⟨ret_bool (HBAD.out fun e => F3.out (by injection e)), hV3.drop.drop.drop.drop⟩
        rw [decide_eq_true f3] at kM
        have F3 := Lib.hid f3; clear f3
        have KM := Lib.hid kM; clear kM
        by_cases f4 : uC = uC2
        case neg =>
          have T4 : ((uC : Int) != (uC2 : Int)) = true := by simp; omega
          have F4 := Lib.hid f4; clear f4
          clear kT
          go_wp2_with (first
          | (go_at_call 24; with_reducible refine (KP.out _ _ hV).mono ?_; rintro e w3 ⟨rfl, hV1⟩; have x1 := hV1.cell 1; have y1 := hV1.pick2.cell 1)
          | (go_at_call 24; with_reducible refine (KR.out _ _ hV1).mono ?_; rintro e w4 ⟨rfl, hV2⟩; have x2 := hV2.cell 2; have y2 := hV2.pick2.cell 2)
          | (go_at_call 24; with_reducible refine (KM.out _ _ hV2).mono ?_; rintro e w5 ⟨rfl, hV3⟩; have x3 := hV3.cell 3; have y3 := hV3.pick2.cell 3))
          go_returns
          exact ⟨ret_bool (HBAD.out fun e => F4.out (by injection e with _ _ _ e; rw [← HXL.out, ← HYL.out, e])), hV3.drop.drop.drop.drop⟩
        subst f4
        have T4 : ((uC : Int) != (uC : Int)) = false := by simp
        by_cases f5 : TX = TY
        case neg =>
          rw [decide_eq_false f5] at kT
          have F5 := Lib.hid f5; clear f5
          have KT := Lib.hid kT; clear kT
          go_wp2_with (first
          | (go_at_call 24; with_reducible refine (KP.out _ _ hV).mono ?_; rintro e w3 ⟨rfl, hV1⟩; have x1 := hV1.cell 1; have y1 := hV1.pick2.cell 1)
          | (go_at_call 24; with_reducible refine (KR.out _ _ hV1).mono ?_; rintro e w4 ⟨rfl, hV2⟩; have x2 := hV2.cell 2; have y2 := hV2.pick2.cell 2)
          | (go_at_call 24; with_reducible refine (KM.out _ _ hV2).mono ?_; rintro e w5 ⟨rfl, hV3⟩; have x3 := hV3.cell 3; have y3 := hV3.pick2.cell 3; have x4 := hV3.cell 4; have y4 := hV3.pick2.cell 4)
          | (go_at_call 25; with_reducible refine (KT.out _ _ hV3).mono ?_; rintro e w6 ⟨rfl, hV4⟩))
          go_returns
          exact ⟨ret_bool (HBAD.out fun e => F5.out (by injection e)), hV4.drop.drop.drop.drop⟩
        rw [decide_eq_true f5] at kT
        have F5 := Lib.hid f5; clear f5
        have KT := Lib.hid kT; clear kT
        go_wp2_with (first
          | (go_at_call 24; with_reducible refine (KP.out _ _ hV).mono ?_; rintro e w3 ⟨rfl, hV1⟩; have x1 := hV1.cell 1; have y1 := hV1.pick2.cell 1)
          | (go_at_call 24; with_reducible refine (KR.out _ _ hV1).mono ?_; rintro e w4 ⟨rfl, hV2⟩; have x2 := hV2.cell 2; have y2 := hV2.pick2.cell 2)
          | (go_at_call 24; with_reducible refine (KM.out _ _ hV2).mono ?_; rintro e w5 ⟨rfl, hV3⟩; have x3 := hV3.cell 3; have y3 := hV3.pick2.cell 3; have x4 := hV3.cell 4; have y4 := hV3.pick2.cell 4)
          | (go_at_call 25; with_reducible refine (KT.out _ _ hV3).mono ?_; rintro e w6 ⟨rfl, hV4⟩))
        go_loopw [8] (fun i wr => ScRel w [HP.one bx (.cells #[.slice aP uP cP, .slice aR uR cR, .slice aM uM cM, .slice aC uC cC, .slice aT uT cT] 37 (0, 0)), HP.one by_ (.cells #[.slice aP2 uP2 cP2, .slice aR2 uR2 cR2, .slice aM2 uM2 cM2, .slice aC2 uC cC2, .slice aT2 uT2 cT2] 37 (0, 0)), HP.one (w.heap.size + 1) (.cells #[.slice (some ⟨b2, off2, none⟩) n cap2] 25 (0, 0)), HP.one w.heap.size (.cells #[.slice (some ⟨b, off, none⟩) n cap] 25 (0, 0))] X Y uC i wr) (fun i _ => uC - (intOf i).toNat)
        case atStart => exact ⟨0, rfl, by omega, rfl, hV4⟩
        case round =>
          clear hV hV1 hV2 hV3 hV4 x0 x1 x2 x3 x4 y0 y1 y2 y3 y4 KP KR KM KT T4
          obtain ⟨j, rfl, hj, hx, hU⟩ := hrel
          have HX2 := Lib.hid hx; clear hx
          have x3 := hU.cell 3
          have y3 := hU.pick2.cell 3
          by_cases hlt2 : j < uC
          · have hj1 : j < X.length := by rw [HXL.out]; exact hlt2
            have hj2 : j < Y.length := by rw [HYL.out]; exact hlt2
            obtain ⟨b3, off3, rfl, hc⟩ := rC.some_ (by rw [pvs_len]; omega)
            obtain ⟨b4, off4, rfl, hc2⟩ := sC.some_ (by rw [pvs_len]; omega)
            obtain ⟨v1, v2⟩ := pvs_get .i64 .i64 X j hj1
            obtain ⟨v3, v4⟩ := pvs_get .i64 .i64 Y j hj2
            have z1 := hU.oldCell (hc _ _ v1)
            have z2 := hU.oldCell (hc _ _ v2)
            have z3 := hU.oldCell (hc2 _ _ v3)
            have z4 := hU.oldCell (hc2 _ _ v4)
            rw [← Nat.add_assoc] at z2 z4
            clear hc hc2 v1 v2 v3 v4
            have HD1 := Lib.hid (List.take_succ_eq_append_getElem hj1)
            have HD2 := Lib.hid (List.take_succ_eq_append_getElem hj2)
            have hne : X[j] ≠ Y[j] → X ≠ Y := fun h e => h (by subst e; rfl)
            generalize X[j] = p1 at *
            generalize Y[j] = q1 at *
            have HNE2 := Lib.hid hne; clear hne
            obtain ⟨p1, p2_⟩ := p1
            obtain ⟨q1, q2_⟩ := q1
            simp only at z1 z2 z3 z4
            clear hj1 hj2
            by_cases g1 : p1 = q1
            · subst g1
              by_cases g2 : p2_ = q2_
              · subst g2
                go_wp2
                go_quiet (fail)
                go_wp2
                go_roundw
                case rel => exact ⟨j + 1, by go_num, by omega, by rw [HD1.out, HD2.out, HX2.out], hU.drewN _⟩
                case measure => simp [intOf]; omega
              · have T1 : (p2_ == q2_) = false := by simp [g2]
                have G := Lib.hid g2; clear g2
                go_wp2
                go_quiet (fail)
                go_wp2
                go_returns
                exact ⟨ret_bool (HBAD.out fun e => HNE2.out (fun e => G.out (by injection e)) (by injection e)), (hU.drewN _).drop.drop.drop.drop⟩
            · have T1 : (p1 == q1) = false := by simp [g1]
              have G := Lib.hid g1; clear g1
              go_wp2
              go_quiet (fail)
              go_wp2
              go_returns
              exact ⟨ret_bool (HBAD.out fun e => HNE2.out (fun e => G.out (by injection e)) (by injection e)), (hU.drewN _).drop.drop.drop.drop⟩
          · have hjx : uC = j := by omega
            have hXY : X = Y := by
              have := HX2.out
              rwa [List.take_of_length_le (by rw [HXL.out]; omega), List.take_of_length_le (by rw [HYL.out]; omega)] at this
            have HXY := Lib.hid hXY; clear hXY
            subst hjx
            go_wp2
            go_roundw
            case rel => exact ⟨k + 1, by go_num, by omega, by rw [HS.out, HS2.out, HX.out, HXY.out, F1.out, F2.out, F3.out, F5.out], hU.drop.drop⟩
            case measure => simp [intOf]; omega
    · have hkl : n = k := by omega
      have hall : decide (l.map toAct = l2.map toAct) = true := by
        apply decide_eq_true
        have := HX.out
        rwa [List.take_of_length_le (by rw [List.length_map, HN.out]; omega), List.take_of_length_le (by rw [List.length_map, HN2.out]; omega)] at this
      rw [hall] at HRES
      subst hkl
      go_wp2
      go_returns
      exact ⟨ret_bool HRES.out.symm, hW.drop.drop⟩
end
end Go.Proofs.Ytebolbjbfnolpab

namespace Go.Proofs.Ytebolbjbfnolpab
open Go.RowKit HP
open Go.Proofs.Ytebolbjbfnolpab.Mod

section
variable {w0 w : World} {L : List HP}
set_option maxRecDepth 100000 in
set_option maxHeartbeats 4000000 in
theorem refSame_any (l l2 : List ActD) (ao ao2 : Option Addr) (n n2 cap cap2 : Nat) (hn : l.length = n) (hn2 : l2.length = n2) (hm : n ≤ maxLen) (hm2 : n2 ≤ maxLen) (h1 : Kn.At_ kActor w ao l) (h2 : Kn.At_ kActor w ao2 l2) (hA : At w0 w L) :
    Calls Try.prog 7 #[.agg #[.slice ao n cap], .agg #[.slice ao2 n2 cap2]] w fun e w' => e = .returned (.bool (decide (l.map toAct = l2.map toAct))) ∧ At w0 w' L := by
  suffices h : Calls Try.prog 7 #[.agg #[.slice ao n cap], .agg #[.slice ao2 n2 cap2]] w fun e w' => e = .returned (.bool (decide (l.map toAct = l2.map toAct))) ∧ At w w' [] from
    h.mono fun e w' h => ⟨h.1, hA.join h.2⟩
  clear hA
  by_cases hlen : n = n2
  · subst hlen
    exact rsame_any l l2 ao ao2 n cap cap2 hn hn2 hm h1 h2
  · have T : ((n : Int) != (n2 : Int)) = true := by simp; omega
    unfold maxLen at hm hm2
    have hne : decide (l.map toAct = l2.map toAct) = false := by
      apply decide_eq_false
      intro e
      have := congrArg List.length e
      simp only [List.length_map] at this
      omega
    rw [hne]
    clear hlen hne hn hn2
    have hB := ((At.start w).alloc (.cells #[.slice ao n cap] 25)).alloc (.cells #[.slice ao2 n2 cap2] 25)
    rw [World.size_alloc] at hB
    have b0 := hB.pick2.cell 0
    have b1 := hB.cell 0
    go_enter Try.func7, Try.ntmps7
    go_wp2
    go_returns
    exact ⟨rfl, hB.drop.drop⟩
end
end Go.Proofs.Ytebolbjbfnolpab
