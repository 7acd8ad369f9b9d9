/-
  The contract of module.Same.
-/
import Derived.Test.YtebolbjbfnolpabModN
namespace Go.Proofs.Ytebolbjbfnolpab
open Go.RowKit HP

section
variable {w0 w : World} {L : List HP}

/-- what an actor's memory is -/
structure ActAt (w : World) (p r m : List Int) (c : List (Int × Int)) (ts : List TabD) (aP aR aM aC aT : Option Addr) : Prop where
  rP : Rd w aP (p.map (Value.int .i64))
  rR : Rd w aR (r.map (Value.int .i64))
  rM : Rd w aM (m.map (Value.int .i64))
  rC : Rd w aC (pvs .i64 .i64 c)
  rT : Kn.At_ kTable w aT ts
  lP : p.length ≤ maxLen
  lR : r.length ≤ maxLen
  lM : m.length ≤ maxLen
  lC : c.length ≤ maxLen
  lT : ts.length ≤ maxLen
theorem ActAt.old {w w' : World} {L : List HP} {p r m c ts aP aR aM aC aT} (h : ActAt w p r m c ts aP aR aM aC aT) (hA : At w w' L) : ActAt w' p r m c ts aP aR aM aC aT :=
  ⟨h.rP.old hA, h.rR.old hA, h.rM.old hA, h.rC.old hA, Kn.At_.mv hA.below h.rT, h.lP, h.lR, h.lM, h.lC, h.lT⟩

set_option maxRecDepth 100000 in
set_option maxHeartbeats 4000000 in
theorem same1_any (p r m : List Int) (c : List (Int × Int)) (ts : List TabD) (aP aR aM aC aT : Option Addr) (cP cR cM cC cT : Nat)
    (p2 r2 m2 : List Int) (c2 : List (Int × Int)) (ts2 : List TabD) (aP2 aR2 aM2 aC2 aT2 : Option Addr) (cP2 cR2 cM2 cC2 cT2 : Nat) (nP nR nM nC nT nP2 nR2 nM2 nC2 nT2 : Nat)
    (eP : p.length = nP) (eR : r.length = nR) (eM : m.length = nM) (eC : c.length = nC) (eT : ts.length = nT) (eP2 : p2.length = nP2) (eR2 : r2.length = nR2) (eM2 : m2.length = nM2) (eC2 : c2.length = nC2) (eT2 : ts2.length = nT2)
    (h1 : ActAt w p r m c ts aP aR aM aC aT) (h2 : ActAt w p2 r2 m2 c2 ts2 aP2 aR2 aM2 aC2 aT2) (hA : At w0 w L) :
    Calls Try.prog 32 #[.agg #[.slice aP nP cP, .slice aR nR cR, .slice aM nM cM, .slice aC nC cC, .slice aT nT cT], .agg #[.slice aP2 nP2 cP2, .slice aR2 nR2 cR2, .slice aM2 nM2 cM2, .slice aC2 nC2 cC2, .slice aT2 nT2 cT2]] w fun e w' =>
      e = .returned (.bool (decide ((⟨p, r, m, c, ts.map toTab⟩ : Mod.Act) = ⟨p2, r2, m2, c2, ts2.map toTab⟩))) ∧ At w0 w' L := by
  suffices h : Calls Try.prog 32 #[.agg #[.slice aP nP cP, .slice aR nR cR, .slice aM nM cM, .slice aC nC cC, .slice aT nT cT], .agg #[.slice aP2 nP2 cP2, .slice aR2 nR2 cR2, .slice aM2 nM2 cM2, .slice aC2 nC2 cC2, .slice aT2 nT2 cT2]] w fun e w' =>
      e = .returned (.bool (decide ((⟨p, r, m, c, ts.map toTab⟩ : Mod.Act) = ⟨p2, r2, m2, c2, ts2.map toTab⟩))) ∧ At w w' [] from h.mono fun e w' h => ⟨h.1, hA.join h.2⟩
  clear hA
  have hA2 := (((At.start w).alloc (.cells #[.slice aP nP cP, .slice aR nR cR, .slice aM nM cM, .slice aC nC cC, .slice aT nT cT] 37)).alloc (.cells #[.slice aP2 nP2 cP2, .slice aR2 nR2 cR2, .slice aM2 nM2 cM2, .slice aC2 nC2 cC2, .slice aT2 nT2 cT2] 37))
  have c0 := hA2.pick2.cell 0
  have c1 := hA2.pick2.cell 1
  have c2' := hA2.pick2.cell 2
  have c3 := hA2.pick2.cell 3
  have c4 := hA2.pick2.cell 4
  have d0 := hA2.cell 0
  have d1 := hA2.cell 1
  have d2 := hA2.cell 2
  have d3 := hA2.cell 3
  have d4 := hA2.cell 4
  have KP := fun w3 L (h : At w w3 L) => ksame_any p p2 aP aP2 nP nP2 cP cP2 eP eP2 (eP ▸ h1.lP) (eP2 ▸ h2.lP) (h1.rP.old h) (h2.rP.old h)
  have KR := fun w3 L (h : At w w3 L) => ksame_any r r2 aR aR2 nR nR2 cR cR2 eR eR2 (eR ▸ h1.lR) (eR2 ▸ h2.lR) (h1.rR.old h) (h2.rR.old h)
  have KM := fun w3 L (h : At w w3 L) => ksame_any m m2 aM aM2 nM nM2 cM cM2 eM eM2 (eM ▸ h1.lM) (eM2 ▸ h2.lM) (h1.rM.old h) (h2.rM.old h)
  have KC := fun w3 L (h : At w w3 L) => equalI_any c c2 aC aC2 nC nC2 cC cC2 eC eC2 (eC ▸ h1.lC) (eC2 ▸ h2.lC) (h1.rC.old h) (h2.rC.old h)
  have KT := fun w3 L (h : At w w3 L) => equalTabs_any ts ts2 aT aT2 nT nT2 cT cT2 eT eT2 (eT ▸ h1.lT) (eT2 ▸ h2.lT) (Kn.At_.mv h.below h1.rT) (Kn.At_.mv h.below h2.rT) h
  have hdec : decide ((⟨p, r, m, c, ts.map toTab⟩ : Mod.Act) = ⟨p2, r2, m2, c2, ts2.map toTab⟩) = (decide (p = p2) && decide (r = r2) && decide (m = m2) && decide (c = c2) && decide (ts.map toTab = ts2.map toTab)) := by
    by_cases e1 : p = p2 <;> by_cases e2 : r = r2 <;> by_cases e3 : m = m2 <;> by_cases e4 : c = c2 <;> by_cases e5 : ts.map toTab = ts2.map toTab <;> simp [e1, e2, e3, e4, e5]
  rw [hdec]
  clear hdec h1 h2 eP eR eM eC eT eP2 eR2 eM2 eC2 eT2
  generalize decide (p = p2) = b1 at *
  generalize decide (r = r2) = b2 at *
  generalize decide (m = m2) = b3 at *
  generalize decide (c = c2) = b4 at *
  generalize decide (ts.map toTab = ts2.map toTab) = b5 at *
  have KP := Lib.hid KP
  have KR := Lib.hid KR
  have KM := Lib.hid KM
  have KC := Lib.hid KC
  have KT := Lib.hid KT
  rename_i KP0 KR0 KM0 KC0 KT0
  clear KP0 KR0 KM0 KC0 KT0
  cases b1 with
  | false =>
    go_enter Try.func32, Try.ntmps32
    go_wp2_with (first
      | (go_at_call 33; refine (KP.out _ _ hA2).mono ?_; rintro e w3 ⟨rfl, q, rfl⟩))
    go_returns
    exact ⟨rfl, (hA2.drewN _).drop.drop⟩
  | true =>
  cases b2 with
  | false =>
    go_enter Try.func32, Try.ntmps32
    go_wp2_with (first
      | (go_at_call 33; refine (KP.out _ _ hA2).mono ?_; rintro e w3 ⟨rfl, q, rfl⟩)
      | (go_at_call 33; refine (KR.out _ _ (hA2.drewN _)).mono ?_; rintro e w3 ⟨rfl, q2, rfl⟩))
    go_returns
    exact ⟨rfl, (hA2.drewN _).drop.drop⟩
  | true =>
  cases b3 with
  | false =>
    go_enter Try.func32, Try.ntmps32
    go_wp2_with (first
      | (go_at_call 33; refine (KP.out _ _ hA2).mono ?_; rintro e w3 ⟨rfl, q, rfl⟩)
      | (go_at_call 33; refine (KR.out _ _ (hA2.drewN _)).mono ?_; rintro e w3 ⟨rfl, q2, rfl⟩)
      | (go_at_call 33; refine (KM.out _ _ (hA2.drewN _)).mono ?_; rintro e w3 ⟨rfl, q3, rfl⟩))
    go_returns
    exact ⟨rfl, (hA2.drewN _).drop.drop⟩
  | true =>
  cases b4 with
  | false =>
    go_enter Try.func32, Try.ntmps32
    go_wp2_with (first
      | (go_at_call 33; refine (KP.out _ _ hA2).mono ?_; rintro e w3 ⟨rfl, q, rfl⟩)
      | (go_at_call 33; refine (KR.out _ _ (hA2.drewN _)).mono ?_; rintro e w3 ⟨rfl, q2, rfl⟩)
      | (go_at_call 33; refine (KM.out _ _ (hA2.drewN _)).mono ?_; rintro e w3 ⟨rfl, q3, rfl⟩)
      | (go_at_call 34; refine (KC.out _ _ (hA2.drewN _)).mono ?_; rintro e w3 ⟨rfl, q4, rfl⟩))
    go_returns
    exact ⟨rfl, (hA2.drewN _).drop.drop⟩
  | true =>
    go_enter Try.func32, Try.ntmps32
    go_wp2_with (first
      | (go_at_call 33; refine (KP.out _ _ hA2).mono ?_; rintro e w3 ⟨rfl, q, rfl⟩)
      | (go_at_call 33; refine (KR.out _ _ (hA2.drewN _)).mono ?_; rintro e w3 ⟨rfl, q2, rfl⟩)
      | (go_at_call 33; refine (KM.out _ _ (hA2.drewN _)).mono ?_; rintro e w3 ⟨rfl, q3, rfl⟩)
      | (go_at_call 34; refine (KC.out _ _ (hA2.drewN _)).mono ?_; rintro e w3 ⟨rfl, q4, rfl⟩)
      | (go_at_call 35; refine (KT.out _ _ (hA2.drewN _)).mono ?_; rintro e w3 ⟨rfl, hV⟩))
    go_returns
    exact ⟨rfl, hV.drop.drop⟩

theorem actor_at2 {w : World} {b off : Nat} {l : List ActD} (h : Kn.At_ kActor w (some ⟨b, off, none⟩) l) (i : Nat) (hi : i < l.length) :
    ∃ aP cP aR cR aM cM aC cC aT cT,
      (w.cell? ⟨b, off + i * 5, none⟩ = some (.slice aP l[i].1.length cP) ∧ w.cell? ⟨b, off + i * 5 + 1, none⟩ = some (.slice aR l[i].2.1.length cR) ∧ w.cell? ⟨b, off + i * 5 + 2, none⟩ = some (.slice aM l[i].2.2.1.length cM) ∧
        w.cell? ⟨b, off + i * 5 + 3, none⟩ = some (.slice aC l[i].2.2.2.1.length cC) ∧ w.cell? ⟨b, off + i * 5 + 4, none⟩ = some (.slice aT l[i].2.2.2.2.1.length cT)) ∧
      ActAt w l[i].1 l[i].2.1 l[i].2.2.1 (l[i].2.2.2.1.map toP) l[i].2.2.2.2.1 aP aR aM aC aT := by
  obtain ⟨aP, cP, aR, cR, aM, cM, aC, cC, aT, cT, hd, ⟨rP, rR, rM, rC, rT⟩, l1, _, l2, l3, l4, l5⟩ := actor_at h i hi
  exact ⟨aP, cP, aR, cR, aM, cM, aC, cC, aT, cT, hd, ⟨rP, rR, rM, rC, rT, l1, l2, l3, by simpa using l4, l5⟩⟩

set_option maxRecDepth 100000 in
set_option maxHeartbeats 4000000 in
theorem equalActs_any (l l2 : List ActD) (ao ao2 : Option Addr) (n n2 cap cap2 : Nat) (hn : l.length = n) (hn2 : l2.length = n2) (hm : n ≤ maxLen) (hm2 : n2 ≤ maxLen) (h1 : Kn.At_ kActor w ao l) (h2 : Kn.At_ kActor w ao2 l2) (hA : At w0 w L) :
    Calls Try.prog 31 #[.slice ao n cap, .slice ao2 n2 cap2, .func (.func 32) #[] #[]] w fun e w' => e = .returned (.bool (decide (l.map toAct = l2.map toAct))) ∧ At w0 w' L := by
  suffices h : Calls Try.prog 31 #[.slice ao n cap, .slice ao2 n2 cap2, .func (.func 32) #[] #[]] w fun e w' => e = .returned (.bool (decide (l.map toAct = l2.map toAct))) ∧ At w w' [] from
    h.mono fun e w' h => ⟨h.1, hA.join h.2⟩
  clear hA
  unfold maxLen at hm hm2
  by_cases hlen : n = n2
  · subst hlen
    have T : ((n : Int) != (n : Int)) = false := by simp
    have HN := Lib.hid hn; clear hn
    have HN2 := Lib.hid hn2; clear hn2
    clear hm2
    go_enter Try.func31, Try.ntmps31
    go_wp2
    go_loopw [17] (fun i wr => EqfRel toAct w l l2 n i wr) (fun i _ => n - (intOf i).toNat)
    case atStart => exact ⟨0, rfl, by omega, rfl, At.start w⟩
    case round =>
      obtain ⟨k, rfl, hk, hx, hW⟩ := hrel
      have HX := Lib.hid hx; clear hx
      by_cases hlt : k < n
      · have hlt1 : k < l.length := by rw [HN.out]; exact hlt
        have hlt2 : k < l2.length := by rw [HN2.out]; exact hlt
        obtain ⟨b, off, rfl⟩ : ∃ b off, ao = some ⟨b, off, none⟩ := by
          rcases h1 with rfl | ⟨b, off, e, _⟩
          · simp at hlt1
          · exact ⟨b, off, e⟩
        obtain ⟨b2, off2, rfl⟩ : ∃ b off, ao2 = some ⟨b, off, none⟩ := by
          rcases h2 with rfl | ⟨b, off, e, _⟩
          · simp at hlt2
          · exact ⟨b, off, e⟩
        have HS := Lib.hid (map_take_succ toAct l k hlt1)
        have HS2 := Lib.hid (map_take_succ toAct l2 k hlt2)
        have HNE := Lib.hid (map_ne toAct l l2 k hlt1 hlt2)
        obtain ⟨aP, cP, aR, cR, aM, cM, aC, cC, aT, cT, ⟨d0, d1, d2, d3, d4⟩, g1⟩ := actor_at2 h1 k hlt1
        obtain ⟨aP2, cP2, aR2, cR2, aM2, cM2, aC2, cC2, aT2, cT2, ⟨e0, e1, e2, e3, e4⟩, g2⟩ := actor_at2 h2 k hlt2
        generalize l[k] = t1 at *
        generalize l2[k] = t2 at *
        obtain ⟨p, r, m, c, ts, _⟩ := t1
        obtain ⟨p2, r2, m2, c2, ts2, _⟩ := t2
        simp only at d0 d1 d2 d3 d4 e0 e1 e2 e3 e4 g1 g2
        have d0 := hW.oldCell d0
        have d1 := hW.oldCell d1
        have d2 := hW.oldCell d2
        have d3 := hW.oldCell d3
        have d4 := hW.oldCell d4
        have hB1 := hW.alloc (.cells #[.slice aP p.length cP, .slice aR r.length cR, .slice aM m.length cM, .slice aC c.length cC, .slice aT ts.length cT] 37)
        have e0 := hB1.oldCell e0
        have e1 := hB1.oldCell e1
        have e2 := hB1.oldCell e2
        have e3 := hB1.oldCell e3
        have e4 := hB1.oldCell e4
        have hB := hB1.alloc (.cells #[.slice aP2 p2.length cP2, .slice aR2 r2.length cR2, .slice aM2 m2.length cM2, .slice aC2 c2.length cC2, .slice aT2 ts2.length cT2] 37)
        have b0 := hB.pick2.cell 0
        have b1 := hB.pick2.cell 1
        have b2 := hB.pick2.cell 2
        have b3 := hB.pick2.cell 3
        have b4 := hB.pick2.cell 4
        have f0 := hB.cell 0
        have f1 := hB.cell 1
        have f2 := hB.cell 2
        have f3 := hB.cell 3
        have f4 := hB.cell 4
        have hcl := same1_any p r m (c.map toP) ts aP aR aM aC aT cP cR cM cC cT p2 r2 m2 (c2.map toP) ts2 aP2 aR2 aM2 aC2 aT2 cP2 cR2 cM2 cC2 cT2 p.length r.length m.length c.length ts.length p2.length r2.length m2.length c2.length ts2.length rfl rfl rfl (by simp) rfl rfl rfl rfl (by simp) rfl (g1.old hB) (g2.old hB) hB
        by_cases he : ((⟨p, r, m, c.map toP, ts.map toTab⟩ : Mod.Act) = ⟨p2, r2, m2, c2.map toP, ts2.map toTab⟩)
        · rw [decide_eq_true he] at hcl
          have HC := Lib.hid hcl; clear hcl
          have HE := Lib.hid he; clear he
          go_wp2_with (go_at_call 32; refine HC.out.mono ?_; rintro e w' ⟨rfl, hV⟩)
          go_roundw
          case rel => exact ⟨k + 1, by go_num, by omega, by rw [HS.out, HS2.out, HX.out]; exact congrArg (fun z => _ ++ [z]) HE.out, hV.drop.drop⟩
          case measure => simp [intOf]; omega
        · rw [decide_eq_false he] at hcl
          have HC := Lib.hid hcl; clear hcl
          have HE := Lib.hid he; clear he
          go_wp2_with (go_at_call 32; refine HC.out.mono ?_; rintro e w' ⟨rfl, hV⟩)
          go_returns
          exact ⟨ret_bool (decide_eq_false (HNE.out HE.out)).symm, hV.drop.drop⟩
      · have hkl : k = n := by omega
        subst hkl
        have hall : decide (l.map toAct = l2.map toAct) = true := by
          apply decide_eq_true
          have := HX.out
          rwa [List.take_of_length_le (by rw [List.length_map, HN.out]; exact Nat.le_refl _), List.take_of_length_le (by rw [List.length_map, HN2.out]; exact Nat.le_refl _)] at this
        have HL := Lib.hid hall; clear hall
        go_wp2
        go_returns
        exact ⟨ret_bool HL.out.symm, hW⟩
  · have T : ((n : Int) != (n2 : Int)) = true := by simp; omega
    have hne : decide (l.map toAct = l2.map toAct) = false := by
      apply decide_eq_false
      intro e
      have := congrArg List.length e
      simp only [List.length_map] at this
      omega
    rw [hne]
    clear hlen hne hn hn2
    go_enter Try.func31, Try.ntmps31
    go_wp2
    go_returns
    exact ⟨rfl, At.start w⟩

theorem msame_any (l l2 : List ActD) (ao ao2 : Option Addr) (n n2 cap cap2 : Nat) (hn : l.length = n) (hn2 : l2.length = n2) (hm : n ≤ maxLen) (hm2 : n2 ≤ maxLen) (h1 : Kn.At_ kActor w ao l) (h2 : Kn.At_ kActor w ao2 l2) (hA : At w0 w L) :
    Calls Try.prog 9 #[.agg #[.slice ao n cap], .agg #[.slice ao2 n2 cap2]] w fun e w' => e = .returned (.bool (decide (l.map toAct = l2.map toAct))) ∧ At w0 w' L := by
  have hB := (hA.alloc (.cells #[.slice ao n cap] 25)).alloc (.cells #[.slice ao2 n2 cap2] 25)
  have hS := ((At.start w).alloc (.cells #[.slice ao n cap] 25)).alloc (.cells #[.slice ao2 n2 cap2] 25)
  have c0 := hB.pick2.cell 0
  have d0 := hB.cell 0
  have hc := equalActs_any l l2 ao ao2 n n2 cap cap2 hn hn2 hm hm2 (Kn.At_.mv hS.below h1) (Kn.At_.mv hS.below h2) hB
  have HC := Lib.hid hc; clear hc hn hn2
  generalize decide (l.map toAct = l2.map toAct) = b at *
  go_enter Try.func9, Try.ntmps9
  go_wp2_with (go_at_call 31; refine HC.out.mono ?_; rintro e w3 ⟨rfl, hV⟩)
  go_returns
  exact ⟨rfl, hV.drop.drop⟩
end
end Go.Proofs.Ytebolbjbfnolpab
