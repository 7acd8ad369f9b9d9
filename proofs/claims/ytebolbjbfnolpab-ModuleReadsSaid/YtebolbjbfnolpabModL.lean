/-
  The contracts of module.Right's closure and of module.all at it.
-/
import Derived.Test.YtebolbjbfnolpabModK
namespace Go.Proofs.Ytebolbjbfnolpab
open Go.RowKit HP

section
variable {w0 w : World} {L : List HP}

def actRight (n : Int) (a : ActD) : Bool := Mod.right (toAct a) n
theorem little_bounds {a : ActD} (h : actLittle a = true) : a.1.length ≤ 300 ∧ a.2.1.length ≤ 300 ∧ a.2.2.1.length ≤ 300 := by
  simp only [actLittle, Mod.little, Bool.and_eq_true] at h
  obtain ⟨⟨⟨⟨⟨_, h1⟩, h2⟩, h3⟩, _⟩, _⟩ := h
  have g1 : a.1.length ≤ 4 := of_decide_eq_true h1
  have g2 : a.2.1.length ≤ 16 := of_decide_eq_true h2
  have g3 : a.2.2.1.length ≤ 8 := of_decide_eq_true h3
  exact ⟨by omega, by omega, by omega⟩

theorem right1_any (p r m : List Int) (c : List (Int × Int)) (ts : List TabD) (k : Int) (B : Nat) (aP aR aM aC aT : Option Addr) (nP nR nM nC nT cP cR cM cC cT : Nat)
    (eP : p.length = nP) (eR : r.length = nR) (eM : m.length = nM) (eC : c.length = nC) (eT : ts.length = nT) (hP : nP ≤ 300) (hR : nR ≤ 300) (hM : nM ≤ 300) (hC : nC ≤ maxLen) (hT : nT ≤ maxLen) (hcR : nR ≤ cR)
    (rP : Rd w aP (p.map (Value.int .i64))) (rR : Rd w aR (r.map (Value.int .i64))) (rM : Rd w aM (m.map (Value.int .i64))) (rC : Rd w aC (pvs .i64 .i64 c)) (rT : Kn.At_ kTable w aT ts) (hK : w.cell? ⟨B, 0, none⟩ = some (.int .i64 k)) (hA : At w0 w L) :
    Calls Try.prog 45 #[.agg #[.slice aP nP cP, .slice aR nR cR, .slice aM nM cM, .slice aC nC cC, .slice aT nT cT], .pointer (some ⟨B, 0, none⟩)] w fun e w' =>
      e = .returned (.bool (Mod.right ⟨p, r, m, c, ts.map toTab⟩ k)) ∧ At w0 w' L := by
  have hS := (At.start w).alloc (.cells #[.slice aP nP cP, .slice aR nR cR, .slice aM nM cM, .slice aC nC cC, .slice aT nT cT] 37)
  have hB := hA.alloc (.cells #[.slice aP nP cP, .slice aR nR cR, .slice aM nM cM, .slice aC nC cC, .slice aT nT cT] 37)
  have b0 := hB.cell 0
  have b1 := hB.cell 1
  have b2 := hB.cell 2
  have b3 := hB.cell 3
  have b4 := hB.cell 4
  have g := hS.oldCell hK
  have hc := mright_any p r m c ts k aP aR aM aC aT nP nR nM nC nT cP cR cM cC cT eP eR eM eC eT hP hR hM hC hT hcR (rP.old hS) (rR.old hS) (rM.old hS) (rC.old hS) (Kn.At_.mv hS.below rT) hB
  have HC := Lib.hid hc; clear hc
  generalize Mod.right ⟨p, r, m, c, ts.map toTab⟩ k = b at *
  go_enter Try.func45, Try.ntmps45
  go_wp2_with (go_at_call 46; refine HC.out.mono ?_; rintro e w' ⟨rfl, hV⟩)
  go_returns
  exact ⟨rfl, hV.drop⟩

set_option maxHeartbeats 2000000 in
theorem allR_any (l : List ActD) (ao : Option Addr) (n cap : Nat) (hn : l.length = n) (hm : n ≤ maxLen) (hrd : Kn.At_ kActor w ao l) (K : Int) (B : Nat) (hK : w.cell? ⟨B, 0, none⟩ = some (.int .i64 K)) (hLit : l.all actLittle = true) (hA : At w0 w L) :
    Calls Try.prog 43 #[.slice ao n cap, .func (.func 45) #[] #[.pointer (some ⟨B, 0, none⟩)]] w fun e w' => e = .returned (.bool (l.all (actRight K))) ∧ At w0 w' L := by
  suffices h : Calls Try.prog 43 #[.slice ao n cap, .func (.func 45) #[] #[.pointer (some ⟨B, 0, none⟩)]] w fun e w' => e = .returned (.bool (l.all (actRight K))) ∧ At w w' [] from h.mono fun e w' h => ⟨h.1, hA.join h.2⟩
  clear hA
  unfold maxLen at hm
  have HN := Lib.hid hn; clear hn
  have HLIT := Lib.hid hLit; clear hLit
  go_enter Try.func43, Try.ntmps43
  go_wp2
  go_loopw [9] (fun i wr => AllRel (actRight K) w l n i wr) (fun i _ => n - (intOf i).toNat)
  case atStart => exact ⟨0, rfl, by omega, rfl, At.start w⟩
  case round =>
    obtain ⟨k, rfl, hk, hx, hW⟩ := hrel
    have HX := Lib.hid hx; clear hx
    by_cases hlt : k < n
    · have hlt1 : k < l.length := by rw [HN.out]; exact hlt
      have HD := Lib.hid (show l.drop k = l[k] :: l.drop (k + 1) from List.drop_eq_getElem_cons hlt1)
      obtain ⟨b, off, rfl⟩ : ∃ b off, ao = some ⟨b, off, none⟩ := by
        rcases hrd with rfl | ⟨b, off, e, _⟩
        · simp at hlt1
        · exact ⟨b, off, e⟩
      obtain ⟨aP, cP, aR, cR, aM, cM, aC, cC, aT, cT, ⟨d0, d1, d2, d3, d4⟩, ⟨rP, rR, rM, rC, rT⟩, _, hcR, _, _, hC, hT⟩ := actor_at hrd k hlt1
      obtain ⟨q1, q2, q3⟩ := little_bounds (List.all_eq_true.1 HLIT.out _ (List.getElem_mem hlt1))
      obtain ⟨p, r, m, c, ts, hx⟩ : ∃ p r m c ts, l[k] = (p, r, m, c, ts, ()) := ⟨_, _, _, _, _, rfl⟩
      rw [hx] at d0 d1 d2 d3 d4 rP rR rM rC rT hcR hC hT q1 q2 q3 HD
      simp only at d0 d1 d2 d3 d4 rP rR rM rC rT hcR hC hT q1 q2 q3
      clear hx
      have d0 := hW.oldCell d0
      have d1 := hW.oldCell d1
      have d2 := hW.oldCell d2
      have d3 := hW.oldCell d3
      have d4 := hW.oldCell d4
      have hcl := fun w2 (h : At w w2 []) => right1_any p r m (c.map toP) ts K B aP aR aM aC aT p.length r.length m.length c.length ts.length cP cR cM cC cT rfl rfl rfl (by simp) rfl q1 q2 q3 hC hT hcR (rP.old h) (rR.old h) (rM.old h) (rC.old h) (Kn.At_.mv h.below rT) (h.oldCell hK) h
      have e1 : (actRight K) (p, r, m, c, ts, ()) = Mod.right ⟨p, r, m, c.map toP, ts.map toTab⟩ K := rfl
      rw [← e1] at hcl
      have hB := hW.alloc (.cells #[.slice aP p.length cP, .slice aR r.length cR, .slice aM m.length cM, .slice aC c.length cC, .slice aT ts.length cT] 37)
      have b0 := hB.cell 0
      have b1 := hB.cell 1
      have b2 := hB.cell 2
      have b3 := hB.cell 3
      have b4 := hB.cell 4
      cases he : (actRight K) (p, r, m, c, ts, ()) with
      | false =>
        rw [he] at hcl
        have HC := Lib.hid hcl; clear hcl
        have HE := Lib.hid he; clear he e1
        go_wp2_with (go_at_call 45; refine (HC.out _ hB.drop).mono ?_; rintro e w' ⟨rfl, hV⟩)
        go_returns
        exact ⟨ret_bool (by rw [HX.out, HD.out]; simp [HE.out]), hV⟩
      | true =>
        rw [he] at hcl
        have HC := Lib.hid hcl; clear hcl
        have HE := Lib.hid he; clear he e1
        go_wp2_with (go_at_call 45; refine (HC.out _ hB.drop).mono ?_; rintro e w' ⟨rfl, hV⟩)
        go_roundw
        case rel => exact ⟨k + 1, by go_num, by omega, by rw [HX.out, HD.out]; simp [HE.out], hV⟩
        case measure => simp [intOf]; omega
    · have hkl : k = n := by omega
      have hall : l.all (actRight K) = true := by rw [HX.out, List.drop_of_length_le (by rw [HN.out]; omega)]; rfl
      have HL := Lib.hid hall; clear hall
      subst hkl
      go_wp2
      go_returns
      exact ⟨ret_bool HL.out.symm, hW⟩
end
end Go.Proofs.Ytebolbjbfnolpab
