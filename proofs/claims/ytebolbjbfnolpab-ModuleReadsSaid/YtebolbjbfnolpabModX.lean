/-
  The reference's well: is all in an actor as it must be?
-/
import Derived.Test.YtebolbjbfnolpabModW
namespace Go.Proofs.Ytebolbjbfnolpab
open Go.RowKit HP
open Go.Proofs.Ytebolbjbfnolpab.Mod

section
variable {w0 w : World} {L : List HP}

def WlRel {α : Type} (q : α → Bool) (w : World) (o : Obj) (l : List α) (n : Nat) (i : Value) (wr : World) : Prop :=
  ∃ k : Nat, i = .int .i64 k ∧ k ≤ n ∧ l.all q = (l.drop k).all q ∧ At w wr [HP.one w.heap.size o]
def WpRel (w : World) (o : Obj) (p r : List Int) (n : Nat) (i : Value) (wr : World) : Prop :=
  ∃ k : Nat, i = .int .i64 k ∧ k ≤ n ∧ p.take k = r.take k ∧ At w wr [HP.one w.heap.size o]
/-- the clauses' loop -/
def WcRel (w : World) (o : Obj) (bt : Nat) (o2 : Obj) (l : List (Int × Int)) (n : Nat) (i : Value) (wr : World) : Prop :=
  ∃ k : Nat, i = .int .i64 k ∧ k ≤ n ∧ l.all Mod.clause = (l.drop k).all Mod.clause ∧ At w wr [HP.one bt o2, HP.one w.heap.size o]

set_option maxRecDepth 100000 in
set_option maxHeartbeats 8000000 in
theorem well_any (p r m : List Int) (c : List (Int × Int)) (ts : List TabD) (n : Int) (aP aR aM aC aT : Option Addr) (cP cR cM cC cT : Nat) (nP nR nM nC nT : Nat)
    (eP : p.length = nP) (eR : r.length = nR) (eM : m.length = nM) (eC : c.length = nC) (eT : ts.length = nT) (h1 : ActAt w p r m c ts aP aR aM aC aT) (hA : At w0 w L) :
    Calls Try.prog 51 #[.agg #[.slice aP nP cP, .slice aR nR cR, .slice aM nM cM, .slice aC nC cC, .slice aT nT cT], .int .i64 n] w fun e w' =>
      e = .returned (.bool (Mod.right ⟨p, r, m, c, ts.map toTab⟩ n)) ∧ At w0 w' L := by
  suffices h : Calls Try.prog 51 #[.agg #[.slice aP nP cP, .slice aR nR cR, .slice aM nM cM, .slice aC nC cC, .slice aT nT cT], .int .i64 n] w fun e w' =>
      e = .returned (.bool (Mod.right ⟨p, r, m, c, ts.map toTab⟩ n)) ∧ At w w' [] from h.mono fun e w' h => ⟨h.1, hA.join h.2⟩
  clear hA
  obtain ⟨rP, rR, rM, rC, rT, lP, lR, lM, lC, lT⟩ := h1
  have hB := (At.start w).alloc (.cells #[.slice aP nP cP, .slice aR nR cR, .slice aM nM cM, .slice aC nC cC, .slice aT nT cT] 37)
  have b0 := hB.cell 0
  have b1 := hB.cell 1
  have b2 := hB.cell 2
  have b3 := hB.cell 3
  have b4 := hB.cell 4
  have kP := rkall_any n p aP cP lP (rP.old hB)
  have kR := rkall_any n r aR cR lR (rR.old hB)
  have kM := rkall_any n m aM cM lM (rM.old hB)
  rw [eP] at kP; rw [eR] at kR; rw [eM] at kM
  rw [eP] at lP; rw [eR] at lR; rw [eM] at lM; rw [eC] at lC; rw [eT] at lT
  unfold maxLen at *
  have hr : Mod.right ⟨p, r, m, c, ts.map toTab⟩ n = (Mod.tys p n && Mod.tys r n && Mod.tys m n && decide (nC ≠ 0) && decide (nP ≤ nR) && c.all Mod.ins && ts.all (fun t => Mod.tab (toTab t)) && decide (p = r.take nP)) := by
    unfold Mod.right
    simp only
    rw [eP, eR, List.all_map]
    have : decide (c ≠ []) = decide (nC ≠ 0) := by rw [← eC]; cases c <;> simp
    rw [this]; rfl
  rw [hr]
  clear hr
  obtain ⟨res, hres⟩ : ∃ res, res = (Mod.tys p n && Mod.tys r n && Mod.tys m n && decide (nC ≠ 0) && decide (nP ≤ nR) && c.all Mod.ins && ts.all (fun t => Mod.tab (toTab t)) && decide (p = r.take nP)) := ⟨_, rfl⟩
  rw [← hres]
  have HRES := Lib.hid hres; clear hres
  generalize Mod.tys p n = b_p at *
  generalize Mod.tys r n = b_r at *
  generalize Mod.tys m n = b_m at *
  have KP := Lib.hid kP; clear kP
  have KR := Lib.hid kR; clear kR
  have KM := Lib.hid kM; clear kM
  have EP := Lib.hid eP; clear eP
  have ER := Lib.hid eR; clear eR
  have EC := Lib.hid eC; clear eC
  have ET := Lib.hid eT; clear eT eM
  cases b_p with
  | false =>
    go_enter Try.func51, Try.ntmps51
    go_wp2_with (first
      | (go_at_call 73; with_reducible refine KP.out.mono ?_; rintro e w3 ⟨rfl, rfl⟩)
      | (go_at_call 73; with_reducible refine KR.out.mono ?_; rintro e w3 ⟨rfl, rfl⟩)
      | (go_at_call 73; with_reducible refine KM.out.mono ?_; rintro e w3 ⟨rfl, rfl⟩))
    go_returns
    exact ⟨ret_bool (by rw [HRES.out]; simp), hB.drop⟩
  | true =>
  cases b_r with
  | false =>
    go_enter Try.func51, Try.ntmps51
    go_wp2_with (first
      | (go_at_call 73; with_reducible refine KP.out.mono ?_; rintro e w3 ⟨rfl, rfl⟩)
      | (go_at_call 73; with_reducible refine KR.out.mono ?_; rintro e w3 ⟨rfl, rfl⟩)
      | (go_at_call 73; with_reducible refine KM.out.mono ?_; rintro e w3 ⟨rfl, rfl⟩))
    go_returns
    exact ⟨ret_bool (by rw [HRES.out]; simp), hB.drop⟩
  | true =>
  cases b_m with
  | false =>
    go_enter Try.func51, Try.ntmps51
    go_wp2_with (first
      | (go_at_call 73; with_reducible refine KP.out.mono ?_; rintro e w3 ⟨rfl, rfl⟩)
      | (go_at_call 73; with_reducible refine KR.out.mono ?_; rintro e w3 ⟨rfl, rfl⟩)
      | (go_at_call 73; with_reducible refine KM.out.mono ?_; rintro e w3 ⟨rfl, rfl⟩))
    go_returns
    exact ⟨ret_bool (by rw [HRES.out]; simp), hB.drop⟩
  | true =>
  by_cases g1 : nP ≤ nR
  case neg =>
    have T1 : decide ((nR : Int) < (nP : Int)) = true := decide_eq_true (by omega)
    have G1 := Lib.hid g1; clear g1
    go_enter Try.func51, Try.ntmps51
    go_wp2_with (first
      | (go_at_call 73; with_reducible refine KP.out.mono ?_; rintro e w3 ⟨rfl, rfl⟩)
      | (go_at_call 73; with_reducible refine KR.out.mono ?_; rintro e w3 ⟨rfl, rfl⟩)
      | (go_at_call 73; with_reducible refine KM.out.mono ?_; rintro e w3 ⟨rfl, rfl⟩))
    go_returns
    exact ⟨ret_bool (by rw [HRES.out]; simp [G1.out]), hB.drop⟩
  have T1 : decide ((nR : Int) < (nP : Int)) = false := decide_eq_false (by omega)
  have T1' : decide (nR < nP) = false := decide_eq_false (by omega)
  have G1 := Lib.hid g1
  by_cases g2 : nC = 0
  case pos =>
    have T2 : ((nC : Int) == 0) = true := by simp [g2]
    have G2 := Lib.hid g2; clear g2
    go_enter Try.func51, Try.ntmps51
    go_wp2_with (first
      | (go_at_call 73; with_reducible refine KP.out.mono ?_; rintro e w3 ⟨rfl, rfl⟩)
      | (go_at_call 73; with_reducible refine KR.out.mono ?_; rintro e w3 ⟨rfl, rfl⟩)
      | (go_at_call 73; with_reducible refine KM.out.mono ?_; rintro e w3 ⟨rfl, rfl⟩))
    go_returns
    exact ⟨ret_bool (by rw [HRES.out]; simp [G2.out]), hB.drop⟩
  have T2 : ((nC : Int) == 0) = false := by simp [g2]
  have G2 := Lib.hid g2; clear g2
  go_enter Try.func51, Try.ntmps51
  go_wp2_with (first
    | (go_at_call 73; with_reducible refine KP.out.mono ?_; rintro e w3 ⟨rfl, rfl⟩)
    | (go_at_call 73; with_reducible refine KR.out.mono ?_; rintro e w3 ⟨rfl, rfl⟩)
    | (go_at_call 73; with_reducible refine KM.out.mono ?_; rintro e w3 ⟨rfl, rfl⟩))
  go_loopw [5] (fun i wr => WpRel w (.cells #[.slice aP nP cP, .slice aR nR cR, .slice aM nM cM, .slice aC nC cC, .slice aT nT cT] 37 (0, 0)) p r nP i wr) (fun i _ => nP - (intOf i).toNat)
  case atStart => exact ⟨0, rfl, by omega, rfl, hB⟩
  case round =>
    clear hB b0 b1 b2 b3 b4 T1 T1' T2
    obtain ⟨k, rfl, hk, hx, hV⟩ := hrel
    have HX := Lib.hid hx; clear hx
    have b0 := hV.cell 0
    have b1 := hV.cell 1
    have b3 := hV.cell 3
    by_cases hlt : k < nP
    · have hlt1 : k < p.length := by rw [EP.out]; exact hlt
      have hlt2 : k < r.length := by rw [ER.out]; omega
      have i2 : k < nR := by omega
      obtain ⟨b, off, rfl, hc⟩ := rP.some_ (by simp; omega)
      obtain ⟨b2, off2, rfl, hc2⟩ := rR.some_ (by simp; omega)
      have d1 := hV.oldCell (hc k (.int .i64 p[k]) (by simp [hlt1]))
      have d3 := hV.oldCell (hc2 k (.int .i64 r[k]) (by simp [hlt2]))
      clear hc hc2
      have HD1 := Lib.hid (List.take_succ_eq_append_getElem hlt1)
      have HD2 := Lib.hid (List.take_succ_eq_append_getElem hlt2)
      have hg1 : p[k]? = some p[k] := List.getElem?_eq_getElem hlt1
      have hg2 : r[k]? = some r[k] := List.getElem?_eq_getElem hlt2
      obtain ⟨x, hx⟩ : ∃ x, x = p[k] := ⟨_, rfl⟩
      obtain ⟨y, hy⟩ : ∃ y, y = r[k] := ⟨_, rfl⟩
      rw [← hx] at d1 HD1 hg1
      rw [← hy] at d3 HD2 hg2
      have HG1 := Lib.hid hg1
      have HG2 := Lib.hid hg2
      clear hx hy hlt1 hlt2 hg1 hg2
      by_cases e1 : x = y
      · subst e1
        go_wp2
        go_quiet (fail)
        go_wp2
        go_roundw
        case rel => exact ⟨k + 1, by go_num, by omega, by rw [HD1.out, HD2.out, HX.out], hV.drewN _⟩
        case measure => simp [intOf]; omega
      · have T1 : (x != y) = true := by simp [e1]
        have E1 := Lib.hid e1; clear e1
        go_wp2
        go_quiet (fail)
        go_wp2
        go_returns
        refine ⟨ret_bool ?_, (hV.drewN _).drop⟩
        have hne : p ≠ r.take nP := by
          intro e
          have h1 := HG1.out
          rw [e, List.getElem?_take, if_pos hlt, HG2.out] at h1
          injection h1 with h1
          exact E1.out h1.symm
        rw [HRES.out, decide_eq_false hne, Bool.and_false]
    · have hkl : nP = k := by omega
      have hpr : decide (p = r.take nP) = true := by
        apply decide_eq_true
        have := HX.out
        rw [← hkl, List.take_of_length_le (by rw [EP.out]; exact Nat.le_refl _)] at this
        exact this
      rw [hpr] at HRES
      subst hkl
      clear HX hlt hk
      go_wp2
      go_loopw [6] (fun i wr => WlRel Mod.ins w (.cells #[.slice aP nP cP, .slice aR nR cR, .slice aM nM cM, .slice aC nC cC, .slice aT nT cT] 37 (0, 0)) c nC i wr) (fun i _ => nC - (intOf i).toNat)
      case atStart => exact ⟨0, rfl, by omega, rfl, hV⟩
      case round =>
        clear hV b0 b1 b3
        obtain ⟨j, rfl, hj, hx, hV⟩ := hrel
        have HX := Lib.hid hx; clear hx
        have b3 := hV.cell 3
        have b4 := hV.cell 4
        by_cases hlt : j < nC
        · have hlt1 : j < c.length := by rw [EC.out]; exact hlt
          obtain ⟨x1, x2⟩ := pvs_get .i64 .i64 c j hlt1
          obtain ⟨b, off, rfl, hc⟩ := rC.some_ (by rw [pvs_len]; omega)
          have d0 := hV.oldCell (hc _ _ x1)
          have d1 := hV.oldCell (hc _ _ x2)
          rw [← Nat.add_assoc] at d1
          have HD := Lib.hid (show c.drop j = c[j] :: c.drop (j + 1) from List.drop_eq_getElem_cons hlt1)
          clear hc x1 x2
          generalize c[j] = x at *
          obtain ⟨op, arg⟩ := x
          simp only at d0 d1
          have hri := rright_any op arg hV
          cases he : Instr.right op arg with
          | false =>
            rw [he] at hri
            have HRI := Lib.hid hri; clear hri
            have HE := Lib.hid he; clear he
            go_wp2_with (go_at_call 71; with_reducible refine HRI.out.mono ?_; rintro e w3 ⟨rfl, hU⟩)
            go_returns
            exact ⟨ret_bool (by rw [HRES.out, HX.out, HD.out, List.all_cons]; simp [Mod.ins, HE.out]), hU.drop⟩
          | true =>
            rw [he] at hri
            have HRI := Lib.hid hri; clear hri
            have HE := Lib.hid he; clear he
            go_wp2_with (go_at_call 71; with_reducible refine HRI.out.mono ?_; rintro e w3 ⟨rfl, hU⟩)
            go_roundw
            case rel => exact ⟨j + 1, by go_num, by omega, by rw [HX.out, HD.out, List.all_cons]; simp [Mod.ins, HE.out], hU⟩
            case measure => simp [intOf]; omega
        · have hjc : nC = j := by omega
          have hall : c.all Mod.ins = true := by rw [HX.out, List.drop_of_length_le (by rw [EC.out]; omega)]; rfl
          rw [hall] at HRES
          subst hjc
          clear HX hlt hj hall
          go_wp2
          go_loopw [7] (fun i wr => WlRel (fun t => Mod.tab (toTab t)) w (.cells #[.slice aP nP cP, .slice aR nR cR, .slice aM nM cM, .slice aC nC cC, .slice aT nT cT] 37 (0, 0)) ts nT i wr) (fun i _ => nT - (intOf i).toNat)
          case atStart => exact ⟨0, rfl, by omega, rfl, hV⟩
          case round =>
            clear hV b3 b4
            obtain ⟨j, rfl, hj, hx, hV⟩ := hrel
            have HX := Lib.hid hx; clear hx
            have b4 := hV.cell 4
            by_cases hlt : j < nT
            · have hlt1 : j < ts.length := by rw [ET.out]; exact hlt
              have HD := Lib.hid (show ts.drop j = ts[j] :: ts.drop (j + 1) from List.drop_eq_getElem_cons hlt1)
              obtain ⟨b, off, rfl⟩ : ∃ b off, aT = some ⟨b, off, none⟩ := by
                rcases rT with rfl | ⟨b, off, e, _⟩
                · simp at hlt1
                · exact ⟨b, off, e⟩
              obtain ⟨a1, c1, d0, d1, r1, m1, q1, q2⟩ := table_at rT j hlt1
              unfold maxLen at m1
              generalize ts[j] = t at *
              obtain ⟨x, y, _⟩ := t
              simp only at d0 d1 r1 m1 q1 q2
              have d0 := hV.oldCell d0
              have d1 := hV.oldCell d1
              have HTB := Lib.hid (show Mod.tab (toTab (x, y, ())) = ((x.map toP).all Mod.clause && (decide (y = -1) || Mod.place y 200)) from rfl)
              have hxl : (x.map toP).length = x.length := by simp
              generalize x.map toP = X at *
              generalize x.length = nx at *
              have HXL := Lib.hid hxl; clear hxl
              have hE := hV.alloc (.cells #[.slice a1 nx c1, .int .i64 y] 74)
              have e0 := hE.cell 0
              have e1 := hE.cell 1
              by_cases y1 : y < -1
              · have T1 : decide (y < -1) = true := decide_eq_true y1
                have hbad : (decide (y = -1) || Mod.place y 200) = false := by simp [Mod.place]; omega
                rw [hbad] at HTB
                clear hbad
                go_wp2
                go_returns
                exact ⟨ret_bool (by rw [HRES.out, HX.out, HD.out, List.all_cons, HTB.out]; simp), hE.drop.drop⟩
              · have T1 : decide (y < -1) = false := decide_eq_false y1
                by_cases y2 : 200 ≤ y
                · have T2 : decide (200 ≤ y) = true := decide_eq_true y2
                  have hbad : (decide (y = -1) || Mod.place y 200) = false := by simp [Mod.place]; omega
                  rw [hbad] at HTB
                  clear hbad
                  go_wp2
                  go_returns
                  exact ⟨ret_bool (by rw [HRES.out, HX.out, HD.out, List.all_cons, HTB.out]; simp), hE.drop.drop⟩
                · have T2 : decide (200 ≤ y) = false := decide_eq_false y2
                  have hgood : (decide (y = -1) || Mod.place y 200) = true := by simp [Mod.place]; omega
                  rw [hgood, Bool.and_true] at HTB
                  clear hgood
                  obtain ⟨bt, hbt⟩ : ∃ bt, bt = wr.heap.size := ⟨_, rfl⟩
                  go_wp2
                  rw [← hbt] at hE ⊢
                  clear hbt e0 e1
                  go_loopw [9] (fun i wr => WcRel w (.cells #[.slice aP nP cP, .slice aR nR cR, .slice aM nM cM, .slice aC nC cC, .slice (some ⟨b, off, none⟩) nT cT] 37 (0, 0)) bt (.cells #[.slice a1 nx c1, .int .i64 y] 74 (0, 0)) X nx i wr) (fun i _ => nx - (intOf i).toNat)
                  case atStart => exact ⟨0, rfl, by omega, rfl, hE⟩
                  case round =>
                    clear hE
                    obtain ⟨i, rfl, hi, hx, hE⟩ := hrel
                    have HX2 := Lib.hid hx; clear hx
                    have e0 := hE.cell 0
                    by_cases hlt : i < nx
                    · have hlt2 : i < X.length := by rw [HXL.out]; exact hlt
                      have HD2 := Lib.hid (show X.drop i = X[i] :: X.drop (i + 1) from List.drop_eq_getElem_cons hlt2)
                      obtain ⟨x1, x2⟩ := pvs_get .i64 .i64 X i hlt2
                      obtain ⟨b, off, rfl, hc⟩ := r1.some_ (by rw [pvs_len]; omega)
                      have d0 := hE.oldCell (hc _ _ x1)
                      have d1 := hE.oldCell (hc _ _ x2)
                      rw [← Nat.add_assoc] at d1
                      clear hc x1 x2
                      generalize X[i] = x at *
                      obtain ⟨tag, to⟩ := x
                      simp only at d0 d1
                      have hF := hE.alloc (.cells #[.int .i64 tag, .int .i64 to] 77)
                      have f0 := hF.cell 0
                      have f1 := hF.cell 1
                      by_cases hc : Mod.clause (tag, to) = true
                      · have hc' := hc
                        simp only [Mod.clause, Mod.place, Bool.and_eq_true, decide_eq_true_eq] at hc'
                        have A1 : decide (tag < 0) = false := decide_eq_false (by omega)
                        have A2 : decide (8 ≤ tag) = false := decide_eq_false (by omega)
                        have A3 : decide (to < 0) = false := decide_eq_false (by omega)
                        have A4 : decide (200 ≤ to) = false := decide_eq_false (by omega)
                        have HC := Lib.hid hc; clear hc hc'
                        go_wp2
                        go_roundw
                        case rel => exact ⟨i + 1, by go_num, by omega, by rw [HX2.out, HD2.out, List.all_cons, HC.out, Bool.true_and], hF.drop⟩
                        case measure => simp [intOf]; omega
                      · have hc1 : Mod.clause (tag, to) = false := by simpa using hc
                        have hc' : tag < 0 ∨ (¬ tag < 0 ∧ 8 ≤ tag) ∨ (¬ tag < 0 ∧ ¬ 8 ≤ tag ∧ to < 0) ∨ (¬ tag < 0 ∧ ¬ 8 ≤ tag ∧ ¬ to < 0 ∧ 200 ≤ to) := by
                          simp only [Mod.clause, Mod.place, Bool.and_eq_true, decide_eq_true_eq] at hc
                          omega
                        have HC := Lib.hid hc1; clear hc hc1
                        have hfin : false = res := by rw [HRES.out, HX.out, HD.out, List.all_cons, HTB.out, HX2.out, HD2.out, List.all_cons, HC.out]; simp
                        have HFIN := Lib.hid hfin; clear hfin
                        rcases hc' with k1 | ⟨k1, k2⟩ | ⟨k1, k2, k3⟩ | ⟨k1, k2, k3, k4⟩
                        · have A1 : decide (tag < 0) = true := decide_eq_true k1
                          go_wp2
                          go_returns
                          exact ⟨ret_bool HFIN.out, hF.drop.drop.drop⟩
                        · have A1 : decide (tag < 0) = false := decide_eq_false k1
                          have A2 : decide (8 ≤ tag) = true := decide_eq_true k2
                          go_wp2
                          go_returns
                          exact ⟨ret_bool HFIN.out, hF.drop.drop.drop⟩
                        · have A1 : decide (tag < 0) = false := decide_eq_false k1
                          have A2 : decide (8 ≤ tag) = false := decide_eq_false k2
                          have A3 : decide (to < 0) = true := decide_eq_true k3
                          go_wp2
                          go_returns
                          exact ⟨ret_bool HFIN.out, hF.drop.drop.drop⟩
                        · have A1 : decide (tag < 0) = false := decide_eq_false k1
                          have A2 : decide (8 ≤ tag) = false := decide_eq_false k2
                          have A3 : decide (to < 0) = false := decide_eq_false k3
                          have A4 : decide (200 ≤ to) = true := decide_eq_true k4
                          go_wp2
                          go_returns
                          exact ⟨ret_bool HFIN.out, hF.drop.drop.drop⟩
                    · have hin : nx = i := by omega
                      have HALL := Lib.hid (show X.all Mod.clause = true by rw [HX2.out, List.drop_of_length_le (by rw [HXL.out]; omega)]; rfl)
                      subst hin
                      go_wp2
                      go_roundw
                      case rel => exact ⟨j + 1, by go_num, by omega, by rw [HX.out, HD.out, List.all_cons, HTB.out, HALL.out, Bool.true_and], hE.drop⟩
                      case measure => simp [intOf]; omega
            · have hjt : nT = j := by omega
              have hall : ts.all (fun t => Mod.tab (toTab t)) = true := by rw [HX.out, List.drop_of_length_le (by rw [ET.out]; omega)]; rfl
              rw [hall] at HRES
              subst hjt
              clear HX hlt hj hall
              go_wp2
              go_returns
              exact ⟨ret_bool (by rw [HRES.out]; simp [G1.out, G2.out]), hV.drop⟩
end
end Go.Proofs.Ytebolbjbfnolpab
