/-
  The reference's parts of a module: types, much.
-/
import Derived.Test.YtebolbjbfnolpabModV
namespace Go.Proofs.Ytebolbjbfnolpab
open Go.RowKit HP
open Go.Proofs.Ytebolbjbfnolpab.Mod

section
variable {w0 w : World} {L : List HP} {a : Nat} {W : Reel.W}

theorem Mod.Fit.b3 {W : Reel.W} (h : Fit W) : W.room + W.out.length ≤ 9223372036854775807 := by have := h.h1; omega
theorem Mod.Fit.b4 {W : Reel.W} (h : Fit W) : W.out.length ≤ 140737488355318 := by have := h.b1; omega

def MuRel (w : World) (o : Obj) (ts : List TabD) (n : Nat) (i : Value) (wr : World) : Prop :=
  ∃ k : Nat, i = .int .i64 k ∧ k ≤ n ∧ ts.all tabShort = (ts.drop k).all tabShort ∧ At w wr [HP.one w.heap.size o]

set_option maxRecDepth 100000 in
set_option maxHeartbeats 4000000 in
theorem much_any (p r m : List Int) (c : List (Int × Int)) (ts : List TabD) (aP aR aM aC aT : Option Addr) (cP cR cM cC cT : Nat) (nP nR nM nC nT : Nat)
    (eP : p.length = nP) (eR : r.length = nR) (eM : m.length = nM) (eC : c.length = nC) (eT : ts.length = nT) (h1 : ActAt w p r m c ts aP aR aM aC aT) (hA : At w0 w L) :
    Calls Try.prog 50 #[.agg #[.slice aP nP cP, .slice aR nR cR, .slice aM nM cM, .slice aC nC cC, .slice aT nT cT]] w fun e w' =>
      e = .returned (.bool (!Mod.little ⟨p, r, m, c, ts.map toTab⟩)) ∧ At w0 w' L := by
  suffices h : Calls Try.prog 50 #[.agg #[.slice aP nP cP, .slice aR nR cR, .slice aM nM cM, .slice aC nC cC, .slice aT nT cT]] w fun e w' =>
      e = .returned (.bool (!Mod.little ⟨p, r, m, c, ts.map toTab⟩)) ∧ At w w' [] from h.mono fun e w' h => ⟨h.1, hA.join h.2⟩
  clear hA
  obtain ⟨_, _, _, _, rT, lP, lR, lM, lC, lT⟩ := h1
  rw [eP] at lP; rw [eR] at lR; rw [eM] at lM; rw [eC] at lC; rw [eT] at lT
  unfold maxLen at *
  have hB := (At.start w).alloc (.cells #[.slice aP nP cP, .slice aR nR cR, .slice aM nM cM, .slice aC nC cC, .slice aT nT cT] 37)
  have b4 := hB.cell 4
  have hlit : (!Mod.little ⟨p, r, m, c, ts.map toTab⟩) = !(ts.all tabShort && decide (nP ≤ 4) && decide (nR ≤ 16) && decide (nM ≤ 8) && decide (nC ≤ 200) && decide (nT ≤ 8)) := by
    unfold Mod.little
    simp only
    rw [tabShort_all, List.length_map, eP, eR, eM, eC, eT]
  rw [hlit]
  clear hlit eP eR eM eC
  have HT := Lib.hid eT; clear eT
  obtain ⟨res, hres⟩ : ∃ res, res = !(ts.all tabShort && decide (nP ≤ 4) && decide (nR ≤ 16) && decide (nM ≤ 8) && decide (nC ≤ 200) && decide (nT ≤ 8)) := ⟨_, rfl⟩
  rw [← hres]
  have HRES := Lib.hid hres; clear hres
  go_enter Try.func50, Try.ntmps50
  go_wp2
  go_loopw [3] (fun i wr => MuRel w (.cells #[.slice aP nP cP, .slice aR nR cR, .slice aM nM cM, .slice aC nC cC, .slice aT nT cT] 37 (0, 0)) ts nT i wr) (fun i _ => nT - (intOf i).toNat)
  case atStart => exact ⟨0, rfl, by omega, rfl, hB⟩
  case round =>
    clear hB b4
    obtain ⟨k, rfl, hk, hx, hV⟩ := hrel
    have HX := Lib.hid hx; clear hx
    have b0 := hV.cell 0
    have b1 := hV.cell 1
    have b2 := hV.cell 2
    have b3 := hV.cell 3
    have b4 := hV.cell 4
    by_cases hlt : k < nT
    · have hlt1 : k < ts.length := by rw [HT.out]; exact hlt
      have HD := Lib.hid (show ts.drop k = ts[k] :: ts.drop (k + 1) from List.drop_eq_getElem_cons hlt1)
      obtain ⟨b, off, rfl⟩ : ∃ b off, aT = some ⟨b, off, none⟩ := by
        rcases rT with rfl | ⟨b, off, e, _⟩
        · simp at hlt1
        · exact ⟨b, off, e⟩
      obtain ⟨a1, c1, d0, d1, r1, m1, q1, q2⟩ := table_at rT k hlt1
      unfold maxLen at m1
      generalize ts[k] = t at *
      obtain ⟨x, y, _⟩ := t
      simp only at d0 m1
      have d0 := hV.oldCell d0
      clear d1 r1 q1 q2
      have HSH := Lib.hid (show tabShort (x, y, ()) = decide (x.length ≤ 8) from rfl)
      generalize x.length = nx at *
      by_cases h8 : nx ≤ 8
      · have T : decide ((8 : Int) < (nx : Int)) = false := decide_eq_false (by omega)
        have H8 := Lib.hid h8; clear h8
        go_wp2
        go_roundw
        case rel => exact ⟨k + 1, by go_num, by omega, by rw [HX.out, HD.out, List.all_cons, HSH.out]; simp [H8.out], hV⟩
        case measure => simp [intOf]; omega
      · have T : decide ((8 : Int) < (nx : Int)) = true := decide_eq_true (by omega)
        have H8 := Lib.hid h8; clear h8
        go_wp2
        go_returns
        exact ⟨ret_bool (by rw [HRES.out, HX.out, HD.out, List.all_cons, HSH.out]; simp [H8.out]), hV.drop⟩
    · have hkl : k = nT := by omega
      have hall : ts.all tabShort = true := by rw [HX.out, List.drop_of_length_le (by rw [HT.out]; omega)]; rfl
      have HL := Lib.hid hall; clear hall
      subst hkl
      clear HX hlt hk
      by_cases g0 : nP ≤ 4
      case neg =>
        have T0 : decide ((4 : Int) < (nP : Int)) = true := decide_eq_true (by omega)
        have G0 := Lib.hid g0; clear g0
        go_wp2
        go_returns
        exact ⟨ret_bool (by rw [HRES.out]; simp [G0.out]), hV.drop⟩
      have T0 : decide ((4 : Int) < (nP : Int)) = false := decide_eq_false (by omega)
      have G0 := Lib.hid g0; clear g0
      by_cases g1 : nR ≤ 16
      case neg =>
        have T1 : decide ((16 : Int) < (nR : Int)) = true := decide_eq_true (by omega)
        have G1 := Lib.hid g1; clear g1
        go_wp2
        go_returns
        exact ⟨ret_bool (by rw [HRES.out]; simp [G1.out]), hV.drop⟩
      have T1 : decide ((16 : Int) < (nR : Int)) = false := decide_eq_false (by omega)
      have G1 := Lib.hid g1; clear g1
      by_cases g2 : nM ≤ 8
      case neg =>
        have T2 : decide ((8 : Int) < (nM : Int)) = true := decide_eq_true (by omega)
        have G2 := Lib.hid g2; clear g2
        go_wp2
        go_returns
        exact ⟨ret_bool (by rw [HRES.out]; simp [G2.out]), hV.drop⟩
      have T2 : decide ((8 : Int) < (nM : Int)) = false := decide_eq_false (by omega)
      have G2 := Lib.hid g2; clear g2
      by_cases g3 : nC ≤ 200
      case neg =>
        have T3 : decide ((200 : Int) < (nC : Int)) = true := decide_eq_true (by omega)
        have G3 := Lib.hid g3; clear g3
        go_wp2
        go_returns
        exact ⟨ret_bool (by rw [HRES.out]; simp [G3.out]), hV.drop⟩
      have T3 : decide ((200 : Int) < (nC : Int)) = false := decide_eq_false (by omega)
      have G3 := Lib.hid g3; clear g3
      go_wp2
      go_returns
      exact ⟨ret_bool (by rw [HRES.out, HL.out]; simp [G0.out, G1.out, G2.out, G3.out]; first | done | (by_cases g : k ≤ 8 <;> simp [g] <;> omega)), hV.drop⟩
end
end Go.Proofs.Ytebolbjbfnolpab
