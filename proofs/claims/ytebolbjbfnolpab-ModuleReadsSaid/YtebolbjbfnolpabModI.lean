/-
  The contract of module.little.
-/
import Derived.Test.YtebolbjbfnolpabModH
namespace Go.Proofs.Ytebolbjbfnolpab
open Go.RowKit HP

section
variable {w0 w : World} {L : List HP}

def tabShort (t : TabD) : Bool := decide (t.1.length ≤ 8)
theorem tabShort_all (l : List TabD) : ((l.map toTab).all fun t => decide (t.1.length ≤ 8)) = l.all tabShort := by
  induction l with
  | nil => rfl
  | cons x r ih =>
    simp only [List.map_cons, List.all_cons, ih]
    simp [tabShort, toTab]
def LitRel (w : World) (o : Obj) (ts : List TabD) (n : Nat) (i : Value) (wr : World) : Prop :=
  ∃ k : Nat, i = .int .i64 k ∧ k ≤ n ∧ ts.all tabShort = (ts.drop k).all tabShort ∧ At w wr [one w.heap.size o]

set_option maxHeartbeats 2000000 in
theorem little_any (p r m : List Int) (c : List (Int × Int)) (ts : List TabD) (aP aR aM aC aT : Option Addr) (nP nR nM nC nT cP cR cM cC cT : Nat)
    (eP : p.length = nP) (eR : r.length = nR) (eM : m.length = nM) (eC : c.length = nC) (eT : ts.length = nT) (hT : nT ≤ maxLen)
    (rT : Kn.At_ kTable w aT ts) (hA : At w0 w L) :
    Calls Try.prog 44 #[.agg #[.slice aP nP cP, .slice aR nR cR, .slice aM nM cM, .slice aC nC cC, .slice aT nT cT]] w fun e w' =>
      e = .returned (.bool (Mod.little ⟨p, r, m, c, ts.map toTab⟩)) ∧ At w0 w' L := by
  suffices h : Calls Try.prog 44 #[.agg #[.slice aP nP cP, .slice aR nR cR, .slice aM nM cM, .slice aC nC cC, .slice aT nT cT]] w fun e w' =>
      e = .returned (.bool (Mod.little ⟨p, r, m, c, ts.map toTab⟩)) ∧ At w w' [] from h.mono fun e w' h => ⟨h.1, hA.join h.2⟩
  clear hA
  unfold maxLen at hT
  have hB := (At.start w).alloc (.cells #[.slice aP nP cP, .slice aR nR cR, .slice aM nM cM, .slice aC nC cC, .slice aT nT cT] 37)
  have b4 := hB.cell 4
  have hlit : Mod.little ⟨p, r, m, c, ts.map toTab⟩ = (ts.all tabShort && decide (nP ≤ 4) && decide (nR ≤ 16) && decide (nM ≤ 8) && decide (nC ≤ 200) && decide (nT ≤ 8)) := by
    rw [← tabShort_all, ← eP, ← eR, ← eM, ← eC, ← eT]; simp [Mod.little]
  rw [hlit]
  clear hlit eP eR eM eC
  have HN := Lib.hid eT; clear eT
  go_enter Try.func44, Try.ntmps44
  go_wp2
  go_loopw [8] (fun i wr => LitRel w (.cells #[.slice aP nP cP, .slice aR nR cR, .slice aM nM cM, .slice aC nC cC, .slice aT nT cT] 37) ts nT i wr) (fun i _ => nT - (intOf i).toNat)
  case atStart => exact ⟨0, rfl, by omega, rfl, hB⟩
  case round =>
    obtain ⟨k, rfl, hk, hx, hW⟩ := hrel
    have HX := Lib.hid hx; clear hx
    have d0 := hW.cell 0
    have d1 := hW.cell 1
    have d2 := hW.cell 2
    have d3 := hW.cell 3
    have d4 := hW.cell 4
    by_cases hlt : k < nT
    · have hlt1 : k < ts.length := by rw [HN.out]; exact hlt
      obtain ⟨b, off, rfl⟩ : ∃ b off, aT = some ⟨b, off, none⟩ := by
        rcases rT with rfl | ⟨b, off, e, _⟩
        · simp at hlt1
        · exact ⟨b, off, e⟩
      have HD := Lib.hid (show ts.drop k = ts[k] :: ts.drop (k + 1) from List.drop_eq_getElem_cons hlt1)
      obtain ⟨x, y, hxy⟩ : ∃ x y, ts[k] = (x, y, ()) := ⟨_, _, rfl⟩
      obtain ⟨ao1, cap1, g0, g1, hr1, hm1, _⟩ := table_at rT k hlt1
      rw [hxy] at g0 g1 hm1 HD
      clear hr1
      simp only at g0 g1 hm1
      have g0 := hW.oldCell g0
      have g1 := hW.oldCell g1
      obtain ⟨n, hn⟩ : ∃ n, n = x.length := ⟨_, rfl⟩
      rw [← hn] at g0 hm1
      have HLN := Lib.hid hn; clear hn
      have hW2 := hW.alloc (.cells #[.slice ao1 n cap1, .int .i64 y] 74)
      have f0 := hW2.cell 0
      unfold maxLen at hm1
      by_cases hs : n ≤ 8
      · have s8 : decide ((8 : Int) < (n : Int)) = false := by simp; omega
        have HS := Lib.hid hs; clear hs
        go_wp2
        go_roundw
        case rel => exact ⟨k + 1, by go_num, by omega, by rw [HX.out, HD.out]; simp [tabShort, ← HLN.out, HS.out], hW2.drop⟩
        case measure => simp [intOf]; omega
      · have s8 : decide ((8 : Int) < (n : Int)) = true := by simp; omega
        have HS := Lib.hid hs; clear hs
        go_wp2
        go_returns
        exact ⟨ret_bool (by rw [HX.out, HD.out]; simp [tabShort, ← HLN.out, HS.out]), hW2.drop.drop⟩
    · have hkl : k = nT := by omega
      have hall : ts.all tabShort = true := by rw [HX.out, List.drop_of_length_le (by rw [HN.out]; omega)]; rfl
      have HL := Lib.hid hall; clear hall
      subst hkl
      by_cases q : nP ≤ 4
      · have s0 : decide ((nP : Int) ≤ 4) = true := by simp; omega
        have HQ0 := Lib.hid q; clear q
        by_cases q : nR ≤ 16
        · have s1 : decide ((nR : Int) ≤ 16) = true := by simp; omega
          have HQ1 := Lib.hid q; clear q
          by_cases q : nM ≤ 8
          · have s2 : decide ((nM : Int) ≤ 8) = true := by simp; omega
            have HQ2 := Lib.hid q; clear q
            by_cases q : nC ≤ 200
            · have s3 : decide ((nC : Int) ≤ 200) = true := by simp; omega
              have HQ3 := Lib.hid q; clear q
              go_wp2
              go_returns
              exact ⟨ret_bool (by simp [HL.out, HQ0.out, HQ1.out, HQ2.out, HQ3.out]; omega), hW.drop⟩
            · have s3 : decide ((nC : Int) ≤ 200) = false := by simp; omega
              have HQ3 := Lib.hid q; clear q
              go_wp2
              go_returns
              exact ⟨ret_bool (by simp [HL.out, HQ0.out, HQ1.out, HQ2.out, HQ3.out]), hW.drop⟩
          · have s2 : decide ((nM : Int) ≤ 8) = false := by simp; omega
            have HQ2 := Lib.hid q; clear q
            go_wp2
            go_returns
            exact ⟨ret_bool (by simp [HL.out, HQ0.out, HQ1.out, HQ2.out]), hW.drop⟩
        · have s1 : decide ((nR : Int) ≤ 16) = false := by simp; omega
          have HQ1 := Lib.hid q; clear q
          go_wp2
          go_returns
          exact ⟨ret_bool (by simp [HL.out, HQ0.out, HQ1.out]), hW.drop⟩
      · have s0 : decide ((nP : Int) ≤ 4) = false := by simp; omega
        have HQ0 := Lib.hid q; clear q
        go_wp2
        go_returns
        exact ⟨ret_bool (by simp [HL.out, HQ0.out]), hW.drop⟩
end
end Go.Proofs.Ytebolbjbfnolpab
