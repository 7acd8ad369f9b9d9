/-
  The contract of module.all at module.little.
-/
import Derived.Test.YtebolbjbfnolpabModJ
namespace Go.Proofs.Ytebolbjbfnolpab
open Go.RowKit HP

section
variable {w0 w : World} {L : List HP}

def actLittle (a : ActD) : Bool := Mod.little (toAct a)
def AllRel (p : ActD → Bool) (w : World) (l : List ActD) (n : Nat) (i : Value) (wr : World) : Prop :=
  ∃ k : Nat, i = .int .i64 k ∧ k ≤ n ∧ l.all p = (l.drop k).all p ∧ At w wr []

set_option maxHeartbeats 2000000 in
theorem allL_any (l : List ActD) (ao : Option Addr) (n cap : Nat) (hn : l.length = n) (hm : n ≤ maxLen) (hrd : Kn.At_ kActor w ao l) (hA : At w0 w L) :
    Calls Try.prog 43 #[.slice ao n cap, .func (.func 44) #[] #[]] w fun e w' => e = .returned (.bool (l.all actLittle)) ∧ At w0 w' L := by
  suffices h : Calls Try.prog 43 #[.slice ao n cap, .func (.func 44) #[] #[]] w fun e w' => e = .returned (.bool (l.all actLittle)) ∧ At w w' [] from h.mono fun e w' h => ⟨h.1, hA.join h.2⟩
  clear hA
  unfold maxLen at hm
  have HN := Lib.hid hn; clear hn
  go_enter Try.func43, Try.ntmps43
  go_wp2
  go_loopw [9] (fun i wr => AllRel actLittle w l n i wr) (fun i _ => n - (intOf i).toNat)
  case atStart => exact ⟨0, rfl, by omega, rfl, At.start w⟩
  case round =>
    obtain ⟨k, rfl, hk, hx, hW⟩ := hrel
    have HX := Lib.hid hx; clear hx
    by_cases hlt : k < n
    · have hlt1 : k < l.length := by rw [HN.out]; exact hlt
      have HD := Lib.hid (show l.drop k = l[k] :: l.drop (k + 1) from List.drop_eq_getElem_cons hlt1)
      obtain ⟨b, off, rfl⟩ : ∃ b off, ao = some ⟨b, off, none⟩ := by
        rcases hrd with rfl | ⟨b, off, e, _⟩
        · simp at hlt1
        · exact ⟨b, off, e⟩
      obtain ⟨aP, cP, aR, cR, aM, cM, aC, cC, aT, cT, ⟨d0, d1, d2, d3, d4⟩, ⟨_, _, _, _, rT⟩, _, _, _, _, _, hT⟩ := actor_at hrd k hlt1
      obtain ⟨p, r, m, c, ts, hx⟩ : ∃ p r m c ts, l[k] = (p, r, m, c, ts, ()) := ⟨_, _, _, _, _, rfl⟩
      rw [hx] at d0 d1 d2 d3 d4 rT hT HD
      simp only at d0 d1 d2 d3 d4 rT hT
      clear hx
      have d0 := hW.oldCell d0
      have d1 := hW.oldCell d1
      have d2 := hW.oldCell d2
      have d3 := hW.oldCell d3
      have d4 := hW.oldCell d4
      have hcl := fun w2 (h : At w w2 []) (h2 : Kn.At_ kTable w2 aT ts) => little_any p r m (c.map toP) ts aP aR aM aC aT p.length r.length m.length c.length ts.length cP cR cM cC cT rfl rfl rfl (by simp) rfl hT h2 h
      have e1 : actLittle (p, r, m, c, ts, ()) = Mod.little ⟨p, r, m, c.map toP, ts.map toTab⟩ := rfl
      rw [← e1] at hcl
      have hB := hW.alloc (.cells #[.slice aP p.length cP, .slice aR r.length cR, .slice aM m.length cM, .slice aC c.length cC, .slice aT ts.length cT] 37)
      have b0 := hB.cell 0
      have b1 := hB.cell 1
      have b2 := hB.cell 2
      have b3 := hB.cell 3
      have b4 := hB.cell 4
      cases he : actLittle (p, r, m, c, ts, ()) with
      | false =>
        rw [he] at hcl
        have HC := Lib.hid hcl; clear hcl
        have HE := Lib.hid he; clear he e1
        go_wp2_with (go_at_call 44; refine (HC.out _ hB.drop (Kn.At_.mv hB.below rT)).mono ?_; rintro e w' ⟨rfl, hV⟩)
        go_returns
        exact ⟨ret_bool (by rw [HX.out, HD.out]; simp [HE.out]), hV⟩
      | true =>
        rw [he] at hcl
        have HC := Lib.hid hcl; clear hcl
        have HE := Lib.hid he; clear he e1
        go_wp2_with (go_at_call 44; refine (HC.out _ hB.drop (Kn.At_.mv hB.below rT)).mono ?_; rintro e w' ⟨rfl, hV⟩)
        go_roundw
        case rel => exact ⟨k + 1, by go_num, by omega, by rw [HX.out, HD.out]; simp [HE.out], hV⟩
        case measure => simp [intOf]; omega
    · have hkl : k = n := by omega
      have hall : l.all actLittle = true := by rw [HX.out, List.drop_of_length_le (by rw [HN.out]; omega)]; rfl
      have HL := Lib.hid hall; clear hall
      subst hkl
      go_wp2
      go_returns
      exact ⟨ret_bool HL.out.symm, hW⟩
end
end Go.Proofs.Ytebolbjbfnolpab
