/-
  The reference's Right.
-/
import Derived.Test.YtebolbjbfnolpabModX
namespace Go.Proofs.Ytebolbjbfnolpab
open Go.RowKit HP
open Go.Proofs.Ytebolbjbfnolpab.Mod

section
variable {w0 w : World} {L : List HP}

def RrRel (q : ActD → Bool) (w : World) (o : Obj) (l : List ActD) (n : Nat) (i : Value) (wr : World) : Prop :=
  ∃ k : Nat, i = .int .i64 k ∧ k ≤ n ∧ l.all q = (l.drop k).all q ∧ At w wr [HP.one w.heap.size o]

set_option maxRecDepth 100000 in
set_option maxHeartbeats 8000000 in
theorem refRight_any (l : List ActD) (ao : Option Addr) (n cap : Nat) (hn : l.length = n) (hm : n ≤ maxLen) (hrd : Kn.At_ kActor w ao l) (hA : At w0 w L) :
    Calls Try.prog 23 #[.agg #[.slice ao n cap]] w fun e w' => e = .returned (.int .i64 (Mod.err (l.map toAct))) ∧ At w0 w' L := by
  suffices h : Calls Try.prog 23 #[.agg #[.slice ao n cap]] w fun e w' => e = .returned (.int .i64 (Mod.err (l.map toAct))) ∧ At w w' [] from h.mono fun e w' h => ⟨h.1, hA.join h.2⟩
  clear hA
  unfold maxLen at hm
  have hB := (At.start w).alloc (.cells #[.slice ao n cap] 25)
  have b0 := hB.cell 0
  have herr : Mod.err (l.map toAct) = if 8 < n ∨ l.all actLittle = false then 3 else if n = 0 ∨ 0 < (l.head?.map (fun a => a.1.length)).getD 0 ∨ l.all (actRight n) = false then 4 else 0 := by
    unfold Mod.err
    rw [actLittle_all, actRight_all, List.length_map, hn]
    cases l <;> rfl
  obtain ⟨res, hres⟩ : ∃ res, res = Mod.err (l.map toAct) := ⟨_, rfl⟩
  rw [← hres] at herr ⊢
  clear hres
  have HN := Lib.hid hn; clear hn
  by_cases h8 : 8 < n
  · have s8 : decide ((8 : Int) < (n : Int)) = true := by simp; omega
    rw [if_pos (.inl h8)] at herr
    subst herr
    go_enter Try.func23, Try.ntmps23
    go_wp2
    go_returns
    exact ⟨rfl, hB.drop⟩
  · have s8 : decide ((8 : Int) < (n : Int)) = false := by simp; omega
    have HERR := Lib.hid herr; clear herr
    have H8 := Lib.hid h8
    go_enter Try.func23, Try.ntmps23
    go_wp2
    go_loopw [3] (fun i wr => RrRel actLittle w (.cells #[.slice ao n cap] 25 (0, 0)) l n i wr) (fun i _ => n - (intOf i).toNat)
    case atStart => exact ⟨0, rfl, by omega, rfl, hB⟩
    case round =>
      clear hB b0
      obtain ⟨k, rfl, hk, hx, hV⟩ := hrel
      have HX := Lib.hid hx; clear hx
      have b0 := hV.cell 0
      by_cases hlt : k < n
      · have hlt1 : k < l.length := by rw [HN.out]; exact hlt
        have HD := Lib.hid (show l.drop k = l[k] :: l.drop (k + 1) from List.drop_eq_getElem_cons hlt1)
        obtain ⟨b, off, rfl⟩ : ∃ b off, ao = some ⟨b, off, none⟩ := by
          rcases hrd with rfl | ⟨b, off, e, _⟩
          · simp at hlt1
          · exact ⟨b, off, e⟩
        obtain ⟨aP, cP, aR, cR, aM, cM, aC, cC, aT, cT, ⟨d0, d1, d2, d3, d4⟩, gA⟩ := actor_at2 hrd k hlt1
        generalize l[k] = x at *
        obtain ⟨p, r, m, c, ts, _⟩ := x
        simp only at d0 d1 d2 d3 d4 gA
        have d0 := hV.oldCell d0
        have d1 := hV.oldCell d1
        have d2 := hV.oldCell d2
        have d3 := hV.oldCell d3
        have d4 := hV.oldCell d4
        have hcl := much_any p r m (c.map toP) ts aP aR aM aC aT cP cR cM cC cT p.length r.length m.length c.length ts.length rfl rfl rfl (by simp) rfl (gA.old hV) hV
        have e1 : actLittle (p, r, m, c, ts, ()) = Mod.little ⟨p, r, m, c.map toP, ts.map toTab⟩ := rfl
        rw [← e1] at hcl
        clear e1 gA
        cases he : actLittle (p, r, m, c, ts, ()) with
        | false =>
          rw [he] at hcl
          have HC := Lib.hid hcl; clear hcl
          have HE := Lib.hid he; clear he
          go_wp2_with (go_at_call 50; with_reducible refine HC.out.mono ?_; rintro e w' ⟨rfl, hU⟩)
          go_returns
          refine ⟨ret_int ?_, hU.drop⟩
          have hf : l.all actLittle = false := by rw [HX.out, HD.out]; simp [HE.out]
          rw [HERR.out, if_pos (.inr hf)]
        | true =>
          rw [he] at hcl
          have HC := Lib.hid hcl; clear hcl
          have HE := Lib.hid he; clear he
          go_wp2_with (go_at_call 50; with_reducible refine HC.out.mono ?_; rintro e w' ⟨rfl, hU⟩)
          go_roundw
          case rel => exact ⟨k + 1, by go_num, by omega, by rw [HX.out, HD.out]; simp [HE.out], hU⟩
          case measure => simp [intOf]; omega
      · have hkn : n = k := by omega
        have hall : l.all actLittle = true := by rw [HX.out, List.drop_of_length_le (by rw [HN.out]; omega)]; rfl
        have he := HERR.out
        rw [if_neg (by rw [hall]; have := H8.out; simp; omega)] at he
        have HERR2 := Lib.hid he
        clear he hall HX HERR
        subst hkn
        clear hlt hk
        go_wp2
        go_loopw [4] (fun i wr => RrRel (actRight n) w (.cells #[.slice ao n cap] 25 (0, 0)) l n i wr) (fun i _ => n - (intOf i).toNat)
        case atStart => exact ⟨0, rfl, by omega, rfl, hV⟩
        case round =>
          clear hV b0
          obtain ⟨k, rfl, hk, hx, hV⟩ := hrel
          have HX := Lib.hid hx; clear hx
          have b0 := hV.cell 0
          by_cases hlt : k < n
          · have hlt1 : k < l.length := by rw [HN.out]; exact hlt
            have HD := Lib.hid (show l.drop k = l[k] :: l.drop (k + 1) from List.drop_eq_getElem_cons hlt1)
            obtain ⟨b, off, rfl⟩ : ∃ b off, ao = some ⟨b, off, none⟩ := by
              rcases hrd with rfl | ⟨b, off, e, _⟩
              · simp at hlt1
              · exact ⟨b, off, e⟩
            obtain ⟨aP, cP, aR, cR, aM, cM, aC, cC, aT, cT, ⟨d0, d1, d2, d3, d4⟩, gA⟩ := actor_at2 hrd k hlt1
            generalize l[k] = x at *
            obtain ⟨p, r, m, c, ts, _⟩ := x
            simp only at d0 d1 d2 d3 d4 gA
            have d0 := hV.drew.oldCell d0
            have d1 := hV.drew.oldCell d1
            have d2 := hV.drew.oldCell d2
            have d3 := hV.drew.oldCell d3
            have d4 := hV.drew.oldCell d4
            have c0 := hV.drew.cell 0
            have hcl := well_any p r m (c.map toP) ts n aP aR aM aC aT cP cR cM cC cT p.length r.length m.length c.length ts.length rfl rfl rfl (by simp) rfl (gA.old hV.drew) hV.drew
            have e1 : actRight n (p, r, m, c, ts, ()) = Mod.right ⟨p, r, m, c.map toP, ts.map toTab⟩ n := rfl
            rw [← e1] at hcl
            clear e1 gA
            cases he : actRight n (p, r, m, c, ts, ()) with
            | false =>
              rw [he] at hcl
              have HC := Lib.hid hcl; clear hcl
              have HE := Lib.hid he; clear he
              go_wp2
              go_region_law (rw [if_pos (by rfl)]; go_simp; go_at_call 51; with_reducible refine HC.out.mono ?_; rintro e w' ⟨rfl, hU⟩; dsimp only)
              all_goals
                go_wp2
                go_returns
                refine ⟨ret_int ?_, hU.drop⟩
                have hf : l.all (actRight n) = false := by rw [HX.out, HD.out]; simp [HE.out]
                rw [HERR2.out, if_pos (.inr (.inr hf))]
            | true =>
              rw [he] at hcl
              have HC := Lib.hid hcl; clear hcl
              have HE := Lib.hid he; clear he
              go_wp2
              go_region_law (rw [if_pos (by rfl)]; go_simp; go_at_call 51; with_reducible refine HC.out.mono ?_; rintro e w' ⟨rfl, hU⟩; dsimp only)
              all_goals
                go_wp2
                go_roundw
              all_goals first
                | exact ⟨k + 1, by go_num, by omega, by rw [HX.out, HD.out]; simp [HE.out], hU⟩
                | (simp [intOf]; omega)
          · have hkn : n = k := by omega
            have hall : l.all (actRight n) = true := by rw [HX.out, List.drop_of_length_le (by rw [HN.out]; omega)]; rfl
            have he := HERR2.out
            rw [hall] at he
            have HERR3 := Lib.hid he
            clear he hall HX HERR2
            subst hkn
            clear hlt hk
            by_cases h0 : n = 0
            · have he := HERR3.out
              rw [if_pos (.inl h0)] at he
              have s0 : ((n : Int) == 0) = true := by simp [h0]
              have HRS := Lib.hid he
              clear h0 he HERR3 HN
              go_wp2
              go_returns
              exact ⟨ret_int HRS.out.symm, hV.drop⟩
            · have s0 : ((n : Int) == 0) = false := by simp [h0]
              have hl0 : 0 < l.length := by rw [HN.out]; omega
              obtain ⟨b, off, rfl⟩ : ∃ b off, ao = some ⟨b, off, none⟩ := by
                rcases hrd with rfl | ⟨b, off, e, _⟩
                · simp at hl0
                · exact ⟨b, off, e⟩
              obtain ⟨aP, cP, aR, cR, aM, cM, aC, cC, aT, cT, ⟨d0, _⟩, _⟩ := actor_at2 hrd 0 hl0
              have d0 := hV.oldCell d0
              have hh : l.head? = some l[0] := by rw [List.head?_eq_getElem?, List.getElem?_eq_getElem hl0]
              have he := HERR3.out
              rw [hh] at he
              simp only [Option.map_some, Option.getD_some] at he
              clear hh HERR3 HN
              generalize l[0] = x at *
              obtain ⟨p, _⟩ := x
              simp only at d0 he
              rw [Nat.zero_mul, Nat.add_zero] at d0
              have i0 : 0 < n := by omega
              obtain ⟨np, hnp⟩ : ∃ np, np = p.length := ⟨_, rfl⟩
              rw [← hnp] at d0
              by_cases hp : 0 < np
              · have s1 : decide ((0 : Int) < (np : Int)) = true := decide_eq_true (by omega)
                rw [if_pos (.inr (.inl (by rw [← hnp]; exact hp)))] at he
                have HRS := Lib.hid he
                clear h0 he hnp
                go_wp2
                go_returns
                exact ⟨ret_int HRS.out.symm, hV.drop⟩
              · have s1 : decide ((0 : Int) < (np : Int)) = false := decide_eq_false (by omega)
                rw [if_neg (by rw [not_or, not_or]; exact ⟨h0, by rw [← hnp]; exact hp, by decide⟩)] at he
                have HRS := Lib.hid he
                clear h0 he hnp
                go_wp2
                go_returns
                exact ⟨ret_int HRS.out.symm, hV.drop⟩
end
end Go.Proofs.Ytebolbjbfnolpab
