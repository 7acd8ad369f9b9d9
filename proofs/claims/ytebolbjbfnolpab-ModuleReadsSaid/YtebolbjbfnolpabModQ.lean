/-
  The module's writer: an actor.
-/
import Derived.Test.YtebolbjbfnolpabModP
namespace Go.Proofs.Ytebolbjbfnolpab
open Go.RowKit HP
open Go.Proofs.Ytebolbjbfnolpab.Mod

/-- numbers that a table names are none below 0 -/
def Pos (ts : List TabD) : Prop := ∀ t ∈ ts, ∀ c ∈ t.1.map toP, 0 ≤ c.1 ∧ c.1 ≤ 300 ∧ 0 ≤ c.2 ∧ c.2 ≤ 300

section
variable {w0 w : World} {L : List HP} {a : Nat} {W : Reel.W}

set_option maxRecDepth 100000 in
set_option maxHeartbeats 8000000 in
theorem wactor_any (p r m : List Int) (c : List (Int × Int)) (ts : List TabD) (aP aR aM aC aT : Option Addr) (cP cR cM cC cT : Nat) (nP nR nM nC nT : Nat)
    (eP : p.length = nP) (eR : r.length = nR) (eM : m.length = nM) (eC : c.length = nC) (eT : ts.length = nT)
    (hc2 : ∀ i ∈ c, -9223372036854775808 ≤ i.2 ∧ i.2 ≤ 9223372036854775807) (hpos : Pos ts)
    (h1 : ActAt w0 p r m c ts aP aR aM aC aT) (hf : Fit W) (hA : At w0 w (WriterC a W :: L)) :
    Calls Try.prog 29 #[.agg #[.pointer (some ⟨a, 0, none⟩)], .agg #[.slice aP nP cP, .slice aR nR cR, .slice aM nM cM, .slice aC nC cC, .slice aT nT cT]] w fun e w' =>
      e = .returned (.tuple #[]) ∧ At w0 w' (WriterC a (wact W ⟨p, r, m, c, ts.map toTab⟩) :: L) := by
  obtain ⟨rP, rR, rM, rC, rT, lP, lR, lM, lC, lT⟩ := h1
  rw [eP] at lP; rw [eR] at lR; rw [eM] at lM; rw [eC] at lC; rw [eT] at lT
  unfold maxLen at lC lT
  have hB := ((hA.alloc (.cells #[.pointer (some ⟨a, 0, none⟩)] 64)).alloc (.cells #[.slice aP nP cP, .slice aR nR cR, .slice aM nM cM, .slice aC nC cC, .slice aT nT cT] 37)).pick3
  rw [World.size_alloc] at hB
  have c0 := hB.pick3.cell 0
  have d0 := hB.pick2.cell 0
  have hcP := fun (w : World) (L : List HP) (h : At w0 w (WriterC a W :: L)) => wtypes_any p aP nP cP eP lP rP hf h
  have hcR := fun (w : World) (L : List HP) (h : At w0 w (WriterC a (wtypes W p) :: L)) => wtypes_any r aR nR cR eR lR rR (hf.types p) h
  have hcM := fun (w : World) (L : List HP) (h : At w0 w (WriterC a (wtypes (wtypes W p) r) :: L)) => wtypes_any m aM nM cM eM lM rM ((hf.types p).types r) h
  have hcC := fun (w : World) (L : List HP) (h : At w0 w (WriterC a (wtypes (wtypes (wtypes W p) r) m) :: L)) => wcount_any nC (by omega) (((hf.types p).types r).types m) h
  have f3 := ((hf.types p).types r).types m
  have hwa : wact W ⟨p, r, m, c, ts.map toTab⟩ = ts.foldl (fun W t => wtab W (toTab t)) ((wcode (wtypes (wtypes (wtypes W p) r) m) c).num nT) := by
    rw [wact, List.foldl_map, List.length_map, eT]
  rw [hwa]
  clear hwa eP eR eM rP rR rM
  have HCP := Lib.hid hcP; clear hcP
  have HCR := Lib.hid hcR; clear hcR
  have HCM := Lib.hid hcM; clear hcM
  generalize wtypes (wtypes (wtypes W p) r) m = W3 at *
  have HCC := Lib.hid hcC; clear hcC
  have F3 := Lib.hid f3; clear f3 hf
  have HC2 := Lib.hid hc2; clear hc2
  have HPOS := Lib.hid hpos; clear hpos
  have EC := Lib.hid eC; clear eC
  have ET := Lib.hid eT; clear eT
  obtain ⟨bw, hbw⟩ : ∃ bw, bw = w.heap.size := ⟨_, rfl⟩
  go_enter Try.func29, Try.ntmps29
  go_wp2_with (first
    | (go_at_call 55; with_reducible refine (HCP.out _ _ hB).mono ?_; rintro e w3 ⟨rfl, hV1⟩; have c1 := hV1.pick3.cell 0; have d1 := hV1.pick2.cell 1)
    | (go_at_call 55; with_reducible refine (HCR.out _ _ hV1).mono ?_; rintro e w4 ⟨rfl, hV2⟩; have c2 := hV2.pick3.cell 0; have d2 := hV2.pick2.cell 2)
    | (go_at_call 55; with_reducible refine (HCM.out _ _ hV2).mono ?_; rintro e w5 ⟨rfl, hV3⟩; have c3 := hV3.pick3.cell 0; have d3 := hV3.pick2.cell 3)
    | (go_at_call 28; with_reducible refine (HCC.out _ _ hV3).mono ?_; rintro e w6 ⟨rfl, hV⟩; have c4 := hV.pick3.cell 0; have d4 := hV.pick2.cell 3))
  rw [← hbw] at hV ⊢
  clear hbw HCP HCR HCM HCC hV1 hV2 hV3 hB c0 d0 c1 d1 c2 d2 c3 d3 c4 d4
  generalize hM : HP.one (bw + 1) (.cells #[.slice aP nP cP, .slice aR nR cR, .slice aM nM cM, .slice aC nC cC, .slice aT nT cT] 37 (0, 0)) = BA at *
  generalize hN : HP.one bw (.cells #[.pointer (some ⟨a, 0, none⟩)] 64 (0, 0)) = BW at *
  have HM := Lib.hid hM; clear hM
  have HN := Lib.hid hN; clear hN
  have hac : ∀ (w : World) (V : Reel.W) (L : List HP), At w0 w (WriterC a V :: BA :: BW :: L) → w.cell? ⟨bw, 0, none⟩ = some (.pointer (some ⟨a, 0, none⟩)) ∧ w.cell? ⟨bw + 1, 3, none⟩ = some (.slice aC nC cC) ∧ w.cell? ⟨bw + 1, 4, none⟩ = some (.slice aT nT cT) := by
    intro w V L h
    rw [← HM.out, ← HN.out] at h
    exact ⟨h.pick3.cell 0, h.pick2.cell 3, h.pick2.cell 4⟩
  have HAC := Lib.hid hac; clear hac
  go_loopw [30] (fun i wr => WtRel wins c (W3.num nC) w0 a (BA :: BW :: L) nC i wr) (fun i _ => nC - (intOf i).toNat)
  case atStart => exact ⟨0, rfl, by omega, hV⟩
  case round =>
    clear hV
    obtain ⟨k, rfl, hk, hV⟩ := hrel
    by_cases hlt : k < nC
    · have hlt1 : k < c.length := by rw [EC.out]; exact hlt
      have HS := Lib.hid (foldl_take_succ wins (W3.num nC) c k hlt1)
      obtain ⟨x1, x2⟩ := pvs_get .i64 .i64 c k hlt1
      have hb2 := HC2.out _ (List.getElem_mem hlt1)
      obtain ⟨b, off, rfl, hc⟩ := rC.some_ (by rw [pvs_len]; omega)
      have d0 := hV.oldCell (hc _ _ x1)
      have d1 := hV.oldCell (hc _ _ x2)
      rw [← Nat.add_assoc] at d1
      have hft : Fit ((c.take k).foldl wins (W3.num nC)) := Fit.fold (fun _ x h => h.instr x.1 x.2) _ _ (F3.out.num _)
      generalize (c.take k).foldl wins (W3.num nC) = V at *
      generalize c[k] = x at *
      obtain ⟨op, arg⟩ := x
      simp only at d0 d1 hb2
      obtain ⟨q1, q2⟩ := hb2
      clear hc x1 x2
      have hE := (hV.alloc (.cells #[.int .i64 op, .int .i64 arg] 32)).pick2
      obtain ⟨g1, g2, g3⟩ := HAC.out _ _ _ (hE.pick2.drop)
      have e0 := hE.pick2.cell 0
      have hcb := wbyte_any op hE hft.b1' hft.h0 hft.b2
      have hci := fun (w : World) (L : List HP) (h : At w0 w (WriterC a (V.byte op) :: L)) => wint_any arg q1 q2 h (hft.byte op).b1' (hft.byte op).h0 (hft.byte op).b2
      have HB := Lib.hid hcb; clear hcb
      have HI := Lib.hid hci; clear hci
      cases hh : Instr.has op with
      | false =>
        have HH := Lib.hid hh; clear hh
        have HS2 := Lib.hid (show wins V (op, arg) = V.byte op by simp only [wins, Reel.W.instr]; rw [HH.out]; rfl)
        go_wp2_with (first
          | (go_at_call 27; with_reducible refine HB.out.mono ?_; rintro e w3 ⟨rfl, hU⟩; have e0 := hU.pick2.cell 0; have e1 := hU.pick2.cell 1; obtain ⟨u1, u2, u3⟩ := HAC.out _ _ _ (hU.pick2.drop))
          | (go_at_call 40; refine (has_any _).mono ?_; rw [HH.out]; rintro e w' ⟨rfl, rfl⟩))
        go_roundw
        case rel => exact ⟨k + 1, by go_num, by omega, by rw [HS.out, HS2.out]; exact hU.pick2.drop⟩
        case measure => simp [intOf]; omega
      | true =>
        have HH := Lib.hid hh; clear hh
        have HS2 := Lib.hid (show wins V (op, arg) = (V.byte op).int arg by simp only [wins, Reel.W.instr]; rw [HH.out]; rfl)
        go_wp2_with (first
          | (go_at_call 27; with_reducible refine HB.out.mono ?_; rintro e w3 ⟨rfl, hU⟩; have e0 := hU.pick2.cell 0; have e1 := hU.pick2.cell 1; obtain ⟨u1, u2, u3⟩ := HAC.out _ _ _ (hU.pick2.drop))
          | (go_at_call 40; refine (has_any _).mono ?_; rw [HH.out]; rintro e w' ⟨rfl, rfl⟩)
          | (go_at_call 56; with_reducible refine (HI.out _ _ hU).mono ?_; rintro e w4 ⟨rfl, hU2⟩))
        go_roundw
        case rel => exact ⟨k + 1, by go_num, by omega, by rw [HS.out, HS2.out]; exact hU2.pick2.drop⟩
        case measure => simp [intOf]; omega
    · have hkl : k = nC := by omega
      subst hkl
      have hT : (c.take k).foldl wins (W3.num k) = wcode W3 c := by rw [wcode, EC.out, List.take_of_length_le (by rw [EC.out]; exact Nat.le_refl _)]
      rw [hT] at hV
      have hf4 : Fit (wcode W3 c) := F3.out.code c
      clear hT rC hlt hk F3 HC2
      obtain ⟨W4, hW4⟩ : ∃ W4, W4 = wcode W3 c := ⟨_, rfl⟩
      rw [← hW4] at hV hf4
      have HW4 := Lib.hid hW4; clear hW4
      obtain ⟨g1, g2, g3⟩ := HAC.out _ _ _ hV
      have hcn := wcount_any nT (by omega) hf4 hV
      have HCN := Lib.hid hcn; clear hcn
      go_wp2_with (first
        | (go_at_call 28; with_reducible refine HCN.out.mono ?_; rintro e w6 ⟨rfl, hV4⟩; obtain ⟨u1, u2, u3⟩ := HAC.out _ _ _ hV4))
      clear hV g1 g2 g3 HCN
      have hf5 : Fit (W4.num nT) := hf4.num _
      have HF5 := Lib.hid hf5; clear hf5 hf4
      go_loopw [56] (fun i wr => WtRel (fun W t => wtab W (toTab t)) ts (W4.num nT) w0 a (BA :: BW :: L) nT i wr) (fun i _ => nT - (intOf i).toNat)
      case atStart => exact ⟨0, rfl, by omega, hV4⟩
      case round =>
        clear hV4 u1 u2 u3
        obtain ⟨j, rfl, hj, hV⟩ := hrel
        by_cases hlt : j < nT
        · have hlt1 : j < ts.length := by rw [ET.out]; exact hlt
          have HS := Lib.hid (foldl_take_succ (fun W t => wtab W (toTab t)) (W4.num nT) ts j hlt1)
          obtain ⟨b, off, rfl⟩ : ∃ b off, aT = some ⟨b, off, none⟩ := by
            rcases rT with rfl | ⟨b, off, e, _⟩
            · simp at hlt1
            · exact ⟨b, off, e⟩
          obtain ⟨a1, c1, d0, d1, r1, m1, q1, q2⟩ := table_at rT j hlt1
          have hp := HPOS.out _ (List.getElem_mem hlt1)
          have hft : Fit ((ts.take j).foldl (fun W t => wtab W (toTab t)) (W4.num nT)) := Fit.fold (fun _ x h => h.tab _) _ _ HF5.out
          generalize (ts.take j).foldl (fun W t => wtab W (toTab t)) (W4.num nT) = V at *
          generalize ts[j] = t at *
          obtain ⟨x, y, _⟩ := t
          simp only at d0 d1 r1 m1 q1 q2 hp
          have d0 := hV.oldCell d0
          have d1 := hV.oldCell d1
          have hxl : (x.map toP).length = x.length := by simp
          have HS2 := Lib.hid (show wtab V (toTab (x, y, ())) = ((x.map toP).foldl wclause (V.num x.length)).int y by rw [← hxl]; rfl)
          generalize x.map toP = X at *
          generalize x.length = nx at *
          have HXL := Lib.hid hxl; clear hxl
          unfold maxLen at m1
          have hE := (hV.alloc (.cells #[.slice a1 nx c1, .int .i64 y] 74)).pick2
          obtain ⟨g1, g2, g3⟩ := HAC.out _ _ _ (hE.pick2.drop)
          have e0 := hE.pick2.cell 0
          have hcn := wcount_any nx (by omega) hft hE
          have HCN := Lib.hid hcn; clear hcn
          have HFT := Lib.hid hft; clear hft
          have HP_ := Lib.hid hp; clear hp
          go_wp2_with (first
            | (go_at_call 28; with_reducible refine HCN.out.mono ?_; rintro e w6 ⟨rfl, hV5⟩; obtain ⟨u1, u2, u3⟩ := HAC.out _ _ _ hV5.pick2.drop; have v0 := hV5.pick2.cell 0))
          obtain ⟨bt, hbt⟩ : ∃ bt, bt = wr.heap.size := ⟨_, rfl⟩
          rw [← hbt] at hV5 ⊢
          clear hbt HCN hE e0 g1 g2 g3 hV d0 d1 v0
          go_loopw [68] (fun i wr => WtRel wclause X (V.num nx) w0 a (HP.one bt (.cells #[.slice a1 nx c1, .int .i64 y] 74 (0, 0)) :: BA :: BW :: L) nx i wr) (fun i _ => nx - (intOf i).toNat)
          case atStart => exact ⟨0, rfl, by omega, hV5⟩
          case round =>
            clear hV5 u1 u2 u3
            obtain ⟨i, rfl, hi, hV⟩ := hrel
            by_cases hlt : i < nx
            · have hlt2 : i < X.length := by rw [HXL.out]; exact hlt
              have HS := Lib.hid (foldl_take_succ wclause (V.num nx) X i hlt2)
              obtain ⟨x1, x2⟩ := pvs_get .i64 .i64 X i hlt2
              have hb2 := HP_.out _ (List.getElem_mem hlt2)
              obtain ⟨b, off, rfl, hc⟩ := r1.some_ (by rw [pvs_len]; omega)
              have d0 := hV.oldCell (hc _ _ x1)
              have d1 := hV.oldCell (hc _ _ x2)
              rw [← Nat.add_assoc] at d1
              have hft : Fit ((X.take i).foldl wclause (V.num nx)) := Fit.fold (fun _ x h => h.clause x) _ _ (HFT.out.num _)
              generalize (X.take i).foldl wclause (V.num nx) = U at *
              generalize X[i] = x at *
              obtain ⟨tag, to⟩ := x
              simp only at d0 d1 hb2
              obtain ⟨q3, q4, q5, q6⟩ := hb2
              obtain ⟨tag, rfl⟩ := Int.eq_ofNat_of_zero_le q3
              obtain ⟨to, rfl⟩ := Int.eq_ofNat_of_zero_le q5
              clear hc x1 x2
              have hE := (hV.alloc (.cells #[.int .i64 tag, .int .i64 to] 77)).pick2
              obtain ⟨g1, g2, g3⟩ := HAC.out _ _ _ (hE.pick2.drop.pick2.drop)
              have e0 := hE.pick2.cell 0
              have hcn := wcount_any tag (by omega) hft hE
              have hcn2 := fun (w : World) (L : List HP) (h : At w0 w (WriterC a (U.num tag) :: L)) => wcount_any to (by omega) (hft.num _) h
              have HCN := Lib.hid hcn; clear hcn
              have HCN2 := Lib.hid hcn2; clear hcn2 hft
              go_wp2_with (first
                | (go_at_call 28; with_reducible refine HCN.out.mono ?_; rintro e w6 ⟨rfl, hV6⟩; obtain ⟨u1, u2, u3⟩ := HAC.out _ _ _ (hV6.pick2.drop.pick2.drop); have v1 := hV6.pick2.cell 1)
                | (go_at_call 28; with_reducible refine (HCN2.out _ _ hV6).mono ?_; rintro e w7 ⟨rfl, hV7⟩))
              go_roundw
              case rel => exact ⟨i + 1, by go_num, by omega, by rw [HS.out]; exact hV7.pick2.drop⟩
              case measure => simp [intOf]; omega
            · have hkl : i = nx := by omega
              subst hkl
              have hT : (X.take i).foldl wclause (V.num i) = X.foldl wclause (V.num i) := by rw [List.take_of_length_le (by rw [HXL.out]; exact Nat.le_refl _)]
              rw [hT] at hV
              have hft : Fit (X.foldl wclause (V.num i)) := Fit.fold (fun _ x h => h.clause x) _ _ (HFT.out.num _)
              generalize X.foldl wclause (V.num i) = U at *
              clear hT
              obtain ⟨g1, g2, g3⟩ := HAC.out _ _ _ (hV.pick2.drop)
              have e1 := hV.pick2.cell 1
              have hci := wint_any y q1 q2 hV hft.b1' hft.h0 hft.b2
              have HI := Lib.hid hci; clear hci hft
              go_wp2_with (first
                | (go_at_call 56; with_reducible refine HI.out.mono ?_; rintro e w4 ⟨rfl, hU2⟩))
              go_roundw
              case rel => exact ⟨j + 1, by go_num, by omega, by rw [HS.out, HS2.out]; exact hU2.pick2.drop⟩
              case measure => simp [intOf]; omega
        · have hkl : j = nT := by omega
          subst hkl
          have hT : (ts.take j).foldl (fun W t => wtab W (toTab t)) (W4.num j) = ts.foldl (fun W t => wtab W (toTab t)) (W4.num j) := by rw [List.take_of_length_le (by rw [ET.out]; exact Nat.le_refl _)]
          rw [hT] at hV
          go_wp2
          go_returns
          refine ⟨rfl, ?_⟩
          rw [← HM.out, ← HN.out, HW4.out] at hV
          exact hV.pick3.drop.pick2.drop
end
end Go.Proofs.Ytebolbjbfnolpab
