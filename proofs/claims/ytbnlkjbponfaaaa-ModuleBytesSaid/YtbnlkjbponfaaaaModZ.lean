/-
  The reference's Bytes.
-/
import Derived.Test.YtbnlkjbponfaaaaModY
namespace Go.Proofs.Ytbnlkjbponfaaaa
open Go.RowKit HP
open Go.Proofs.Ytbnlkjbponfaaaa.Mod

theorem tys_bounds {l : List Int} {n : Int} (h : Mod.tys l n = true) : ∀ x ∈ l, -9223372036854775808 ≤ x ∧ x ≤ 9223372036854775807 := by
  intro x hx
  have := List.all_eq_true.1 h x hx
  simp only [Mod.ty, Bool.or_eq_true, Bool.and_eq_true, decide_eq_true_eq] at this
  omega
theorem right_tys {a : Mod.Act} {n : Int} (h : Mod.right a n = true) : Mod.tys a.params n = true ∧ Mod.tys a.regs n = true ∧ Mod.tys a.msgs n = true := by
  simp only [Mod.right, Bool.and_eq_true] at h
  exact ⟨h.1.1.1.1.1.1.1, h.1.1.1.1.1.1.2, h.1.1.1.1.1.2⟩
theorem code_at1 {w : World} {b off : Nat} {l : List ActD} (h : Kn.At_ kActor w (some ⟨b, off, none⟩) l) (i : Nat) (hi : i < l.length) :
    ∀ x ∈ l[i].2.2.2.1.map toP, -9223372036854775808 ≤ x.1 ∧ x.1 ≤ 9223372036854775807 := by
  rcases h with rfl | ⟨b', off', e, h⟩
  · simp at hi
  · cases e
    obtain ⟨cs, ⟨_, _, rfl, ⟨aP, cP, rfl, p1, p2, _, p3⟩, _, _, rfl, ⟨aR, cR, rfl, r1, r2, _, r3⟩, _, _, rfl, ⟨aM, cM, rfl, m1, m2, _, m3⟩, _, _, rfl, ⟨aC, cC, rfl, c1, c2, _, c3⟩, _, _, rfl, ⟨aT, cT, rfl, t1, t2, _, t3⟩, rfl⟩, hc⟩ := h i _ (List.getElem?_eq_getElem hi)
    intro x hx
    obtain ⟨y, hy, rfl⟩ := List.mem_map.1 hx
    obtain ⟨k, hk, rfl⟩ := List.mem_iff_getElem.1 hy
    exact (code_fits c3 k hk).1

section
variable {w0 w : World} {L : List HP}

set_option maxRecDepth 100000 in
set_option maxHeartbeats 16000000 in
theorem refBytes_any (l : List ActD) (ao : Option Addr) (n cap : Nat) (hn : l.length = n) (hm : n ≤ maxLen) (hrd : Kn.At_ kActor w ao l) (hA : At w0 w L) :
    Calls Try.prog 11 #[.agg #[.slice ao n cap]] w fun e w' => e = .returned (.tuple #[.string (str (Mod.bytes (l.map toAct)).1), .int .i64 (Mod.bytes (l.map toAct)).2]) ∧ At w0 w' L := by
  suffices h : Calls Try.prog 11 #[.agg #[.slice ao n cap]] w fun e w' => e = .returned (.tuple #[.string (str (Mod.bytes (l.map toAct)).1), .int .i64 (Mod.bytes (l.map toAct)).2]) ∧ At w w' [] from h.mono fun e w' h => ⟨h.1, hA.join h.2⟩
  clear hA
  have hB := (At.start w).alloc (.cells #[.slice ao n cap] 24)
  have b0 := hB.cell 0
  have hr := refRight_any l ao n cap hn hm (Kn.At_.mv hB.below hrd) hB
  by_cases he : err (l.map toAct) = 0
  · have hb : Mod.bytes (l.map toAct) = (wmod (l.map toAct)).done := if_pos he
    obtain ⟨e1, e2, e3, e4⟩ := err_right he
    rw [he] at hr
    rw [hb]
    clear hb he
    have HR := Lib.hid hr; clear hr
    have hmod : wmod (l.map toAct) = l.foldl (fun W x => wact W (toAct x)) (whead.num n) := by rw [wmod, List.foldl_map, List.length_map, hn]
    rw [hmod]
    have HN := Lib.hid hn; clear hn hmod
    rw [List.length_map, HN.out] at e1 e4
    have E4 := Lib.hid (List.all_eq_true.1 e4); clear e2 e3 e4
    have k1 := fun (w1 : World) (L : List HP) (a : Nat) (h : At w w1 (RWriterC a (Reel.new 1048576) :: L)) => rwbyte_any 67 (by decide) (by decide) h (by decide) (by decide) (by decide)
    have k2 := fun (w1 : World) (L : List HP) (a : Nat) (h : At w w1 (RWriterC a ((Reel.new 1048576).byte 67) :: L)) => rwbyte_any 66 (by decide) (by decide) h (by decide) (by decide) (by decide)
    have k3 := fun (w1 : World) (L : List HP) (a : Nat) (h : At w w1 (RWriterC a (((Reel.new 1048576).byte 67).byte 66) :: L)) => rwbyte_any 49 (by decide) (by decide) h (by decide) (by decide) (by decide)
    have k4 := fun (w1 : World) (L : List HP) (a : Nat) (h : At w w1 (RWriterC a whead :: L)) => rwnum_any n (by unfold U64; omega) h Fit.head.b4 Fit.head.h0 Fit.head.b3
    have K1 := Lib.hid k1; clear k1
    have K2 := Lib.hid k2; clear k2
    have K3 := Lib.hid k3; clear k3
    have K4 := Lib.hid k4; clear k4
    go_enter Try.func11, Try.ntmps11
    go_wp2_with (first
      | (go_at_call 13; with_reducible refine HR.out.mono ?_; rintro e w1 ⟨rfl, hV1⟩)
      | (go_at_call 24; refine (rwnew_any 1048576 hV1).mono ?_; rintro e w2 ⟨a, rfl, hV2⟩)
      | (go_at_call 25; with_reducible refine (K1.out _ _ _ hV2).mono ?_; rintro e w3 ⟨rfl, hV3⟩)
      | (go_at_call 25; with_reducible refine (K2.out _ _ _ hV3).mono ?_; rintro e w4 ⟨rfl, hV4⟩)
      | (go_at_call 25; with_reducible refine (K3.out _ _ _ hV4).mono ?_; rintro e w5 ⟨rfl, hV5⟩; have c5 := hV5.pick2.cell 0)
      | (go_at_call 26; with_reducible refine (K4.out _ _ _ hV5).mono ?_; rintro e w6 ⟨rfl, hV6⟩))
    obtain ⟨bm, hbm⟩ : ∃ bm, bm = w.heap.size := ⟨_, rfl⟩
    rw [← hbm] at hV6 ⊢
    clear hbm hV1 hV2 hV3 hV4 hV5 c5 K1 K2 K3 K4 HR hB b0
    go_loopw [6] (fun i wr => RtRel (fun W x => wact W (toAct x)) l (whead.num n) w a [HP.one bm (.cells #[.slice ao n cap] 24 (0, 0))] n i wr) (fun i _ => n - (intOf i).toNat)
    case atStart => exact ⟨0, rfl, by omega, hV6⟩
    case round =>
      clear hV6
      obtain ⟨j, rfl, hj, hV⟩ := hrel
      have b0 := hV.pick2.cell 0
      by_cases hlt : j < n
      · have hlt1 : j < l.length := by rw [HN.out]; exact hlt
        have HS := Lib.hid (foldl_take_succ (fun W x => wact W (toAct x)) (whead.num n) l j hlt1)
        obtain ⟨b, off, rfl⟩ : ∃ b off, ao = some ⟨b, off, none⟩ := by
          rcases hrd with rfl | ⟨b, off, e, _⟩
          · simp at hlt1
          · exact ⟨b, off, e⟩
        obtain ⟨aP, cP, aR, cR, aM, cM, aC, cC, aT, cT, ⟨d0, d1, d2, d3, d4⟩, gA⟩ := actor_at2 hrd j hlt1
        have hf1 := code_at1 hrd j hlt1
        have hf2 := code_at hrd j hlt1
        have hrt := E4.out (toAct l[j]) (List.mem_map_of_mem (List.getElem_mem hlt1))
        have hpos : Pos l[j].2.2.2.2.1 := fun t ht c hc => right_pos hrt (toTab t) (List.mem_map_of_mem ht) c hc
        obtain ⟨ty1, ty2, ty3⟩ := right_tys hrt
        have ty1 : Mod.tys l[j].1 n = true := ty1
        have ty2 : Mod.tys l[j].2.1 n = true := ty2
        have ty3 : Mod.tys l[j].2.2.1 n = true := ty3
        have hft : Fit ((l.take j).foldl (fun W x => wact W (toAct x)) (whead.num n)) := Fit.fold (fun _ x h => h.act _) _ _ (Fit.head.num _)
        clear hrt
        generalize (l.take j).foldl (fun W x => wact W (toAct x)) (whead.num n) = V at *
        generalize l[j] = x at *
        obtain ⟨p, r, m, c, ts, _⟩ := x
        simp only at d0 d1 d2 d3 d4 gA hf1 hf2 hpos ty1 ty2 ty3
        have d0 := hV.oldCell d0
        have d1 := hV.oldCell d1
        have d2 := hV.oldCell d2
        have d3 := hV.oldCell d3
        have d4 := hV.oldCell d4
        obtain ⟨rP, rR, rM, rC, rT, lP, lR, lM, lC, lT⟩ := gA
        have q1 := hft.types p
        have q2 := q1.types r
        have q3 := q2.types m
        have kP := fun (w1 : World) (L : List HP) (h : At w w1 (RWriterC a V :: L)) => rtypes_any p aP p.length cP rfl lP (tys_bounds ty1) rP hft h
        have kR := fun (w1 : World) (L : List HP) (h : At w w1 (RWriterC a (wtypes V p) :: L)) => rtypes_any r aR r.length cR rfl lR (tys_bounds ty2) rR q1 h
        have kM := fun (w1 : World) (L : List HP) (h : At w w1 (RWriterC a (wtypes (wtypes V p) r) :: L)) => rtypes_any m aM m.length cM rfl lM (tys_bounds ty3) rM q2 h
        have HWA := Lib.hid (show wact V (toAct (p, r, m, c, ts, ())) = ts.foldl (fun W t => wtab W (toTab t)) ((wcode (wtypes (wtypes (wtypes V p) r) m) (c.map toP)).num ts.length) by
          rw [toAct, wact, List.foldl_map, List.length_map])
        have hcl : (c.map toP).length = c.length := by simp
        rw [hcl] at lC
        generalize p.length = nP at *
        generalize r.length = nR at *
        generalize m.length = nM at *
        generalize c.map toP = C at *
        generalize c.length = nC at *
        obtain ⟨nT, hnT⟩ : ∃ nT, nT = ts.length := ⟨_, rfl⟩
        rw [← hnT] at lT d4 HWA
        have ET := Lib.hid hnT.symm; clear hnT
        have EC := Lib.hid hcl; clear hcl
        generalize wtypes (wtypes (wtypes V p) r) m = W3 at *
        unfold maxLen at *
        have kN := fun (w1 : World) (L : List HP) (h : At w w1 (RWriterC a W3 :: L)) => rwnum_any nC (by unfold U64; omega) h q3.b4 q3.h0 q3.b3
        have KP := Lib.hid kP; clear kP
        have KR := Lib.hid kR; clear kR
        have KM := Lib.hid kM; clear kM
        have KN := Lib.hid kN; clear kN
        have F3 := Lib.hid q3; clear q1 q2 q3 hft
        have HF1 := Lib.hid hf1; clear hf1
        have HF2 := Lib.hid hf2; clear hf2
        have HPOS := Lib.hid hpos; clear hpos ty1 ty2 ty3
        clear rP rR rM
        have hE := (hV.alloc (.cells #[.slice aP nP cP, .slice aR nR cR, .slice aM nM cM, .slice aC nC cC, .slice aT nT cT] 48)).pick2
        have c0 := hE.pick2.cell 0
        obtain ⟨ba, hba⟩ : ∃ ba, ba = wr.heap.size := ⟨_, rfl⟩
        go_wp2_with (first
          | (go_at_call 27; with_reducible refine (KP.out _ _ hE).mono ?_; rintro e w3 ⟨rfl, hV1⟩; have c1 := hV1.pick2.cell 1)
          | (go_at_call 27; with_reducible refine (KR.out _ _ hV1).mono ?_; rintro e w4 ⟨rfl, hV2⟩; have c2 := hV2.pick2.cell 2)
          | (go_at_call 27; with_reducible refine (KM.out _ _ hV2).mono ?_; rintro e w5 ⟨rfl, hV3⟩; have c3 := hV3.pick2.cell 3)
          | (go_at_call 26; with_reducible refine (KN.out _ _ hV3).mono ?_; rintro e w6 ⟨rfl, hV4⟩))
        rw [← hba] at hV4 ⊢
        clear hba hE c0 hV1 c1 hV2 c2 hV3 c3 KP KR KM KN hV b0
        generalize hM : HP.one ba (.cells #[.slice aP nP cP, .slice aR nR cR, .slice aM nM cM, .slice aC nC cC, .slice aT nT cT] 48 (0, 0)) = BA at *
        have HM := Lib.hid hM; clear hM
        generalize hN2 : HP.one bm (.cells #[.slice (some ⟨b, off, none⟩) n cap] 24 (0, 0)) = BM at *
        have HN2 := Lib.hid hN2; clear hN2
        have hac : ∀ (w1 : World) (V : Reel.W) (L : List HP), At w w1 (RWriterC a V :: BA :: BM :: L) → w1.cell? ⟨ba, 3, none⟩ = some (.slice aC nC cC) ∧ w1.cell? ⟨ba, 4, none⟩ = some (.slice aT nT cT) := by
          intro w1 V L h
          rw [← HM.out] at h
          exact ⟨h.pick2.cell 3, h.pick2.cell 4⟩
        have HAC := Lib.hid hac; clear hac d0 d1 d2 d3 d4
        go_loopw [8] (fun i wr => RtRel wins C (W3.num nC) w a [BA, BM] nC i wr) (fun i _ => nC - (intOf i).toNat)
        case atStart => exact ⟨0, rfl, by omega, hV4⟩
        case round =>
          clear hV4
          obtain ⟨k, rfl, hk, hV⟩ := hrel
          obtain ⟨g3, g4⟩ := HAC.out _ _ _ hV
          by_cases hlt : k < nC
          · have hlt2 : k < C.length := by rw [EC.out]; exact hlt
            have HS2 := Lib.hid (foldl_take_succ wins (W3.num nC) C k hlt2)
            obtain ⟨x1, x2⟩ := pvs_get .i64 .i64 C k hlt2
            have y1 := HF1.out _ (List.getElem_mem hlt2)
            have y2 := HF2.out _ (List.getElem_mem hlt2)
            obtain ⟨b2, off2, rfl, hc⟩ := rC.some_ (by rw [pvs_len]; omega)
            have d0 := hV.oldCell (hc _ _ x1)
            have d1 := hV.oldCell (hc _ _ x2)
            rw [← Nat.add_assoc] at d1
            have hft : Fit ((C.take k).foldl wins (W3.num nC)) := Fit.fold (fun _ x h => h.instr x.1 x.2) _ _ (F3.out.num _)
            generalize (C.take k).foldl wins (W3.num nC) = U at *
            generalize C[k] = x at *
            obtain ⟨op, arg⟩ := x
            simp only at d0 d1 y1 y2
            clear hc x1 x2
            have hcp := rput_any op arg y1.1 y1.2 y2.1 y2.2 hV hft.b1 hft.h0 hft.b3
            have HCP := Lib.hid hcp; clear hcp hft
            go_wp2_with (go_at_call 28; with_reducible refine HCP.out.mono ?_; rintro e w3 ⟨rfl, hU⟩)
            go_roundw
            case rel => exact ⟨k + 1, by go_num, by omega, by rw [HS2.out]; exact hU⟩
            case measure => simp [intOf]; omega
          · have hkl : nC = k := by omega
            subst hkl
            have hT : (C.take nC).foldl wins (W3.num nC) = wcode W3 C := by rw [wcode, EC.out, List.take_of_length_le (by rw [EC.out]; exact Nat.le_refl _)]
            rw [hT] at hV
            have hf4 : Fit (wcode W3 C) := F3.out.code C
            clear hT hlt hk
            obtain ⟨W4, hW4⟩ : ∃ W4, W4 = wcode W3 C := ⟨_, rfl⟩
            rw [← hW4] at hV hf4
            have HW4 := Lib.hid hW4; clear hW4
            have hcn := rwnum_any nT (by unfold U64; omega) hV hf4.b4 hf4.h0 hf4.b3
            have HCN := Lib.hid hcn; clear hcn
            go_wp2_with (go_at_call 26; with_reducible refine HCN.out.mono ?_; rintro e w6 ⟨rfl, hV4⟩)
            have HF5 := Lib.hid (hf4.num nT)
            clear hV g3 g4 HCN hf4
            go_loopw [9] (fun i wr => RtRel (fun W t => wtab W (toTab t)) ts (W4.num nT) w a [BA, BM] nT i wr) (fun i _ => nT - (intOf i).toNat)
            case atStart => exact ⟨0, rfl, by omega, hV4⟩
            case round =>
              clear hV4
              obtain ⟨k, rfl, hk, hV⟩ := hrel
              obtain ⟨g3, g4⟩ := HAC.out _ _ _ hV
              by_cases hlt : k < nT
              · have hlt2 : k < ts.length := by rw [ET.out]; exact hlt
                have HS3 := Lib.hid (foldl_take_succ (fun W t => wtab W (toTab t)) (W4.num nT) ts k hlt2)
                obtain ⟨b2, off2, rfl⟩ : ∃ b off, aT = some ⟨b, off, none⟩ := by
                  rcases rT with rfl | ⟨b, off, e, _⟩
                  · simp at hlt2
                  · exact ⟨b, off, e⟩
                obtain ⟨a1, c1, d0, d1, r1, m1, q1, q2⟩ := table_at rT k hlt2
                have hp := HPOS.out _ (List.getElem_mem hlt2)
                have hft : Fit ((ts.take k).foldl (fun W t => wtab W (toTab t)) (W4.num nT)) := Fit.fold (fun _ x h => h.tab _) _ _ HF5.out
                generalize (ts.take k).foldl (fun W t => wtab W (toTab t)) (W4.num nT) = U at *
                generalize ts[k] = t at *
                obtain ⟨x, y, _⟩ := t
                simp only at d0 d1 r1 m1 q1 q2 hp
                have d0 := hV.oldCell d0
                have d1 := hV.oldCell d1
                have hxl : (x.map toP).length = x.length := by simp
                have HS4 := Lib.hid (show wtab U (toTab (x, y, ())) = ((x.map toP).foldl wclause (U.num x.length)).int y by rw [← hxl]; rfl)
                generalize x.map toP = X at *
                generalize x.length = nx at *
                have HXL := Lib.hid hxl; clear hxl
                unfold maxLen at m1
                have hE := (hV.alloc (.cells #[.slice a1 nx c1, .int .i64 y] 66)).pick2
                have e0 := hE.pick2.cell 0
                have hcn := rwnum_any nx (by unfold U64; omega) hE hft.b4 hft.h0 hft.b3
                have HCN := Lib.hid hcn; clear hcn
                have HFT := Lib.hid hft; clear hft
                have HP_ := Lib.hid hp; clear hp
                go_wp2_with (go_at_call 26; with_reducible refine HCN.out.mono ?_; rintro e w6 ⟨rfl, hV5⟩)
                obtain ⟨bt, hbt⟩ : ∃ bt, bt = wr.heap.size := ⟨_, rfl⟩
                rw [← hbt] at hV5 ⊢
                clear hbt HCN hE e0 g3 g4 hV d0 d1
                go_loopw [11] (fun i wr => RtRel wclause X (U.num nx) w a [HP.one bt (.cells #[.slice a1 nx c1, .int .i64 y] 66 (0, 0)), BA, BM] nx i wr) (fun i _ => nx - (intOf i).toNat)
                case atStart => exact ⟨0, rfl, by omega, hV5⟩
                case round =>
                  clear hV5
                  obtain ⟨i, rfl, hi, hV⟩ := hrel
                  have e0 := hV.pick2.cell 0
                  by_cases hlt : i < nx
                  · have hlt3 : i < X.length := by rw [HXL.out]; exact hlt
                    have HS5 := Lib.hid (foldl_take_succ wclause (U.num nx) X i hlt3)
                    obtain ⟨x1, x2⟩ := pvs_get .i64 .i64 X i hlt3
                    have hb2 := HP_.out _ (List.getElem_mem hlt3)
                    obtain ⟨b3, off3, rfl, hc⟩ := r1.some_ (by rw [pvs_len]; omega)
                    have d0 := hV.oldCell (hc _ _ x1)
                    have z1 := hc _ _ x2
                    have hft : Fit ((X.take i).foldl wclause (U.num nx)) := Fit.fold (fun _ x h => h.clause x) _ _ (HFT.out.num _)
                    generalize (X.take i).foldl wclause (U.num nx) = U2 at *
                    generalize X[i] = x at *
                    obtain ⟨tag, to⟩ := x
                    simp only at d0 z1 hb2
                    rw [← Nat.add_assoc] at z1
                    obtain ⟨q3, q4, q5, q6⟩ := hb2
                    obtain ⟨tag, rfl⟩ := Int.eq_ofNat_of_zero_le q3
                    obtain ⟨to, rfl⟩ := Int.eq_ofNat_of_zero_le q5
                    clear hc x1 x2
                    have hcn := rwnum_any tag (by unfold U64; omega) hV hft.b4 hft.h0 hft.b3
                    have hcn2 := fun (w1 : World) (L : List HP) (h : At w w1 (RWriterC a (U2.num tag) :: L)) => rwnum_any to (by unfold U64; omega) h (hft.num tag).b4 (hft.num tag).h0 (hft.num tag).b3
                    have HCN := Lib.hid hcn; clear hcn
                    have HCN2 := Lib.hid hcn2; clear hcn2 hft
                    have HZ1 := Lib.hid z1; clear z1
                    go_wp2_with (first
                      | (go_at_call 26; with_reducible refine HCN.out.mono ?_; rintro e w6 ⟨rfl, hV6⟩; have v0 := hV6.pick2.cell 0; have v1 := hV6.oldCell HZ1.out)
                      | (go_at_call 26; with_reducible refine (HCN2.out _ _ hV6).mono ?_; rintro e w7 ⟨rfl, hV7⟩))
                    go_roundw
                    case rel => exact ⟨i + 1, by go_num, by omega, by rw [HS5.out]; exact hV7⟩
                    case measure => simp [intOf]; omega
                  · have hkl : nx = i := by omega
                    subst hkl
                    have hT : (X.take nx).foldl wclause (U.num nx) = X.foldl wclause (U.num nx) := by rw [List.take_of_length_le (by rw [HXL.out]; exact Nat.le_refl _)]
                    rw [hT] at hV
                    have hft : Fit (X.foldl wclause (U.num nx)) := Fit.fold (fun _ x h => h.clause x) _ _ (HFT.out.num _)
                    obtain ⟨U3, hU3⟩ : ∃ U3, U3 = X.foldl wclause (U.num nx) := ⟨_, rfl⟩
                    rw [← hU3] at hV hft HS4
                    clear hT hU3
                    have e1 := hV.pick2.cell 1
                    have hci := rwint_any y q1 q2 hV hft.b4 hft.h0 hft.b3
                    have HI := Lib.hid hci; clear hci hft
                    go_wp2_with (go_at_call 29; with_reducible refine HI.out.mono ?_; rintro e w4 ⟨rfl, hU2⟩)
                    go_roundw
                    case rel => exact ⟨k + 1, by go_num, by omega, by rw [HS3.out, HS4.out]; exact hU2.pick2.drop⟩
                    case measure => simp [intOf]; omega
              · have hkl : nT = k := by omega
                subst hkl
                have hT : (ts.take nT).foldl (fun W t => wtab W (toTab t)) (W4.num nT) = ts.foldl (fun W t => wtab W (toTab t)) (W4.num nT) := by rw [List.take_of_length_le (by rw [ET.out]; exact Nat.le_refl _)]
                rw [hT] at hV
                rw [← HN2.out] at hV
                rw [HW4.out] at hV
                have hV := hV.pick2.drop
                have HVV := Lib.hid hV
                go_wp2
                go_roundw
                case rel => exact ⟨j + 1, by go_num, by omega, by rw [HS.out, HWA.out]; exact HVV.out⟩
                case measure => simp [intOf]; omega
      · have hkl : j = n := by omega
        have hT : (l.take j).foldl (fun W x => wact W (toAct x)) (whead.num n) = l.foldl (fun W x => wact W (toAct x)) (whead.num n) := by rw [List.take_of_length_le (by rw [HN.out]; omega)]
        rw [hT] at hV
        subst hkl
        have hcd := rwdone_any hV
        have HCD := Lib.hid hcd; clear hcd hT
        go_wp2_with (first
          | (go_at_call 30; with_reducible refine HCD.out.mono ?_; rintro e w6 ⟨rfl, q, rfl⟩))
        go_returns
        exact ⟨rfl, (hV.drewN q).drop.drop⟩
  · have hb : Mod.bytes (l.map toAct) = ([], err (l.map toAct)) := if_neg he
    have T : (err (l.map toAct) != 0) = true := by simp [he]
    rw [hb]
    generalize err (l.map toAct) = e at *
    have HR := Lib.hid hr; clear hr hb he
    go_enter Try.func11, Try.ntmps11
    go_wp2_with (first
      | (go_at_call 13; with_reducible refine HR.out.mono ?_; rintro e w1 ⟨rfl, hV1⟩))
    go_returns
    exact ⟨rfl, hV1.drop⟩
end
end Go.Proofs.Ytbnlkjbponfaaaa
