/-
  The contract of the reference's Read.
-/
import Derived.Test.YtebolbjbfnolpabModRc
import Derived.Test.YtebolbjbfnolpabModZ
import Derived.Deep.DeepCutAuto
namespace Go.Proofs.Ytebolbjbfnolpab
open Go.RowKit HP
open Go.Proofs.Ytebolbjbfnolpab.Mod

namespace Mod
def rract (R : Reel.R) : ActD × Reel.R :=
  (((rrtypes 4 R).1, (rrtypes 16 (rrtypes 4 R).2).1, (rrtypes 8 (rrtypes 16 (rrtypes 4 R).2).2).1, (rrcode (rrtypes 8 (rrtypes 16 (rrtypes 4 R).2).2).2).1, (rrtabs (rrcode (rrtypes 8 (rrtypes 16 (rrtypes 4 R).2).2).2).2).1, ()), (rrtabs (rrcode (rrtypes 8 (rrtypes 16 (rrtypes 4 R).2).2).2).2).2)
theorem Tx.rract {R : Reel.R} (h : Tx R) : Tx (Mod.rract R).2 := by
  unfold Mod.rract
  dsimp only
  exact ((((h.rrtypes 4).rrtypes 16).rrtypes 8).rrcode).rrtabs
def rhead (R : Reel.R) : Bool × Reel.R :=
  if R.byte.1 = 67 then (if R.byte.2.byte.1 = 66 then (R.byte.2.byte.2.byte.1 == 49, R.byte.2.byte.2.byte.2) else (false, R.byte.2.byte.2)) else (false, R.byte.2)
theorem Tx.rhead {R : Reel.R} (h : Tx R) : Tx (Mod.rhead R).2 := by
  unfold Mod.rhead
  split
  · split
    · exact h.byte.byte.byte
    · exact h.byte.byte
  · exact h.byte
def rracts (R : Reel.R) : List ActD × Reel.R := rrun rract (rcount 8 R).1 (rcount 8 R).2
def rread (text : List UInt8) : List ActD × Int :=
  if 65536 < text.length then ([], 3)
  else if (!(rhead (Reel.read text)).1 || decide ((rracts (rhead (Reel.read text)).2).2.fin ≠ 0) || decide (err ((rracts (rhead (Reel.read text)).2).1.map toAct) ≠ 0)) = true then ([], 5) else ((rracts (rhead (Reel.read text)).2).1, 0)
end Mod

section
variable {w0 w : World} {L : List HP} {a : Nat}

theorem rrtypes_z {R : Reel.R} {w : World} {L : List HP} (most : Nat) (z : Int) (hz : (most : Int) = z) (hmost : most ≤ 1000) (hl : Tx R) (hA : At w0 w (RReaderC a R :: L)) :
    Calls Try.prog 19 #[.pointer (some ⟨a, 0, none⟩), .int .i64 z] w fun e w' => ∃ ao cap, e = .returned (.slice ao (rrtypes most R).1.length cap) ∧
      At w0 w' (HP.Own (fun w => KSl kType w (rrtypes most R).1 ao (rrtypes most R).1.length cap) :: RReaderC a (rrtypes most R).2 :: L) := by
  subst hz; exact rrtypes_any most hmost hl hA
def RaRel (R1 : Reel.R) (w0 : World) (a bm : Nat) (M : List HP) (n : Nat) (i : Value) (wr : World) : Prop :=
  ∃ (k : Nat) (ao : Option Addr) (cap : Nat) (vs : List (List Value)), i = .int .i64 ((n - k : Nat) : Int) ∧ k ≤ n ∧ (rrun rract k R1).1.length = k ∧
    At w0 wr (HP.Own (fun w => All2 (kActor.R w) (rrun rract k R1).1 vs) :: HP.one bm (.cells #[.slice ao k cap] 25 (0, 0)) :: HP.row 37 kActor.sz ao k cap vs.flatten :: RReaderC a (rrun rract k R1).2 :: M)
def HeRel (w0 : World) (a : Nat) (M : List HP) (p : Bool × Reel.R) (s : Value) (wx : World) : Prop := s = .bool p.1 ∧ At w0 wx (RReaderC a p.2 :: M)

set_option maxRecDepth 100000 in
set_option maxHeartbeats 8000000 in
theorem refRead_any (text : List UInt8) (ht : text.length ≤ maxLen) (hA : At w0 w L) :
    Calls Try.prog 6 #[.string (str text)] w fun e w' => ∃ ao cap, e = .returned (.tuple #[.agg #[.slice ao (rread text).1.length cap], .int .i64 (rread text).2]) ∧
      At w0 w' (HP.Own (fun w => KSl kActor w (rread text).1 ao (rread text).1.length cap) :: L) := by
  have hR := hA.alloc (.cells #[.slice none 0 0] 25)
  have r0 := hR.cell 0
  have r1 := hR.free 0
  have hsz : (str text).size = text.length := str_size text
  have hnil : ∀ w, KSl kActor w [] none 0 0 := fun w => ⟨rfl, Nat.le_refl _, by simp [maxLen], fun _ => rfl, .inl rfl⟩
  unfold maxLen at ht
  by_cases h1 : 65536 < text.length
  · have e : rread text = ([], 3) := if_pos h1
    rw [e]
    have T : decide (65536 < text.length) = true := decide_eq_true h1
    clear e
    go_enter Try.func6, Try.ntmps6
    go_wp2
    refine bodyPost_ret (by simp [results, Try.f6, go_sem, r0]; try rfl) rfl ?_
    exact ⟨none, 0, rfl, hR.drop.own_emp hnil⟩
  · have T : decide (65536 < text.length) = false := decide_eq_false h1
    have hmr : rread text = if (!(rhead (Reel.read text)).1 || decide ((rracts (rhead (Reel.read text)).2).2.fin ≠ 0) || decide (err ((rracts (rhead (Reel.read text)).2).1.map toAct) ≠ 0)) = true then ([], 5) else ((rracts (rhead (Reel.read text)).2).1, 0) := by
      rw [rread, if_neg h1]
    obtain ⟨res, hres⟩ : ∃ res, res = rread text := ⟨_, rfl⟩
    rw [← hres] at hmr ⊢
    clear hres
    have hl0 : Tx (Reel.read text) := by show text.length ≤ _; omega
    have hl1 := hl0.rhead
    have hB : At w0 ((w.alloc (.cells #[.slice none 0 0] 25)).alloc (.cells #[.string (str text), .int .i64 0] 53)) (RReaderC (w.heap.size + 1) (Reel.read text) :: HP.one w.heap.size (.cells #[.slice none 0 0] 25 (0, 0)) :: L) := by
      have := hR.alloc (.cells #[.string (str text), .int .i64 0] 53)
      rw [World.size_alloc] at this
      exact this
    have hC := (hB.alloc (.cells #[.slice none 0 0] 25)).pick2
    simp only [World.size_alloc] at hC
    have hrh : rhead (Reel.read text) = if (Reel.read text).byte.1 = 67 then (if (Reel.read text).byte.2.byte.1 = 66 then ((Reel.read text).byte.2.byte.2.byte.1 == 49, (Reel.read text).byte.2.byte.2.byte.2) else (false, (Reel.read text).byte.2.byte.2)) else (false, (Reel.read text).byte.2) := rfl
    have HNIL := Lib.hid hnil; clear hnil
    have HRH := Lib.hid hrh; clear hrh
    have HRES := Lib.hid hmr; clear hmr
    have HR0 := Lib.hid hR; clear hR
    have HB0 := Lib.hid hB; clear hB
    generalize rhead (Reel.read text) = ph at *
    generalize Reel.read text = R0 at *
    go_enter Try.func6, Try.ntmps6
    go_upto_region 5 with (fail)
    obtain ⟨br, hbr⟩ : ∃ br, br = w.heap.size := ⟨_, rfl⟩
    rw [← hbr] at hC ⊢
    clear hbr HB0 HR0 r0 r1
    go_cut [6] (fun s wx => HeRel w0 (br + 1) (HP.one (br + 1 + 1) (.cells #[.slice none 0 0] 25 (0, 0)) :: HP.one br (.cells #[.slice none 0 0] 25 (0, 0)) :: L) ph s wx)
    case first =>
      have hb1 := fun (w : World) (L : List HP) (h : At w0 w (RReaderC (br + 1) R0 :: L)) => rrbyte_any h
      have hrh := HRH.out
      clear HRH
      generalize R0.byte = p1 at *
      obtain ⟨x1, R1⟩ := p1
      simp only at hb1 hrh
      have HB1 := Lib.hid hb1; clear hb1
      by_cases g1 : x1 = 67
      case neg =>
        have T1 : (x1 == 67) = false := by simp [g1]
        rw [if_neg g1] at hrh
        have HRH := Lib.hid hrh; clear hrh g1
        go_wp2_with (first | (go_at_call 17; with_reducible refine (HB1.out _ _ hC).mono ?_; rintro e w1 ⟨rfl, hV1⟩))
        go_meet
        rw [HRH.out]
        exact ⟨rfl, hV1⟩
      have T1 : (x1 == 67) = true := by simp [g1]
      rw [if_pos g1] at hrh
      clear g1
      have hb2 := fun (w : World) (L : List HP) (h : At w0 w (RReaderC (br + 1) R1 :: L)) => rrbyte_any h
      generalize R1.byte = p2 at *
      obtain ⟨x2, R2⟩ := p2
      simp only at hb2 hrh
      have HB2 := Lib.hid hb2; clear hb2
      by_cases g2 : x2 = 66
      case neg =>
        have T2 : (x2 == 66) = false := by simp [g2]
        rw [if_neg g2] at hrh
        have HRH := Lib.hid hrh; clear hrh g2
        go_wp2_with (first
          | (go_at_call 17; with_reducible refine (HB1.out _ _ hC).mono ?_; rintro e w1 ⟨rfl, hV1⟩)
          | (go_at_call 17; with_reducible refine (HB2.out _ _ hV1).mono ?_; rintro e w2 ⟨rfl, hV2⟩))
        go_meet
        rw [HRH.out]
        exact ⟨rfl, hV2⟩
      have T2 : (x2 == 66) = true := by simp [g2]
      rw [if_pos g2] at hrh
      clear g2
      have hb3 := fun (w : World) (L : List HP) (h : At w0 w (RReaderC (br + 1) R2 :: L)) => rrbyte_any h
      generalize R2.byte = p3 at *
      obtain ⟨x3, R3⟩ := p3
      simp only at hb3 hrh
      have HB3 := Lib.hid hb3; clear hb3
      have HRH := Lib.hid hrh; clear hrh
      go_wp2_with (first
        | (go_at_call 17; with_reducible refine (HB1.out _ _ hC).mono ?_; rintro e w1 ⟨rfl, hV1⟩)
        | (go_at_call 17; with_reducible refine (HB2.out _ _ hV1).mono ?_; rintro e w2 ⟨rfl, hV2⟩)
        | (go_at_call 17; with_reducible refine (HB3.out _ _ hV2).mono ?_; rintro e w3 ⟨rfl, hV3⟩))
      go_meet
      rw [HRH.out]
      exact ⟨rfl, hV3⟩
    case rest =>
      obtain ⟨rfl, hV⟩ := hcut
      have hmr := HRES.out
      clear HRES HRH hC
      obtain ⟨hd, Rh⟩ := ph
      simp only at hV hl1 hmr
      have hra : rracts Rh = rrun rract (rcount 8 Rh).1 (rcount 8 Rh).2 := rfl
      rw [hra] at hmr
      clear hra
      have hn := rcount_any 8 (by decide) hl1 hV
      have hle := rcount_le 8 Rh
      have hl2 := hl1.rcount 8
      generalize rcount 8 Rh = p at *
      obtain ⟨n, R1⟩ := p
      simp only at hn hle hl2 hmr
      have HN := Lib.hid hn; clear hn
      have HRES := Lib.hid hmr; clear hmr
      go_wp2_with (go_at_call 18; refine HN.out.mono ?_; rintro e w1 ⟨rfl, hU⟩)
      clear hV HN hsz T h1
      obtain ⟨a, ha⟩ : ∃ a, a = br + 1 := ⟨_, rfl⟩
      rw [← ha] at hU ⊢
      obtain ⟨bm, hbm⟩ : ∃ b, b = a + 1 := ⟨_, rfl⟩
      rw [← hbm] at hU ⊢
      clear ha hbm
      generalize hM : HP.one br (.cells #[.slice none 0 0] 25 (0, 0)) :: L = M at *
      have HM := Lib.hid hM; clear hM
      go_loopw [7] (fun i wr => RaRel R1 w0 a bm M n i wr) (fun i _ => (intOf i).toNat)
      case atStart => exact ⟨0, none, 0, [], rfl, by omega, rfl, ((hU.pick2.row_nil _ _).pick2.own_emp fun w => All2.nil _)⟩
      case round =>
        clear hU
        obtain ⟨k, ao, cap, vs, rfl, hk, hlen, hV⟩ := hrel
        have hlk := Tx.rrun (fun s h => h.rract) hl2 k
        have c1 := At.cell hV.pick4 1
        by_cases hlt : k < n
        · obtain ⟨d, hd2⟩ : ∃ d : Nat, n - k = d + 1 := ⟨n - k - 1, by omega⟩
          rw [hd2]
          have hdb : d ≤ 1000 := by omega
          have hd3 : n - (k + 1) = d := by omega
          have HD2 := Lib.hid hd3; clear hd3 hd2
          have T11 : decide ((0 : Int) < (d : Int) + 1) = true := decide_eq_true (by omega)
          by_cases he : (rrun rract k R1).2.err = 0
          · have HGO := Lib.hid (rrun_go he)
            have HLEN := Lib.hid hlen; clear hlen
            have E0 : ((rrun rract k R1).2.err == 0) = true := by simp [he]
            clear he
            generalize rrun rract k R1 = q at *
            obtain ⟨l0, s2⟩ := q
            simp only at E0 hV c1 hlk HLEN HGO
            have HRA := Lib.hid (show rract s2 = (((rrtypes 4 s2).1, (rrtypes 16 (rrtypes 4 s2).2).1, (rrtypes 8 (rrtypes 16 (rrtypes 4 s2).2).2).1, (rrcode (rrtypes 8 (rrtypes 16 (rrtypes 4 s2).2).2).2).1, (rrtabs (rrcode (rrtypes 8 (rrtypes 16 (rrtypes 4 s2).2).2).2).2).1, ()), (rrtabs (rrcode (rrtypes 8 (rrtypes 16 (rrtypes 4 s2).2).2).2).2).2) from rfl)
            have hV1 := (hV.alloc (.cells #[.slice none 0 0, .slice none 0 0, .slice none 0 0, .slice none 0 0, .slice none 0 0] 37)).pick5
            have k1 := rrtypes_z 4 4 rfl (by decide) hlk hV1
            have ok1 := hlk.rrtypes 4
            have K1 := Lib.hid k1; clear k1
            generalize rrtypes 4 s2 = q at *
            obtain ⟨p, s3⟩ := q
            simp only at K1 ok1 HRA
            have k2 := fun (w : World) (L : List HP) (h : At w0 w (RReaderC a s3 :: L)) => rrtypes_z 16 16 rfl (by decide) ok1 h
            have ok2 := ok1.rrtypes 16
            have K2 := Lib.hid k2; clear k2
            generalize rrtypes 16 s3 = q at *
            obtain ⟨r, s4⟩ := q
            simp only at K2 ok2 HRA
            have k3 := fun (w : World) (L : List HP) (h : At w0 w (RReaderC a s4 :: L)) => rrtypes_z 8 8 rfl (by decide) ok2 h
            have ok3 := ok2.rrtypes 8
            have K3 := Lib.hid k3; clear k3
            generalize rrtypes 8 s4 = q at *
            obtain ⟨m, s5⟩ := q
            simp only at K3 ok3 HRA
            have k4 := fun (w : World) (L : List HP) (h : At w0 w (RReaderC a s5 :: L)) => rrcode_any ok3 h
            have ok4 := ok3.rrcode
            have K4 := Lib.hid k4; clear k4
            generalize rrcode s5 = q at *
            obtain ⟨c, s6⟩ := q
            simp only at K4 ok4 HRA
            have k5 := fun (w : World) (L : List HP) (h : At w0 w (RReaderC a s6 :: L)) => rrtables_any ok4 h
            have K5 := Lib.hid k5; clear k5
            generalize rrtabs s6 = q at *
            obtain ⟨ts, s7⟩ := q
            simp only at K5 HRA
            clear ok1 ok2 ok3 ok4 hlk
            generalize p.length = nP at *
            generalize r.length = nR at *
            generalize m.length = nM at *
            generalize c.length = nC at *
            generalize ts.length = nT at *
            have hk8 : k ≤ 8 := by omega
            go_wp2_with (first
              | (go_at_call 19; with_reducible refine K1.out.mono ?_; rintro e w3 ⟨aP, cP, rfl, h1⟩; have x0 := h1.pick3.cell 0; have y0 := h1.pick3.free 0; have h1b := h1.pick3.setCell 0 (.slice aP nP cP); have h1c := h1b.pick3)
              | (go_at_call 19; with_reducible refine (K2.out _ _ h1c).mono ?_; rintro e w4 ⟨aR, cR, rfl, h2⟩; have x1 := h2.pick3.cell 1; have y1 := h2.pick3.free 1; have h2b := h2.pick3.setCell 1 (.slice aR nR cR); have h2c := h2b.pick3)
              | (go_at_call 19; with_reducible refine (K3.out _ _ h2c).mono ?_; rintro e w5 ⟨aM, cM, rfl, h3⟩; have x2 := h3.pick3.cell 2; have y2 := h3.pick3.free 2; have h3b := h3.pick3.setCell 2 (.slice aM nM cM); have h3c := h3b.pick3)
              | (go_at_call 20; with_reducible refine (K4.out _ _ h3c).mono ?_; rintro e w6 ⟨aC, cC, rfl, h4⟩; have x3 := h4.pick3.cell 3; have y3 := h4.pick3.free 3; have h4b := h4.pick3.setCell 3 (.slice aC nC cC); have h4c := h4b.pick3)
              | (go_at_call 21; with_reducible refine (K5.out _ _ h4c).mono ?_; rintro e w7 ⟨aT, cT, rfl, h5⟩; have x4 := h5.pick3.cell 4; have y4 := h5.pick3.free 4; have h5b := h5.pick3.setCell 4 (.slice aT nT cT); have z0 := h5b.cell 0; have z1 := h5b.cell 1; have z2 := h5b.cell 2; have z3 := h5b.cell 3; have z4 := h5b.cell 4; have z5 := h5b.pick9.cell 0; have hal := h5b.pick10.alloc (.cells #[.slice aP nP cP, .slice aR nR cR, .slice aM nM cM, .slice aC nC cC, .slice aT nT cT] 37); have hrn := hal.rdN; simp only [World.size_setCell] at hal hrn)
              | (at_builtin; refine wpList_append_row rfl (.tmp 58) (.tmp 60) 23 rfl (.agg #[.slice none 0 0, .slice none 0 0, .slice none 0 0, .slice none 0 0, .slice none 0 0]) 120 under_actors info_actor rfl (by decide) hal.pick2 rfl _ 1 1 [.slice aP nP cP, .slice aR nR cR, .slice aM nM cM, .slice aC nC cC, .slice aT nT cT] rfl rfl hrn (by intro u hu; simp at hu; rcases hu with rfl | rfl | rfl | rfl | rfl <;> rfl) (by unfold maxLen; omega) (by omega) ?_; intro ao' cap' w' hX; have hY := hX.pick2.drop.pick2.drop; have v0 := hY.pick9.cell 0; have v1 := hY.pick9.free 0; have hZ := hY.pick9.setCell 0 (.slice ao' (k + 1) cap')))
            go_roundw
            case rel =>
              refine ⟨k + 1, ao', cap', vs ++ [[.slice aP nP cP, .slice aR nR cR, .slice aM nM cM, .slice aC nC cC, .slice aT nT cT]], by rw [HD2.out], by omega, by rw [HGO.out]; simp [HLEN.out], ?_⟩
              rw [HGO.out, HRA.out, flatten_snoc]
              have hj := hZ.pick3.pick5.own_join.pick5.own_join.pick5.own_join.pick5.own_join
              exact ((hj.own_imp (R' := fun w => kActor.R w (p, r, m, c, ts, ()) [.slice aP nP cP, .slice aR nR cR, .slice aM nM cM, .slice aC nC cC, .slice aT nT cT]) (fun w h => actor_of h.1 h.2.1 h.2.2.1 h.2.2.2.1 h.2.2.2.2)).pick5.own_snoc kActor)
            case measure => simp [intOf]
          · have HST : rrun rract n R1 = rrun rract k R1 := rrun_stop he n hk
            have E0 : ((rrun rract k R1).2.err == 0) = false := by simp [he]
            clear he
            have hK := hV.pick3.row_kn kActor (by decide)
            clear hV
            have hle0 := hlen
            clear hlen
            have hres := HRES.out
            rw [HST] at hres
            clear HST
            generalize rrun rract k R1 = q at *
            obtain ⟨l0, R2⟩ := q
            simp only at hK hres hle0
            rw [← HM.out] at hK
            have HRE := Lib.hid hres; clear hres
            have HKL := Lib.hid hle0; clear hle0
            have c0 := hK.pick2.cell 0
            have y0 := hK.pick4.cell 0
            have y1 := hK.pick4.free 0
            cases hd with
            | false =>
              have hF := hK.pick4.setCell 0 (.slice none 0 0)
              have y2 := hF.cell 0
              go_wp2
              refine bodyPost_ret (by simp [results, Try.f6, go_sem, y2]; try rfl) rfl ?_
              have hre := HRE.out
              simp only [Bool.not_false, Bool.true_or, if_true] at hre
              rw [hre]
              exact ⟨none, 0, rfl, hF.drop.drop.drop.drop.own_emp HNIL.out⟩
            | true =>
              have he := rrend_any hK.pick3
              have HE := Lib.hid he; clear he
              by_cases hfin : R2.fin = 0
              · have T1 : (R2.fin != 0) = false := by simp [hfin]
                have HD1 := Lib.hid (show decide (R2.fin ≠ 0) = false by simp [hfin]); clear hfin
                have hri := refRight_any (w0 := w0) l0 ao k cap HKL.out (by unfold maxLen; omega) hK.own.2.2.2.2 hK
                obtain ⟨ev, hev⟩ : ∃ ev, ev = err (l0.map toAct) := ⟨_, rfl⟩
                rw [← hev] at hri
                have HEV := Lib.hid hev.symm; clear hev
                have HRI := Lib.hid hri; clear hri
                by_cases herr : ev = 0
                · have T2 : (ev != 0) = false := by simp [herr]
                  have HD2 := Lib.hid (show decide (ev ≠ 0) = false by simp [herr]); clear herr
                  go_wp2_with (first
                    | (go_at_call 22; with_reducible refine HE.out.mono ?_; rintro e w3 ⟨rfl, rfl⟩)
                    | (go_at_call 23; with_reducible refine HRI.out.mono ?_; rintro e w4 ⟨rfl, hG⟩; have g0 := hG.pick2.cell 0; have g1 := hG.pick4.cell 0; have g2 := hG.pick4.free 0; have hF := hG.pick4.setCell 0 (.slice ao k cap); have y3 := hF.cell 0))
                  refine bodyPost_ret (by simp [results, Try.f6, go_sem, y3]; try rfl) rfl ?_
                  have hre := HRE.out
                  simp only [HEV.out, HD1.out, HD2.out, Bool.not_true, Bool.or_false, Bool.false_eq_true, if_false] at hre
                  rw [hre]
                  simp only
                  rw [HKL.out]
                  exact ⟨ao, cap, rfl, hF.drop.pick2.drop.pick2.drop⟩
                · have T2 : (ev != 0) = true := by simp [herr]
                  have HD2 := Lib.hid (show decide (ev ≠ 0) = true by simp [herr]); clear herr
                  go_wp2_with (first
                    | (go_at_call 22; with_reducible refine HE.out.mono ?_; rintro e w3 ⟨rfl, rfl⟩)
                    | (go_at_call 23; with_reducible refine HRI.out.mono ?_; rintro e w4 ⟨rfl, hG⟩; have g1 := hG.pick4.cell 0; have g2 := hG.pick4.free 0; have hF := hG.pick4.setCell 0 (.slice none 0 0); have y3 := hF.cell 0))
                  refine bodyPost_ret (by simp [results, Try.f6, go_sem, y3]; try rfl) rfl ?_
                  have hre := HRE.out
                  simp only [HEV.out, HD2.out, Bool.or_true, if_true] at hre
                  rw [hre]
                  exact ⟨none, 0, rfl, hF.drop.drop.drop.drop.own_emp HNIL.out⟩
              · have T1 : (R2.fin != 0) = true := by simp [hfin]
                have HD1 := Lib.hid (show decide (R2.fin ≠ 0) = true by simp [hfin]); clear hfin
                have hF := hK.pick4.setCell 0 (.slice none 0 0)
                have y3 := hF.cell 0
                go_wp2_with (first
                  | (go_at_call 22; with_reducible refine HE.out.mono ?_; rintro e w3 ⟨rfl, rfl⟩))
                refine bodyPost_ret (by simp [results, Try.f6, go_sem, y3]; try rfl) rfl ?_
                have hre := HRE.out
                simp only [HD1.out, Bool.or_true, Bool.true_or, if_true] at hre
                rw [hre]
                exact ⟨none, 0, rfl, hF.drop.drop.drop.drop.own_emp HNIL.out⟩
        · have hkl : n = k := by omega
          subst hkl
          rw [Nat.sub_self]
          have hK := hV.pick3.row_kn kActor (by decide)
          clear hV
          have hle0 := hlen
          clear hlen
          have hres := HRES.out
          generalize rrun rract n R1 = q at *
          obtain ⟨l0, R2⟩ := q
          simp only at hK hres hle0
          rw [← HM.out] at hK
          have HRE := Lib.hid hres; clear hres
          have HKL := Lib.hid hle0; clear hle0
          have c0 := hK.pick2.cell 0
          have y0 := hK.pick4.cell 0
          have y1 := hK.pick4.free 0
          cases hd with
          | false =>
            have hF := hK.pick4.setCell 0 (.slice none 0 0)
            have y2 := hF.cell 0
            go_wp2
            refine bodyPost_ret (by simp [results, Try.f6, go_sem, y2]; try rfl) rfl ?_
            have hre := HRE.out
            simp only [Bool.not_false, Bool.true_or, if_true] at hre
            rw [hre]
            exact ⟨none, 0, rfl, hF.drop.drop.drop.drop.own_emp HNIL.out⟩
          | true =>
            have he := rrend_any hK.pick3
            have HE := Lib.hid he; clear he
            by_cases hfin : R2.fin = 0
            · have T1 : (R2.fin != 0) = false := by simp [hfin]
              have HD1 := Lib.hid (show decide (R2.fin ≠ 0) = false by simp [hfin]); clear hfin
              have hri := refRight_any (w0 := w0) l0 ao n cap HKL.out (by unfold maxLen; omega) hK.own.2.2.2.2 hK
              obtain ⟨ev, hev⟩ : ∃ ev, ev = err (l0.map toAct) := ⟨_, rfl⟩
              rw [← hev] at hri
              have HEV := Lib.hid hev.symm; clear hev
              have HRI := Lib.hid hri; clear hri
              by_cases herr : ev = 0
              · have T2 : (ev != 0) = false := by simp [herr]
                have HD2 := Lib.hid (show decide (ev ≠ 0) = false by simp [herr]); clear herr
                go_wp2_with (first
                  | (go_at_call 22; with_reducible refine HE.out.mono ?_; rintro e w3 ⟨rfl, rfl⟩)
                  | (go_at_call 23; with_reducible refine HRI.out.mono ?_; rintro e w4 ⟨rfl, hG⟩; have g0 := hG.pick2.cell 0; have g1 := hG.pick4.cell 0; have g2 := hG.pick4.free 0; have hF := hG.pick4.setCell 0 (.slice ao n cap); have y3 := hF.cell 0))
                refine bodyPost_ret (by simp [results, Try.f6, go_sem, y3]; try rfl) rfl ?_
                have hre := HRE.out
                simp only [HEV.out, HD1.out, HD2.out, Bool.not_true, Bool.or_false, Bool.false_eq_true, if_false] at hre
                rw [hre]
                simp only
                rw [HKL.out]
                exact ⟨ao, cap, rfl, hF.drop.pick2.drop.pick2.drop⟩
              · have T2 : (ev != 0) = true := by simp [herr]
                have HD2 := Lib.hid (show decide (ev ≠ 0) = true by simp [herr]); clear herr
                go_wp2_with (first
                  | (go_at_call 22; with_reducible refine HE.out.mono ?_; rintro e w3 ⟨rfl, rfl⟩)
                  | (go_at_call 23; with_reducible refine HRI.out.mono ?_; rintro e w4 ⟨rfl, hG⟩; have g1 := hG.pick4.cell 0; have g2 := hG.pick4.free 0; have hF := hG.pick4.setCell 0 (.slice none 0 0); have y3 := hF.cell 0))
                refine bodyPost_ret (by simp [results, Try.f6, go_sem, y3]; try rfl) rfl ?_
                have hre := HRE.out
                simp only [HEV.out, HD2.out, Bool.or_true, if_true] at hre
                rw [hre]
                exact ⟨none, 0, rfl, hF.drop.drop.drop.drop.own_emp HNIL.out⟩
            · have T1 : (R2.fin != 0) = true := by simp [hfin]
              have HD1 := Lib.hid (show decide (R2.fin ≠ 0) = true by simp [hfin]); clear hfin
              have hF := hK.pick4.setCell 0 (.slice none 0 0)
              have y3 := hF.cell 0
              go_wp2_with (first
                | (go_at_call 22; with_reducible refine HE.out.mono ?_; rintro e w3 ⟨rfl, rfl⟩))
              refine bodyPost_ret (by simp [results, Try.f6, go_sem, y3]; try rfl) rfl ?_
              have hre := HRE.out
              simp only [HD1.out, Bool.or_true, Bool.true_or, if_true] at hre
              rw [hre]
              exact ⟨none, 0, rfl, hF.drop.drop.drop.drop.own_emp HNIL.out⟩
end
end Go.Proofs.Ytebolbjbfnolpab
