/-
  The contract of module.Read.
-/
import Derived.Test.YtebolbjbfnolpabModT
import Derived.Test.YtebolbjbfnolpabPick
import Derived.Test.YtebolbjbfnolpabInstrC
namespace Go.Proofs.Ytebolbjbfnolpab
open Go.RowKit HP
open Go.Proofs.Ytebolbjbfnolpab.Mod

namespace Mod
def ract (s : St) : ActD × St :=
  (((rtypes s).1, (rtypes (rtypes s).2).1, (rtypes (rtypes (rtypes s).2).2).1, (rcode (rtypes (rtypes (rtypes s).2).2).2).1, (rtabs (rcode (rtypes (rtypes (rtypes s).2).2).2).2).1, ()), (rtabs (rcode (rtypes (rtypes (rtypes s).2).2).2).2).2)
def start (text : List UInt8) : St := (Reel.read (text.drop 3), false)
def racts (text : List UInt8) : List ActD × St := rep ract (number 8 (start text)).1 (number 8 (start text)).2
def mread (text : List UInt8) : List ActD × Int :=
  if 65536 < text.length then ([], 3) else if text.take 3 ≠ [67, 66, 49] then ([], 5)
  else if ((racts text).2.2 || decide ((racts text).2.1.fin ≠ 0) || decide (err ((racts text).1.map toAct) ≠ 0)) = true then ([], 5) else ((racts text).1, 0)
theorem Ok.rtypes {s : St} (h : Ok s) : Ok (Mod.rtypes s).2 := Ok.rep (fun _ h => h.rbyte) (h.number _) _
theorem Ok.rcode {s : St} (h : Ok s) : Ok (Mod.rcode s).2 := Ok.rep (fun _ h => h.rins) (h.number _) _
theorem Ok.rtabs {s : St} (h : Ok s) : Ok (Mod.rtabs s).2 := Ok.rep (fun _ h => h.rtab) (h.number _) _
theorem Ok.ract {s : St} (h : Ok s) : Ok (Mod.ract s).2 := by
  unfold Mod.ract
  dsimp only
  exact h.rtypes.rtypes.rtypes.rcode.rtabs
end Mod

section
variable {w0 w : World} {L : List HP} {a b : Nat}
theorem info_actor : (Try.prog.info? 37).map (fun i => (i.zero, i.size, i.bytes)) = some (some (.agg #[.slice none 0 0, .slice none 0 0, .slice none 0 0, .slice none 0 0, .slice none 0 0]), 5, 120) := by kernel_rfl
theorem under_actors : Try.prog.underlying 23 = some (.slice 37) := by kernel_rfl

theorem actor_of {w : World} {p r m : List Int} {c : List PairD} {ts : List TabD} {aP aR aM aC aT : Option Addr} {nP nR nM nC nT cP cR cM cC cT : Nat}
    (hP : KSl kType w p aP nP cP) (hR : KSl kType w r aR nR cR) (hM : KSl kType w m aM nM cM) (hC : KSl kIns w c aC nC cC) (hT : KSl kTable w ts aT nT cT) :
    kActor.R w (p, r, m, c, ts, ()) [.slice aP nP cP, .slice aR nR cR, .slice aM nM cM, .slice aC nC cC, .slice aT nT cT] := by
  obtain ⟨rfl, p1, p2, p3, p4⟩ := hP
  obtain ⟨rfl, r1, r2, r3, r4⟩ := hR
  obtain ⟨rfl, m1, m2, m3, m4⟩ := hM
  obtain ⟨rfl, c1, c2, c3, c4⟩ := hC
  obtain ⟨rfl, t1, t2, t3, t4⟩ := hT
  exact ⟨_, _, rfl, ⟨aP, cP, rfl, p1, p2, p3, p4⟩, _, _, rfl, ⟨aR, cR, rfl, r1, r2, r3, r4⟩, _, _, rfl, ⟨aM, cM, rfl, m1, m2, m3, m4⟩, _, _, rfl, ⟨aC, cC, rfl, c1, c2, c3, c4⟩, _, _, rfl, ⟨aT, cT, rfl, t1, t2, t3, t4⟩, rfl⟩

def AcRel (s1 : St) (w0 : World) (b a bm : Nat) (M : List HP) (n : Nat) (i : Value) (wr : World) : Prop :=
  ∃ (k : Nat) (ao : Option Addr) (cap : Nat) (vs : List (List Value)), i = .int .i64 k ∧ k ≤ n ∧
    At w0 wr (HP.Own (fun w => All2 (kActor.R w) (rep ract k s1).1 vs) :: HP.one bm (.cells #[.slice ao k cap] 25 (0, 0)) :: HP.row 37 kActor.sz ao k cap vs.flatten :: RdP b a (rep ract k s1).2.2 :: ReaderC a (rep ract k s1).2.1 :: M)

set_option maxRecDepth 100000 in
set_option maxHeartbeats 8000000 in
theorem mread_any (text : List UInt8) (ht : text.length ≤ maxLen) (hA : At w0 w L) :
    Calls Try.prog 5 #[.string (str text)] w fun e w' => ∃ ao cap, e = .returned (.tuple #[.agg #[.slice ao (mread text).1.length cap], .int .i64 (mread text).2]) ∧
      At w0 w' (HP.Own (fun w => KSl kActor w (mread text).1 ao (mread text).1.length cap) :: L) := by
  have hR := hA.alloc (.cells #[.slice none 0 0] 25)
  have r0 := hR.cell 0
  have r1 := hR.free 0
  have hsz : (str text).size = text.length := str_size text
  have hnil : ∀ w, KSl kActor w [] none 0 0 := fun w => ⟨rfl, Nat.le_refl _, by simp [maxLen], fun _ => rfl, .inl rfl⟩
  unfold maxLen at ht
  by_cases h1 : 65536 < text.length
  · have e : mread text = ([], 3) := if_pos h1
    rw [e]
    have T : decide (65536 < text.length) = true := decide_eq_true h1
    clear e
    go_enter Try.func5, Try.ntmps5
    go_wp2
    refine bodyPost_ret (by simp [results, Try.f5, go_sem, r0]; try rfl) rfl ?_
    exact ⟨none, 0, rfl, hR.drop.own_emp hnil⟩
  · have T : decide (65536 < text.length) = false := decide_eq_false h1
    by_cases h2 : text.length < 3
    · have e : mread text = ([], 5) := by
        rw [mread, if_neg h1, if_pos]
        intro e
        have := congrArg List.length e
        simp at this; omega
      rw [e]
      have T2 : decide (text.length < 3) = true := decide_eq_true h2
      clear e
      go_enter Try.func5, Try.ntmps5
      go_wp2
      refine bodyPost_ret (by simp [results, Try.f5, go_sem, r0]; try rfl) rfl ?_
      exact ⟨none, 0, rfl, hR.drop.own_emp hnil⟩
    · have T2 : decide ((text.length : Int) < 3) = false := decide_eq_false (by omega)
      have he3 := str_extract text 0 3
      simp only [List.drop_zero, Nat.zero_add] at he3
      have hl3 := str_list (text.take 3)
      by_cases h3 : text.take 3 = [67, 66, 49]
      · have T3 : (!(str (text.take 3)).toList == [67, 66, 49]) = false := by rw [hl3, h3]; rfl
        have het := str_tail text 3
        clear hl3
        have hrn := rnew_any (text.drop 3) hR
        have hmr : mread text = if ((racts text).2.2 || decide ((racts text).2.1.fin ≠ 0) || decide (err ((racts text).1.map toAct) ≠ 0)) = true then ([], 5) else ((racts text).1, 0) := by
          rw [mread, if_neg h1, if_neg (by simp [h3])]
        have hra : racts text = rep ract (number 8 (Mod.start text)).1 (number 8 (Mod.start text)).2 := rfl
        rw [hra] at hmr
        obtain ⟨res, hres⟩ : ∃ res, res = mread text := ⟨_, rfl⟩
        rw [← hres] at hmr ⊢
        clear hra h3 hres
        have hok0 : Ok (Mod.start text) := ⟨Nat.zero_le _, by show (text.drop 3).length ≤ _; simp; omega⟩
        have hst : Mod.start text = (Reel.read (text.drop 3), false) := rfl
        have hn := fun (w : World) (L : List HP) (a b : Nat) (h : At w0 w (RdP b a (Mod.start text).2 :: ReaderC a (Mod.start text).1 :: L)) => rdnumber_any 8 (by decide) (Mod.start text) hok0 h
        have hle := number_le 8 (Mod.start text)
        have hok2 := hok0.number 8
        rw [hst] at hn hle hok2
        rw [hst] at hmr
        clear hst hok0
        generalize number 8 (Reel.read (text.drop 3), false) = p at *
        obtain ⟨n, s1⟩ := p
        simp only at hn hle hok2 hmr
        have HRES := Lib.hid hmr; clear hmr
        have HN := Lib.hid hn; clear hn
        have HRN := Lib.hid hrn; clear hrn
        have HNIL := Lib.hid hnil; clear hnil
        obtain ⟨br, hbr⟩ : ∃ br, br = w.heap.size := ⟨_, rfl⟩
        go_enter Try.func5, Try.ntmps5
        go_wp2_with (first
          | (go_at_call 10; with_reducible refine HRN.out.mono ?_; rintro e w1 ⟨a, rfl, hV⟩; have hV2 := ((hV.alloc (.cells #[.pointer (some ⟨a, 0, none⟩), .bool false] 44)).alloc (.cells #[.slice none 0 0] 25)).pick3.pick3; rw [World.size_alloc] at hV2)
          | (go_at_call 11; refine (HN.out _ _ _ _ hV2).mono ?_; rintro e w2 ⟨rfl, hU⟩))
        obtain ⟨b, hb⟩ : ∃ b, b = w1.heap.size := ⟨_, rfl⟩
        rw [← hb, ← hbr] at hU ⊢
        clear hb hbr hV2 hV HN HRN hR r0 r1 hsz T T2 T3 he3 het h1 h2
        generalize hM : HP.one br (.cells #[.slice none 0 0] 25 (0, 0)) :: L = M at *
        have HM := Lib.hid hM; clear hM
        go_loopw [27] (fun i wr => AcRel s1 w0 b a (b + 1) M n i wr) (fun i _ => n - (intOf i).toNat)
        case atStart => exact ⟨0, none, 0, [], rfl, by omega, ((hU.pick3.row_nil _ _).pick2.own_emp fun w => All2.nil _)⟩
        case round =>
          clear hU
          obtain ⟨k, ao, cap, vs, rfl, hk, hV⟩ := hrel
          have hokk := Ok.rep (fun s h => h.ract) hok2 k
          by_cases hlt : k < n
          · have HS := Lib.hid (show rep ract (k + 1) s1 = ((rep ract k s1).1 ++ [(ract (rep ract k s1).2).1], (ract (rep ract k s1).2).2) from rfl)
            generalize rep ract k s1 = q at *
            obtain ⟨l0, s2⟩ := q
            simp only at hokk hV HS
            have HRA := Lib.hid (show ract s2 = (((rtypes s2).1, (rtypes (rtypes s2).2).1, (rtypes (rtypes (rtypes s2).2).2).1, (rcode (rtypes (rtypes (rtypes s2).2).2).2).1, (rtabs (rcode (rtypes (rtypes (rtypes s2).2).2).2).2).1, ()), (rtabs (rcode (rtypes (rtypes (rtypes s2).2).2).2).2).2) from rfl)
            have hV1 := hV.pick5.pick5
            have k1 := rdtypes_any s2 hokk hV1
            have ok1 := hokk.rtypes
            have K1 := Lib.hid k1; clear k1
            generalize rtypes s2 = q at *
            obtain ⟨p, s3⟩ := q
            simp only at K1 ok1 HRA
            have k2 := fun (w : World) (L : List HP) (h : At w0 w (RdP b a s3.2 :: ReaderC a s3.1 :: L)) => rdtypes_any s3 ok1 h
            have ok2 := ok1.rtypes
            have K2 := Lib.hid k2; clear k2
            generalize rtypes s3 = q at *
            obtain ⟨r, s4⟩ := q
            simp only at K2 ok2 HRA
            have k3 := fun (w : World) (L : List HP) (h : At w0 w (RdP b a s4.2 :: ReaderC a s4.1 :: L)) => rdtypes_any s4 ok2 h
            have ok3 := ok2.rtypes
            have K3 := Lib.hid k3; clear k3
            generalize rtypes s4 = q at *
            obtain ⟨m, s5⟩ := q
            simp only at K3 ok3 HRA
            have k4 := fun (w : World) (L : List HP) (h : At w0 w (RdP b a s5.2 :: ReaderC a s5.1 :: L)) => rdcode_any s5 ok3 h
            have ok4 := ok3.rcode
            have K4 := Lib.hid k4; clear k4
            generalize rcode s5 = q at *
            obtain ⟨c, s6⟩ := q
            simp only at K4 ok4 HRA
            have k5 := fun (w : World) (L : List HP) (h : At w0 w (RdP b a s6.2 :: ReaderC a s6.1 :: L)) => rdtables_any s6 ok4 h
            have K5 := Lib.hid k5; clear k5
            generalize rtabs s6 = q at *
            obtain ⟨ts, s7⟩ := q
            simp only at K5 HRA
            clear ok1 ok2 ok3 ok4 hokk
            generalize p.length = nP at *
            generalize r.length = nR at *
            generalize m.length = nM at *
            generalize c.length = nC at *
            generalize ts.length = nT at *
            go_wp2_with (first
              | (go_at_call 12; with_reducible refine K1.out.mono ?_; rintro e w3 ⟨aP, cP, rfl, h1⟩; have h1b := h1.alloc (.cells #[.slice aP nP cP, .slice none 0 0, .slice none 0 0, .slice none 0 0, .slice none 0 0] 37); have h1c := h1b.pick4.pick4)
              | (go_at_call 12; with_reducible refine (K2.out _ _ h1c).mono ?_; rintro e w4 ⟨aR, cR, rfl, h2⟩; have x1 := h2.pick4.cell 1; have y1 := h2.pick4.free 1; have h2b := h2.pick4.setCell 1 (.slice aR nR cR); have h2c := h2b.pick4.pick4)
              | (go_at_call 12; with_reducible refine (K3.out _ _ h2c).mono ?_; rintro e w5 ⟨aM, cM, rfl, h3⟩; have x2 := h3.pick4.cell 2; have y2 := h3.pick4.free 2; have h3b := h3.pick4.setCell 2 (.slice aM nM cM); have h3c := h3b.pick4.pick4)
              | (go_at_call 13; with_reducible refine (K4.out _ _ h3c).mono ?_; rintro e w6 ⟨aC, cC, rfl, h4⟩; have x3 := h4.pick4.cell 3; have y3 := h4.pick4.free 3; have h4b := h4.pick4.setCell 3 (.slice aC nC cC); have h4c := h4b.pick4.pick4)
              | (go_at_call 14; with_reducible refine (K5.out _ _ h4c).mono ?_; rintro e w7 ⟨aT, cT, rfl, h5⟩; have x4 := h5.pick4.cell 4; have y4 := h5.pick4.free 4; have h5b := h5.pick4.setCell 4 (.slice aT nT cT); have z0 := h5b.cell 0; have z1 := h5b.cell 1; have z2 := h5b.cell 2; have z3 := h5b.cell 3; have z4 := h5b.cell 4; have z5 := h5b.pick10.cell 0; have hal := h5b.pick11.alloc (.cells #[.slice aP nP cP, .slice aR nR cR, .slice aM nM cM, .slice aC nC cC, .slice aT nT cT] 37); have hrn := hal.rdN; simp only [World.size_setCell] at hal hrn)
              | (at_builtin; refine wpList_append_row rfl (.tmp 45) (.tmp 47) 23 rfl (.agg #[.slice none 0 0, .slice none 0 0, .slice none 0 0, .slice none 0 0, .slice none 0 0]) 120 under_actors info_actor rfl (by decide) hal.pick2 rfl _ 1 1 [.slice aP nP cP, .slice aR nR cR, .slice aM nM cM, .slice aC nC cC, .slice aT nT cT] rfl rfl hrn (by intro u hu; simp at hu; rcases hu with rfl | rfl | rfl | rfl | rfl <;> rfl) (by unfold maxLen; omega) (by omega) ?_; intro ao' cap' w' hX; have hY := hX.pick2.drop.pick2.drop; have v0 := hY.pick10.cell 0; have v1 := hY.pick10.free 0; have hZ := hY.pick10.setCell 0 (.slice ao' (k + 1) cap')))
            go_roundw
            case rel =>
              refine ⟨k + 1, ao', cap', vs ++ [[.slice aP nP cP, .slice aR nR cR, .slice aM nM cM, .slice aC nC cC, .slice aT nT cT]], by go_num, by omega, ?_⟩
              rw [HS.out, HRA.out, flatten_snoc]
              have hj := hZ.pick3.pick6.own_join.pick6.own_join.pick6.own_join.pick6.own_join
              exact ((hj.own_imp (R' := fun w => kActor.R w (p, r, m, c, ts, ()) [.slice aP nP cP, .slice aR nR cR, .slice aM nM cM, .slice aC nC cC, .slice aT nT cT]) (fun w h => actor_of h.1 h.2.1 h.2.2.1 h.2.2.2.1 h.2.2.2.2)).pick6.own_snoc kActor)
            case measure => simp [intOf]; omega
          · have hkn : k = n := by omega
            subst hkn
            have hK := hV.pick3.row_kn kActor (by decide)
            clear hV
            obtain ⟨q, hq⟩ : ∃ q, q = rep ract k s1 := ⟨_, rfl⟩
            rw [← hq] at hK hokk
            have HQ := Lib.hid hq.symm; clear hq
            obtain ⟨l0, R, bad⟩ := q
            simp only at hK hokk
            rw [← HM.out] at hK
            have HKL := Lib.hid hK.own.1
            have c0 := hK.pick2.cell 0
            have c1 := At.cell hK.pick3 0
            have c2 := At.cell hK.pick3 1
            have y0 := hK.pick5.cell 0
            have y1 := hK.pick5.free 0
            cases bad with
            | true =>
              have hF := hK.pick5.setCell 0 (.slice none 0 0)
              have y2 := hF.cell 0
              go_wp2
              refine bodyPost_ret (by simp [results, Try.f5, go_sem, y2]; try rfl) rfl ?_
              have hre := HRES.out; rw [HQ.out] at hre
              simp only [Bool.true_or, if_true] at hre
              rw [hre]
              exact ⟨none, 0, rfl, hF.drop.drop.drop.drop.drop.own_emp HNIL.out⟩
            | false =>
              have he := rend_any hokk.p hokk.l hK.pick4
              have HE := Lib.hid he; clear he
              by_cases hfin : R.fin = 0
              · have T1 : (R.fin != 0) = false := by simp [hfin]
                have hD1 : decide (R.fin ≠ 0) = false := by simp [hfin]
                have HD1 := Lib.hid hD1; clear hD1
                have HFIN := Lib.hid hfin; clear hfin
                clear T1
                have T1 : (R.fin != 0) = false := by simp [HFIN.out]
                have hri := fun q => modRight_any (w0 := w0) (w := wr.drewN q) l0 ao k cap HKL.out.symm (by unfold maxLen; omega) ((hK.drewN q).own.2.2.2.2) (hK.drewN q)
                obtain ⟨ev, hev⟩ : ∃ ev, ev = err (l0.map toAct) := ⟨_, rfl⟩
                rw [← hev] at hri
                have HEV := Lib.hid hev.symm; clear hev
                by_cases herr : ev = 0
                · have T2 : (ev != 0) = false := by simp [herr]
                  have hD2 : decide (ev ≠ 0) = false := by simp [herr]
                  have HD2 := Lib.hid hD2; clear hD2 herr
                  have HRI := Lib.hid hri; clear hri
                  go_wp2_with (first
                    | (go_at_call 15; with_reducible refine HE.out.mono ?_; rintro e w3 ⟨rfl, q, rfl⟩; have hKq := hK.drewN q; have c5 := hKq.pick2.cell 0)
                    | (go_at_call 16; with_reducible refine (HRI.out _).mono ?_; rintro e w4 ⟨rfl, hG⟩; have g0 := hG.pick2.cell 0; have g1 := hG.pick5.cell 0; have g2 := hG.pick5.free 0; have hF := hG.pick5.setCell 0 (.slice ao k cap); have y3 := hF.cell 0))
                  refine bodyPost_ret (by simp [results, Try.f5, go_sem, y3]; try rfl) rfl ?_
                  have hre := HRES.out; rw [HQ.out] at hre
                  simp only [HEV.out, HD1.out, HD2.out, Bool.or_false, Bool.false_eq_true, if_false] at hre
                  rw [hre]
                  simp only
                  rw [← HKL.out]
                  exact ⟨ao, cap, rfl, hF.drop.pick2.drop.pick2.drop.pick2.drop⟩
                · have T2 : (ev != 0) = true := by simp [herr]
                  have hD2 : decide (ev ≠ 0) = true := by simp [herr]
                  have HD2 := Lib.hid hD2; clear hD2 herr
                  have HRI := Lib.hid hri; clear hri
                  go_wp2_with (first
                    | (go_at_call 15; with_reducible refine HE.out.mono ?_; rintro e w3 ⟨rfl, q, rfl⟩; have hKq := hK.drewN q; have c5 := hKq.pick2.cell 0)
                    | (go_at_call 16; with_reducible refine (HRI.out _).mono ?_; rintro e w4 ⟨rfl, hG⟩; have g0 := hG.pick2.cell 0; have g1 := hG.pick5.cell 0; have g2 := hG.pick5.free 0; have hF := hG.pick5.setCell 0 (.slice none 0 0); have y3 := hF.cell 0))
                  refine bodyPost_ret (by simp [results, Try.f5, go_sem, y3]; try rfl) rfl ?_
                  have hre := HRES.out; rw [HQ.out] at hre
                  simp only [HEV.out, HD2.out, Bool.or_true, if_true] at hre
                  rw [hre]
                  exact ⟨none, 0, rfl, hF.drop.drop.drop.drop.drop.own_emp HNIL.out⟩
              · have T1 : (R.fin != 0) = true := by simp [hfin]
                have hD1 : decide (R.fin ≠ 0) = true := by simp [hfin]
                have HD1 := Lib.hid hD1; clear hD1 hfin
                go_wp2_with (first
                  | (go_at_call 15; with_reducible refine HE.out.mono ?_; rintro e w3 ⟨rfl, q, rfl⟩; have hKq := hK.drewN q; have g1 := hKq.pick5.cell 0; have g2 := hKq.pick5.free 0; have hF := hKq.pick5.setCell 0 (.slice none 0 0); have y3 := hF.cell 0))
                refine bodyPost_ret (by simp [results, Try.f5, go_sem, y3]; try rfl) rfl ?_
                have hre := HRES.out; rw [HQ.out] at hre
                simp only [HD1.out, Bool.or_true, Bool.true_or, if_true] at hre
                rw [hre]
                exact ⟨none, 0, rfl, hF.drop.drop.drop.drop.drop.own_emp HNIL.out⟩
      · have T3 : (!(str (text.take 3)).toList == [67, 66, 49]) = true := by rw [hl3]; simpa using h3
        have e : mread text = ([], 5) := by rw [mread, if_neg h1, if_pos h3]
        rw [e]
        clear e hl3
        go_enter Try.func5, Try.ntmps5
        go_wp2
        refine bodyPost_ret (by simp [results, Try.f5, go_sem, r0]; try rfl) rfl ?_
        exact ⟨none, 0, rfl, hR.drop.own_emp hnil⟩
end
end Go.Proofs.Ytebolbjbfnolpab
