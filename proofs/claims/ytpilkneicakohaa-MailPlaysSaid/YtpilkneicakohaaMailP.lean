/-
  The law MailPlays.
-/
import Derived.Test.YtpilkneicakohaaMailM
import Derived.Deep.DeepCutAuto
import Derived.Deep.CutBlock
namespace Go.Proofs.Ytpilkneicakohaa
open Go.RowKit HP
open Mail (M)

/-- a step's cells -/
def opv (k t n : Int) (ao : Option Addr) (ln cap : Nat) (i : Int) : Array Value := #[.int .i64 k, .int .i64 t, .int .i64 n, .slice ao ln cap, .int .i64 i]
theorem ops_at {w : World} {ao : Option Addr} {li : List OpD} (h : Kn.At_ kOp w ao li) (k : Nat) (hk : k < li.length) :
    ∃ b off at_ cap, ao = some ⟨b, off, none⟩ ∧ Rd w at_ (li[k].2.2.1.map (Value.int .i64)) ∧ li[k].2.2.1.length ≤ maxLen ∧ (-9223372036854775808 ≤ li[k].1 ∧ li[k].1 ≤ 9223372036854775807) ∧
      ∀ j u, (opv li[k].1 li[k].2.1.1 li[k].2.1.2.1 at_ li[k].2.2.1.length cap li[k].2.2.2.1)[j]? = some u → w.cell? ⟨b, off + (k * 5 + j), none⟩ = some u := by
  rcases h with rfl | ⟨b, off, rfl, h⟩
  · simp at hk
  · obtain ⟨cs, hR, hc⟩ := h k _ (List.getElem?_eq_getElem hk)
    obtain ⟨at_, cap, rfl, h1, h2, h3, _⟩ := op_open hR
    exact ⟨b, off, at_, cap, rfl, h1, h2, h3, fun j u hj => hc j u (by simpa [opv] using hj)⟩

section
variable {w0 w : World} {L : List HP}
theorem At.rot4 {A B C D : HP} (h : At w0 w (A :: B :: C :: D :: L)) : At w0 w (B :: C :: D :: A :: L) := (h.pick4.pick4.pick4)
theorem At.c5 {A B : HP} {o : Nat} {v0 v1 v2 v3 v4 : Value} {T : TypeId} (h : At w0 w (A :: B :: one o (.cells #[v0, v1, v2, v3, v4] T (0, 0)) :: L)) :
    w.cell? ⟨o, 0, none⟩ = some v0 ∧ w.cell? ⟨o, 1, none⟩ = some v1 ∧ w.cell? ⟨o, 2, none⟩ = some v2 ∧ w.cell? ⟨o, 3, none⟩ = some v3 ∧ w.cell? ⟨o, 4, none⟩ = some v4 :=
  ⟨h.pick3.cell 0, h.pick3.cell 1, h.pick3.cell 2, h.pick3.cell 3, h.pick3.cell 4⟩
theorem kind4 (k : Int) : k % 4 = 0 ∨ k % 4 = 1 ∨ k % 4 = 2 ∨ k % 4 = 3 := by omega
end
theorem Mail.at_cases (l : List M) (i : Int) : (∃ k : Nat, ∃ h : k < l.length, i = k ∧ Mail.at_ l i = (l[k], true)) ∨ ((decide (i < 0) = true ∨ (decide (i < 0) = false ∧ decide ((l.length : Int) ≤ i) = true)) ∧ Mail.at_ l i = ((0, 0), false)) := by
  by_cases hi : 0 ≤ i ∧ i < l.length
  · refine .inl ⟨i.toNat, by omega, by omega, ?_⟩
    rw [Mail.at_, if_pos hi]
    have : i.toNat < l.length := by omega
    simp [this]
  · refine .inr ⟨?_, by rw [Mail.at_, if_neg hi]⟩
    simp only [decide_eq_true_eq, decide_eq_false_iff_not]; omega

def PlaysRel (w0 : World) (b m : Nat) (n : Nat) (i : Value) (wr : World) : Prop := ∃ (k : Nat) (l : List M), i = .int .i64 k ∧ k ≤ n ∧ l.length ≤ 16 ∧ At w0 wr [BoxC b l, RBoxC m l]

/-- where the ways of a step meet again -/
def MidRel (w0 : World) (b m o : Nat) (cs : Array Value) (s7 : Value) (wx : World) : Prop := ∃ l : List M, s7 = .bool true ∧ l.length ≤ 16 ∧ At w0 wx [BoxC b l, RBoxC m l, one o (.cells cs 34 (0, 0))]

set_option maxHeartbeats 16000000 in
set_option maxRecDepth 100000 in
theorem mailPlays_any (li : List OpD) (ao : Option Addr) (cap : Nat) (hm : li.length ≤ maxLen) (w : World) (hops : Kn.At_ kOp w ao li) :
    Calls Try.prog 3 #[.slice ao li.length cap] w fun e w' => e = .returned (.bool true) ∧ Below w.heap.size w w' := by
  obtain ⟨W0, hW⟩ : ∃ W0, W0 = w := ⟨_, rfl⟩
  have hA : At W0 w [] := hW ▸ At.start w
  have hi0 : Kn.At_ kOp W0 ao li := hW ▸ hops
  clear hops
  have HW := Lib.hid hW; clear hW
  unfold maxLen at hm
  go_enter Try.func3, Try.ntmps3
  go_wp2_with (first
    | (go_at_call 8; refine (lives_any hA).mono ?_; rintro e w1 ⟨rfl, hA1⟩)
    | (go_at_call 9; refine (mnew_any hA1).mono ?_; rintro e w2 ⟨b, rfl, hA2⟩; have hA3 := (hA2.alloc (.cells #[.slice none 0 0] 29)).pick2' (fun h => h.row_nil 31 2); have hA4 := RBoxC.cl (l := []) hA3))
  go_loopw [5] (fun i wr => PlaysRel W0 b w2.heap.size li.length i wr) (fun i _ => li.length - (intOf i).toNat)
  case atStart => exact ⟨0, [], rfl, by omega, by simp, hA4.pick2⟩
  case round =>
    obtain ⟨k, l, rfl, hk, hl16, hr⟩ := hrel
    generalize w2.heap.size = m at *
    by_cases hlt : k < li.length
    · obtain ⟨ob, off, at_, cp, rfl, hts, htm, hkb, hc⟩ := ops_at hi0 k hlt
      generalize li[k] = op at *
      obtain ⟨kd, ⟨t, n, _⟩, ts, ip, _⟩ := op
      simp only [opv] at hts htm hkb hc
      have d0 := hr.oldCell (hc 0 _ rfl)
      have d1 := hr.oldCell (hc 1 _ rfl)
      have d2 := hr.oldCell (hc 2 _ rfl)
      have d3 := hr.oldCell (hc 3 _ rfl)
      have d4 := hr.oldCell (hc 4 _ rfl)
      simp only [← Nat.add_assoc, Nat.add_zero] at d0 d1 d2 d3 d4
      clear hc
      have hB := ((hr.alloc (.cells (opv kd t n at_ ts.length cp ip) 34)).pick3.pick3)
      simp only [opv] at hB
      have HTS := Lib.hid hts; clear hts
      go_upto_block 2 with (go_at_call 10; refine (kind_any kd t n _ at_ ts.length cp _ rfl hB).mono ?_; rintro e w4 ⟨rfl, hC⟩; obtain ⟨o0, o1, o2, o3, o4⟩ := hC.c5)
      go_cut [7] (fun s7 wx => MidRel W0 b m wr.heap.size (opv kd t n at_ ts.length cp ip) s7 wx)
      case first =>
        rcases kind4 kd with hq | hq | hq | hq
        · as_aux_lemma =>
            have k0 : (kd % 4 == 0) = true := by rw [hq]; rfl
            have k1 : (kd % 4 == 1) = false := by rw [hq]; rfl
            have k2 : (kd % 4 == 2) = false := by rw [hq]; rfl
            have k3 : (kd % 4 == 3) = false := by rw [hq]; rfl
            have KQ := Lib.hid hq; clear hq
            have hpu := fun w L hA => mput_any (w0 := W0) (w := w) (L := L) (a := b) (l := l) t n hl16 hA
            have hru := fun w L hA => rput_any (w0 := W0) (w := w) (L := L) (a := m) (l := l) t n hl16 hA
            have hpl16 := Mail.put_len (t, n) l hl16
            generalize Mail.put (t, n) l = pp at *
            obtain ⟨pe, pl⟩ := pp
            simp only at hpu hru hpl16
            have HPU := Lib.hid hpu; clear hpu
            have HRU := Lib.hid hru; clear hru
            go_wp2
            go_region_held3 (fun w' => w'.cell? ⟨wr.heap.size, 1, none⟩ = some (.int .i64 t) ∧ w'.cell? ⟨wr.heap.size, 2, none⟩ = some (.int .i64 n))
              (first | assumption | (exact ⟨hE.c5.2.1, hE.c5.2.2.1⟩) | (exact ⟨hD.c5.2.1, hD.c5.2.2.1⟩) | (exact ⟨o1, o2⟩))
              (first
              | (go_at_call 11; refine (HPU.out _ _ hC.drew).mono ?_; rintro e w5 ⟨rfl, hD⟩)
              | (go_at_call 12; refine (HRU.out _ _ hD.pick2).mono ?_; rintro e w6 ⟨rfl, hE⟩))
            go_wp2
            go_meet
            exact ⟨pl, rfl, hpl16, hE.pick2⟩
        · as_aux_lemma =>
            have k0 : (kd % 4 == 0) = false := by rw [hq]; rfl
            have k1 : (kd % 4 == 1) = true := by rw [hq]; rfl
            have k2 : (kd % 4 == 2) = false := by rw [hq]; rfl
            have k3 : (kd % 4 == 3) = false := by rw [hq]; rfl
            have KQ := Lib.hid hq; clear hq
            have hf := fun w L hA hrd => mfind_any (w0 := W0) (L := L) (a := b) (l := l) ts at_ cp htm w hrd hl16 hA
            have hrf := fun w L hA hrd => rfind_any (w0 := W0) (w := w) (L := L) (a := m) (l := l) ts at_ cp htm hrd hl16 hA
            generalize Mail.find ts l 0 = pp at *
            obtain ⟨x, p⟩ := pp
            simp only at hf hrf
            have HF := Lib.hid hf; clear hf
            have HRF := Lib.hid hrf; clear hrf
            go_wp2_with (first
              | (go_at_call 13; refine (HF.out _ _ hC (HTS.out.old hC)).mono ?_; rintro e w5 ⟨rfl, hD⟩; obtain ⟨r0, r1, r2, r3, r4⟩ := hD.c5)
              | (go_at_call 14; refine (HRF.out _ _ hD.pick2 (HTS.out.old hD)).mono ?_; rintro e w6 ⟨rfl, rfl⟩))
            go_meet
            exact ⟨l, rfl, hl16, hD⟩
        · as_aux_lemma =>
            have k0 : (kd % 4 == 0) = false := by rw [hq]; rfl
            have k1 : (kd % 4 == 1) = false := by rw [hq]; rfl
            have k2 : (kd % 4 == 2) = true := by rw [hq]; rfl
            have k3 : (kd % 4 == 3) = false := by rw [hq]; rfl
            have KQ := Lib.hid hq; clear hq
            have hta := fun w L hA => mtake_any (w0 := W0) (w := w) (L := L) (a := b) (l := l) ip hl16 hA
            have hrt := fun w L hA => rtake_any (w0 := W0) (w := w) (L := L) (a := m) (l := l) ip hl16 hA
            have htl := Mail.take_len l ip hl16
            generalize Mail.at_ l ip = pp at *
            generalize Mail.take l ip = tl at *
            obtain ⟨⟨u1, u2⟩, p⟩ := pp
            simp only at hta hrt
            have HTA := Lib.hid hta; clear hta
            have HRT := Lib.hid hrt; clear hrt
            go_wp2_with (first
              | (go_at_call 15; refine (HTA.out _ _ hC).mono ?_; rintro e w7 ⟨rfl, hG⟩; have hG2 := (hG.alloc (.cells #[.int .i64 u1, .int .i64 u2] 31)).rot4; obtain ⟨g0, g1, g2, g3, g4⟩ := hG2.c5)
              | (go_at_call 16; refine (HRT.out _ _ hG2.pick2).mono ?_; rintro e w8 ⟨rfl, hE⟩; have hE2 := (hE.alloc (.cells #[.int .i64 u1, .int .i64 u2] 31)).rot4.pick2; obtain ⟨q0, q1, q2, q3, q4⟩ := hE2.c5; have a0 := hE2.pick4.cell 0; have a1 := hE2.pick4.cell 1; have e0 := hE2.pick5.cell 0; have e1 := hE2.pick5.cell 1))
            go_meet
            exact ⟨tl, rfl, htl, hE2.pick4.drop.pick4.drop⟩
        · as_aux_lemma =>
            have k0 : (kd % 4 == 0) = false := by rw [hq]; rfl
            have k1 : (kd % 4 == 1) = false := by rw [hq]; rfl
            have k2 : (kd % 4 == 2) = false := by rw [hq]; rfl
            have k3 : (kd % 4 == 3) = true := by rw [hq]; rfl
            have KQ := Lib.hid hq; clear hq
            have hf := fun w L hA hrd => mfind_any (w0 := W0) (L := L) (a := b) (l := l) ts at_ cp htm w hrd hl16 hA
            have hrf := fun w L hA hrd => rfind_any (w0 := W0) (w := w) (L := L) (a := m) (l := l) ts at_ cp htm hrd hl16 hA
            generalize Mail.find ts l 0 = pp at *
            obtain ⟨x, p⟩ := pp
            simp only at hf hrf
            have HF := Lib.hid hf; clear hf
            have HRF := Lib.hid hrf; clear hrf
            cases p with
            | false =>
              go_wp2_with (first
                | (go_at_call 13; refine (HF.out _ _ hC (HTS.out.old hC)).mono ?_; rintro e w5 ⟨rfl, hD⟩; obtain ⟨r0, r1, r2, r3, r4⟩ := hD.c5)
                | (go_at_call 14; refine (HRF.out _ _ hD.pick2 (HTS.out.old hD)).mono ?_; rintro e w6 ⟨rfl, rfl⟩))
              go_meet
              exact ⟨l, rfl, hl16, hD⟩
            | true =>
              have hta := fun w L hA => mtake_any (w0 := W0) (w := w) (L := L) (a := b) (l := l) x hl16 hA
              have hrt := fun w L hA => rtake_any (w0 := W0) (w := w) (L := L) (a := m) (l := l) x hl16 hA
              have htl := Mail.take_len l x hl16
              generalize Mail.at_ l x = pp at *
              generalize Mail.take l x = tl at *
              obtain ⟨⟨u1, u2⟩, p⟩ := pp
              simp only at hta hrt
              have HTA := Lib.hid hta; clear hta
              have HRT := Lib.hid hrt; clear hrt
              go_wp2_with (first
                | (go_at_call 13; refine (HF.out _ _ hC (HTS.out.old hC)).mono ?_; rintro e w5 ⟨rfl, hD⟩; obtain ⟨r0, r1, r2, r3, r4⟩ := hD.c5)
                | (go_at_call 14; refine (HRF.out _ _ hD.pick2 (HTS.out.old hD)).mono ?_; rintro e w6 ⟨rfl, rfl⟩)
                | (go_at_call 15; refine (HTA.out _ _ hD).mono ?_; rintro e w7 ⟨rfl, hG⟩; have hG2 := (hG.alloc (.cells #[.int .i64 u1, .int .i64 u2] 31)).rot4; obtain ⟨g0, g1, g2, g3, g4⟩ := hG2.c5)
                | (go_at_call 16; refine (HRT.out _ _ hG2.pick2).mono ?_; rintro e w8 ⟨rfl, hE⟩; have hE2 := (hE.alloc (.cells #[.int .i64 u1, .int .i64 u2] 31)).rot4.pick2; obtain ⟨q0, q1, q2, q3, q4⟩ := hE2.c5; have a0 := hE2.pick4.cell 0; have a1 := hE2.pick4.cell 1; have e0 := hE2.pick5.cell 0; have e1 := hE2.pick5.cell 1))
              go_meet
              exact ⟨tl, rfl, htl, hE2.pick4.drop.pick4.drop⟩
      case rest =>
        obtain ⟨LL, rfl, hL16, hM⟩ := hcut
        simp only [opv] at hM
        obtain ⟨i0, i1, i2, i3, i4⟩ := hM.c5
        have hat := fun w L hA => mat_any (w0 := W0) (w := w) (L := L) (a := b) (l := LL) ip hL16 hA
        rcases Mail.at_cases LL ip with ⟨k2, hk2, hik, hae⟩ | ⟨hout, hae⟩
        · as_aux_lemma =>
            rw [hae] at hat
            obtain ⟨x1, x2, hx⟩ : ∃ x1 x2, LL[k2] = (x1, x2) := ⟨_, _, rfl⟩
            rw [hx] at hat
            have HLK := Lib.hid hx; clear hx hae
            simp only at hat
            have HAT := Lib.hid hat; clear hat
            subst hik
            go_wp2_with (first
              | (go_at_call 17; refine (HAT.out _ _ hM).mono ?_; rintro e w9 ⟨rfl, hF⟩; have hG := (hF.alloc (.cells #[.int .i64 x1, .int .i64 x2] 31)).rot4; obtain ⟨p0, p1, p2, p3, p4⟩ := hG.c5; obtain ⟨ao2, cap2, hO⟩ := RBoxC.op hG.pick2; have s0 := hO.cell 0; have y0 := hG.pick4.cell 0; have y1 := hG.pick4.cell 1; obtain ⟨og, oo, rfl, hoc⟩ := hO.drop.rd.some_ (by rw [mvs_len]; omega); have z0 := hoc _ _ (mvs_get LL k2 hk2).1; have z1 := hoc _ _ (mvs_get LL k2 hk2).2; rw [HLK.out] at z0 z1; rw [← Nat.add_assoc] at z1; clear hoc))
            go_quiet (first | (go_at_call 18; exact Calls.quiet_of_same ((mlen_any (by first | exact hG | exact hG.drew | exact hG.drewN _)).mono fun _ _ h => ⟨h.1, h.2.symm⟩)))
            go_wp2
            go_roundw
            case rel => exact ⟨k + 1, LL, by go_num, by omega, hL16, (hG.drewN _).pick4.drop.pick3.drop⟩
            case measure => simp [intOf]; omega
        · rw [hae] at hat
          have HAT := Lib.hid hat; clear hat hae
          have hout2 : (decide (0 ≤ ip) = false) ∨ (decide (0 ≤ ip) = true ∧ decide (ip < (LL.length : Int)) = false) := by
            simp only [decide_eq_true_eq, decide_eq_false_iff_not] at hout ⊢; omega
          clear hout
          rcases hout2 with hout2 | ⟨hout2, hout3⟩
          all_goals
            as_aux_lemma =>
              go_wp2_with (first
                | (go_at_call 17; refine (HAT.out _ _ hM).mono ?_; rintro e w9 ⟨rfl, hF⟩; have hG := (hF.alloc (.cells #[.int .i64 0, .int .i64 0] 31)).rot4; obtain ⟨p0, p1, p2, p3, p4⟩ := hG.c5; obtain ⟨ao2, cap2, hO⟩ := RBoxC.op hG.pick2; have s0 := hO.cell 0; have y0 := hG.pick4.cell 0; have y1 := hG.pick4.cell 1; skip))
              go_quiet (first | (go_at_call 18; exact Calls.quiet_of_same ((mlen_any (by first | exact hG | exact hG.drew | exact hG.drewN _)).mono fun _ _ h => ⟨h.1, h.2.symm⟩)))
              go_wp2
              go_roundw
              case rel => exact ⟨k + 1, LL, by go_num, by omega, hL16, (hG.drewN _).pick4.drop.pick3.drop⟩
              case measure => simp [intOf]; omega
    · have hkl : k = li.length := by omega
      subst hkl
      have hlall := fun w L hA => lall_any (w0 := W0) (L := L) (a := b) (l := l) w hl16 hA
      obtain ⟨ao2, cap2, hO⟩ := RBoxC.op hr.pick2
      have s0 := hO.cell 0
      have hP := hO.pick3
      go_wp2
      go_region_held3 (fun w' => w'.cell? ⟨m, 0, none⟩ = some (.slice ao2 l.length cap2))
        (first | assumption | exact hD.pick3.cell 0 | exact s0)
        (first
        | (go_at_call 20; refine (hlall _ _ hP.drew).mono ?_; rintro e w4 ⟨ao3, cap3, rfl, hD⟩)
        | (go_at_call 19; refine (same_any l l ao3 ao2 _ _ cap3 cap2 rfl rfl (by unfold maxLen; omega) (by unfold maxLen; omega) hD.rd hD.pick4.rd).mono ?_; rintro e w5 ⟨rfl, q, rfl⟩))
      all_goals
        go_wp2
        go_returns
        exact ⟨by simp, HW.out ▸ (hD.drewN q).below⟩
end Go.Proofs.Ytpilkneicakohaa
