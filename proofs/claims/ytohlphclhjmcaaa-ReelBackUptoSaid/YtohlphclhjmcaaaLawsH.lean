/-
  The law ReelBack.
-/
import Derived.Test.YtohlphclhjmcaaaLawsG
namespace Go.Proofs.Ytohlphclhjmcaaa
open Go.RowKit HP

/-- the bytes of the first k items -/
def encs (li : List ItemD) (k : Nat) : List UInt8 := (li.take k).flatMap fun d => (toItem d).enc
theorem encs_succ (li : List ItemD) (k : Nat) (h : k < li.length) : encs li (k + 1) = encs li k ++ (toItem li[k]).enc := by
  unfold encs
  rw [← List.take_append_getElem h, List.flatMap_append]; simp
theorem encs_split (li : List ItemD) (k : Nat) (h : k < li.length) : ∃ r, encs li li.length = encs li k ++ ((toItem li[k]).enc ++ r) := by
  refine ⟨(li.drop (k + 1)).flatMap fun d => (toItem d).enc, ?_⟩
  rw [← List.append_assoc, ← encs_succ li k h]
  unfold encs
  rw [List.take_length, ← List.flatMap_append, List.take_append_drop]

section
variable {w0 w : World} {L : List HP} {a : Nat} {W : Reel.W}

set_option maxHeartbeats 4000000 in
set_option maxRecDepth 100000 in
theorem reelBack_any (lim : Int) (hlo : -9223372036854775808 ≤ lim) (hhi : lim ≤ 9223372036854775807) (li : List ItemD) (ao : Option Addr) (cap : Nat) (w : World) (hi : Kn.At_ kItem w ao li) (h1 : li.length ≤ cap) (h2 : cap ≤ maxLen) (hn : li.length ≤ 1048576) :
    Calls Try.prog 7 #[.int .i64 lim, .slice ao li.length cap] w fun e w' => e = .returned (.bool true) ∧ Below w.heap.size w w' := by
  obtain ⟨W0, hW⟩ : ∃ W0, W0 = w := ⟨_, rfl⟩
  have hA : At W0 w [] := hW ▸ At.start w
  have hi0 : Kn.At_ kItem W0 ao li := hW ▸ hi
  clear hi
  have HW := Lib.hid hW; clear hW
  obtain ⟨mx, hmx⟩ : ∃ mx, mx = max lim 0 := ⟨_, rfl⟩
  have hmx0 : 0 ≤ mx := by omega
  have hmx9 : mx ≤ 9223372036854775807 := by omega
  have hnew : Reel.new lim = ⟨[], mx, 0⟩ := by rw [hmx]; rfl
  clear hmx
  have hstr : (str []).toList = [] := by decide +kernel
  go_enter Try.func7, Try.ntmps7
  go_wp2_with fail
  refine (lives_any hA).mono ?_
  rintro e w1 ⟨rfl, hA1⟩
  go_wp2_with fail
  refine (wnew_any lim hA1).mono ?_
  rw [hnew]
  rintro e w2 ⟨v, rfl, hA2⟩
  clear hnew
  go_wp2
  go_loopw [6] (fun iv wr => ∃ (k : Nat) (V : Reel.W), iv = .int .i64 k ∧ k ≤ li.length ∧ 0 ≤ V.room ∧ V.room + V.out.length = mx ∧ V.out.length ≤ 65546 * k ∧ (V.err = 0 → V.out = encs li k ∧ ∀ (j : Nat) (h : j < li.length), j < k → (toItem li[j]).Ok) ∧ At W0 wr [WriterC v V])
    (fun iv _ => li.length - (intOf iv).toNat)
  case atStart => exact ⟨0, _, rfl, by omega, hmx0, by simp, by simp, fun _ => ⟨by simp [encs], fun j _ h => by omega⟩, hA2⟩
  case round =>
    obtain ⟨k, V, rfl, hk, hv0, hvs, hvl, hve, hAr⟩ := hrel
    have HVE := Lib.hid hve; clear hve
    by_cases hlt : k < li.length
    · obtain ⟨ib, off, rfl, hf, hc⟩ := items_at hi0 k hlt
      have hes : encs li (k + 1) = encs li k ++ (toItem li[k]).enc := encs_succ li k hlt
      have hok : (toItem li[k]).Ok → ∀ j (h : j < li.length), (j < k → (toItem li[j]).Ok) → j < k + 1 → (toItem li[j]).Ok := by
        intro ho j h hj hjk
        by_cases e : j = k
        · subst e; exact ho
        · exact hj (by omega)
      have HES := Lib.hid hes; clear hes
      have HOK := Lib.hid hok; clear hok
      generalize toItem li[k] = y at hf hc HES HOK
      have hv0' := V.write_room y hv0
      have hvs' := (V.write_keep y).trans hvs
      have hvl' := V.write_len y hf
      have HWE := Lib.hid (V.write_err y)
      have hq1 := fun w hA => write_any (w0 := W0) (w := w) (a := v) (W := V) (L := []) y hf hA (by omega) hv0 (by omega)
      generalize V.write y = V2 at hv0' hvs' hvl' hq1 HWE
      have HQ1 := Lib.hid hq1; clear hq1
      obtain ⟨d0, d1, d2, d3⟩ := items_cells hc hAr
      go_wp2_with fail
      refine (HQ1.out _ hAr).mono ?_
      rintro e w5 ⟨rfl, hA6⟩
      go_wp2
      go_roundw
      case rel =>
        refine ⟨k + 1, V2, by push_cast; rfl, by omega, hv0', hvs', by omega, fun he => ?_, hA6⟩
        obtain ⟨g1, g2, g3, g4, g5⟩ := HWE.out he
        obtain ⟨g6, g7⟩ := HVE.out g1
        exact ⟨by rw [g4, g6, HES.out], fun j h hj => HOK.out g2 j h (g7 j h) hj⟩
      case measure => simp [intOf]; omega
    · have hkl : k = li.length := by omega
      subst hkl
      by_cases he : V.err = 0
      · obtain ⟨ho, hoks⟩ := HVE.out he
        have hd : V.done = (encs li li.length, 0) := by rw [Reel.W.done, if_pos he, ho]
        obtain ⟨t, ht⟩ : ∃ t, t = encs li li.length := ⟨_, rfl⟩
        rw [← ht] at hd
        have htl : t.length ≤ 140737488355328 := by rw [ht, ← ho]; omega
        have HO := Lib.hid ho; clear ho
        have HT := Lib.hid ht; clear ht
        have HOKS := Lib.hid hoks; clear hoks
        go_wp2_with fail
        refine (wdone_any hAr).mono ?_
        rw [hd]
        rintro e w7 ⟨rfl, n1, rfl⟩
        go_wp2_with fail
        refine (rnew_any t (hAr.drewN _)).mono ?_
        rintro e w8 ⟨b, rfl, hA8⟩
        go_wp2
        go_loopw [10] (fun iv wr => ∃ (k : Nat) (R : Reel.R), iv = .int .i64 k ∧ k ≤ li.length ∧ Reel.Back t (encs li k).length R ∧ At W0 wr [ReaderC b R, WriterC v V])
          (fun iv _ => li.length - (intOf iv).toNat)
        case atStart => exact ⟨0, _, rfl, by omega, ⟨rfl, by simp [encs, Reel.read], rfl⟩, hA8⟩
        case round =>
          obtain ⟨m, R, rfl, hm, hB, hBr⟩ := hrel
          have HB := Lib.hid hB
          obtain ⟨ht, hp, hre⟩ := hB
          by_cases hmt : m < li.length
          · obtain ⟨ib, off, rfl, hf, hc⟩ := items_at hi0 m hmt
            have hok := HOKS.out m hmt hmt
            have hes : encs li (m + 1) = encs li m ++ (toItem li[m]).enc := encs_succ li m hmt
            obtain ⟨r, hr⟩ := encs_split li m hmt
            rw [← HT.out] at hr
            have hle : (encs li m).length ≤ t.length := by rw [hr]; simp
            generalize toItem li[m] = y at hf hc hok hes hr
            obtain ⟨d0, d1, d2, d3⟩ := items_cells hc hBr
            have hBa := hBr.alloc (.cells #[.int .i64 y.k, .int .u64 y.u, .int .i64 y.n, .string (str y.s)] 34)
            have HP := Lib.hid (show R.pos ≤ R.text.length by rw [ht, hp]; exact hle)
            have HL2 := Lib.hid (show R.text.length ≤ 140737488355328 by rw [ht]; exact htl)
            have hu := hf.u
            have hfo := fold_fits y.n hf.n0 hf.n1
            have hyn := hf.n0
            have hyn2 := hf.n1
            have hys := hf.s
            have HU := Lib.hid hu; clear hu
            have HFO := Lib.hid hfo; clear hfo
            rcases kind4 y.k with hq | hq | hq | hq
            · have hk := kind_any y 0 hq hBa
              have henc : y.enc = Reel.digits y.u := by rw [Item.enc, if_pos hq]
              rw [henc] at hr hes
              have hrd := Reel.back_num (n := y.u) HU.out HB.out hr
              have HR := Lib.hid hrd
              have HK := Lib.hid hk; clear hk hrd hr henc
              
              go_wp2_with (first
                | (go_at_call 24; refine HK.out.mono ?_; rintro e w3 ⟨rfl, hC⟩; have c0 := hC.cell 0; have c1 := hC.cell 1; have c2 := hC.cell 2; have c3 := hC.cell 3))
              go_region_with (first
                | (go_at_call 25; refine (rnum_any HP.out HL2.out hC.pick2.drew).mono ?_; rw [HR.out]; rintro e w4 ⟨rfl, hC2⟩; have e1 := hC2.pick2.cell 1; have e2 := hC2.pick2.cell 2; have e3 := hC2.pick2.cell 3))
              all_goals
                go_wp2
                exact ⟨⟨m + 1, ⟨R.text, (encs li m ++ Reel.digits y.u).length, R.err⟩, by push_cast; rfl, by omega, ⟨ht, by rw [hes], hre⟩, hC2.pick2.drop⟩, by simp [intOf]; omega⟩
            · have hk := kind_any y 1 hq hBa
              have henc : y.enc = Reel.digits (Reel.fold y.n) := by rw [Item.enc, if_neg (by omega), if_pos hq]
              rw [henc] at hr hes
              have hrd := Reel.back_int (n := y.n) HFO.out HB.out hr
              have HR := Lib.hid hrd
              have HK := Lib.hid hk; clear hk hrd hr henc
              
              go_wp2_with (first
                | (go_at_call 24; refine HK.out.mono ?_; rintro e w3 ⟨rfl, hC⟩; have c0 := hC.cell 0; have c1 := hC.cell 1; have c2 := hC.cell 2; have c3 := hC.cell 3))
              go_region_with (first
                | (go_at_call 26; refine (rint_any HP.out HL2.out hC.pick2.drew).mono ?_; rw [HR.out]; rintro e w4 ⟨rfl, hC2⟩; have e1 := hC2.pick2.cell 1; have e2 := hC2.pick2.cell 2; have e3 := hC2.pick2.cell 3))
              all_goals
                go_wp2
                exact ⟨⟨m + 1, ⟨R.text, (encs li m ++ Reel.digits (Reel.fold y.n)).length, R.err⟩, by push_cast; rfl, by omega, ⟨ht, by rw [hes], hre⟩, hC2.pick2.drop⟩, by simp [intOf]; omega⟩
            · have hk := kind_any y 2 hq hBa
              have henc : y.enc = [UInt8.ofNat y.n.toNat] := by rw [Item.enc, if_neg (by omega), if_neg (by omega), if_pos hq]
              rw [henc] at hr hes
              have hrd := Reel.back_byte (n := y.n) (hok.1 hq).1 (hok.1 hq).2 HB.out hr
              have HR := Lib.hid hrd
              have HK := Lib.hid hk; clear hk hrd hr henc
              
              go_wp2_with (first
                | (go_at_call 24; refine HK.out.mono ?_; rintro e w3 ⟨rfl, hC⟩; have c0 := hC.cell 0; have c1 := hC.cell 1; have c2 := hC.cell 2; have c3 := hC.cell 3))
              go_region_with (first
                | (go_at_call 27; refine (rbyte_any HP.out HL2.out hC.pick2.drew).mono ?_; rw [HR.out]; rintro e w4 ⟨rfl, hC2⟩; have e1 := hC2.pick2.cell 1; have e2 := hC2.pick2.cell 2; have e3 := hC2.pick2.cell 3))
              all_goals
                go_wp2
                exact ⟨⟨m + 1, ⟨R.text, (encs li m ++ [UInt8.ofNat y.n.toNat]).length, R.err⟩, by push_cast; rfl, by omega, ⟨ht, by rw [hes], hre⟩, hC2.pick2.drop⟩, by simp [intOf]; omega⟩
            · have hk := kind_any y 3 hq hBa
              have henc : y.enc = Reel.digits y.s.length ++ y.s := by rw [Item.enc, if_neg (by omega), if_neg (by omega), if_neg (by omega)]
              rw [henc] at hr hes
              have hrd := Reel.back_txt (s := y.s) (by omega) HB.out hr
              have HR := Lib.hid hrd
              have HK := Lib.hid hk; clear hk hrd hr henc
              
              go_wp2_with (first
                | (go_at_call 24; refine HK.out.mono ?_; rintro e w3 ⟨rfl, hC⟩; have c0 := hC.cell 0; have c1 := hC.cell 1; have c2 := hC.cell 2; have c3 := hC.cell 3))
              go_region_with (first
                | (go_at_call 28; refine (rtext_any HP.out HL2.out hC.pick2.drew).mono ?_; rw [HR.out]; rintro e w4 ⟨rfl, hC2⟩; have e1 := hC2.pick2.cell 1; have e2 := hC2.pick2.cell 2; have e3 := hC2.pick2.cell 3))
              all_goals
                go_wp2
                exact ⟨⟨m + 1, ⟨R.text, (encs li m ++ (Reel.digits y.s.length ++ y.s)).length, R.err⟩, by push_cast; rfl, by omega, ⟨ht, by rw [hes], hre⟩, hC2.pick2.drop⟩, by simp [intOf]; omega⟩
          · have hml : m = li.length := by omega
            subst hml
            rw [← HT.out] at hp
            have hfin : R.fin = 0 := by rw [Reel.R.fin, if_pos hre, Reel.R.left, ht, hp, if_neg (by omega)]
            have hleft : R.left = 0 := by rw [Reel.R.left, ht, hp]; omega
            go_wp2_with (first
              | (go_at_call 22; refine (rend_any (by rw [ht, hp]; omega) (by rw [ht]; omega) hBr).mono ?_; rw [hfin]; rintro e w3 ⟨rfl, n4, rfl⟩)
              | (go_at_call 21; refine (rleft_any (by rw [ht, hp]; omega) (by rw [ht]; omega) (hBr.drewN _)).mono ?_; rw [hleft]; rintro e w3 ⟨rfl, n5, rfl⟩))
            go_returns
            exact ⟨rfl, HW.out ▸ (hBr.drewN _).below⟩
      · have HE : (V.err != 0) = true := by simp [he]
        have hd : V.done = ([], V.err) := by rw [Reel.W.done, if_neg he]
        go_wp2_with fail
        refine (wdone_any hAr).mono ?_
        rw [hd]
        rintro e w7 ⟨rfl, n1, rfl⟩
        go_wp2
        go_returns
        exact ⟨rfl, HW.out ▸ (hAr.drewN _).below⟩
end
namespace reelBack
theorem reelBack_walk (W : World) (a : Int) (wa : (Lit.int .i64 a).wf = true) (li : List ItemD) (v : Value) (hR : kItems.R W li [v]) (hkk : kItems.wt li ≤ 1048576) :
    Calls Try.prog 7 #[.int .i64 a, v] W fun e w' => e = .returned (.bool true) ∧ Below W.heap.size W w' := by
  obtain ⟨ao, cap, hv, h1, h2, _, hi⟩ := hR
  injection hv with hv _
  subst hv
  obtain ⟨h3, h4⟩ := wf_i64 wa
  exact reelBack_any a h3 h4 li ao cap W hi h1 h2 (items_few li hkk)
end reelBack
end Go.Proofs.Ytohlphclhjmcaaa
