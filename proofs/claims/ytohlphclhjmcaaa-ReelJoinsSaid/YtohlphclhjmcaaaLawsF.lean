/-
  The law ReelJoins.
-/
import Derived.Test.YtohlphclhjmcaaaLawsC
import Derived.Test.YtohlphclhjmcaaaReelLaw
import Derived.Test.YtohlphclhjmcaaaItemsAt
import Derived.Deep.RegionWith
namespace Go.Proofs.Ytohlphclhjmcaaa
open Go.RowKit HP

theorem str_append (a b : List UInt8) : str a ++ str b = str (a ++ b) := by
  apply ByteArray.ext
  simp [str, ByteArray.data_append]
namespace Reel
/-- One writer behind the other one's bytes. -/
structure Joined (p : Prop) (pre : List UInt8) (V X : Reel.W) : Prop where
  v0 : 0 ≤ V.room
  vs : V.room + V.out.length = 4194304
  x0 : 0 ≤ X.room
  xs : X.room + X.out.length = 8388608
  same : p → V.err = 0 → X.err = 0 ∧ X.out = pre ++ V.out
theorem Joined.write {p : Prop} {pre : List UInt8} {V X : Reel.W} (h : Joined p pre V X) (hp : pre.length ≤ 4194304) (x : Item) : Joined p pre (V.write x) (X.write x) := by
  refine ⟨V.write_room x h.v0, (V.write_keep x).trans h.vs, X.write_room x h.x0, (X.write_keep x).trans h.xs, fun hpp he => ?_⟩
  obtain ⟨h1, h2, h3, h4, h5⟩ := V.write_err x he
  obtain ⟨h6, h7⟩ := h.same hpp h1
  have hx := h.xs
  have hv := h.vs
  rw [h7, List.length_append] at hx
  obtain ⟨h8, h9⟩ := X.write_fit x h6 h2 (by omega)
  exact ⟨h8, by rw [h9, h4, h7, List.append_assoc]⟩
end Reel

section
variable {w0 w : World} {L : List HP} {a : Nat} {W : Reel.W}

set_option maxHeartbeats 4000000 in
set_option maxRecDepth 100000 in
theorem reelJoins_any (li : List ItemD) (ao : Option Addr) (cap : Nat) (lj : List ItemD) (bo : Option Addr) (cbp : Nat) (w : World) (hi : Kn.At_ kItem w ao li) (h1 : li.length ≤ cap) (h2 : cap ≤ maxLen)
    (hj : Kn.At_ kItem w bo lj) (h3 : lj.length ≤ cbp) (h4 : cbp ≤ maxLen) :
    Calls Try.prog 5 #[.slice ao li.length cap, .slice bo lj.length cbp] w fun e w' => e = .returned (.bool true) ∧ Below w.heap.size w w' := by
  obtain ⟨W0, hW⟩ : ∃ W0, W0 = w := ⟨_, rfl⟩
  have hA : At W0 w [] := hW ▸ At.start w
  have hi0 : Kn.At_ kItem W0 ao li := hW ▸ hi
  have hj0 : Kn.At_ kItem W0 bo lj := hW ▸ hj
  clear hi hj
  have HW := Lib.hid hW; clear hW
  have hmx : li.length ≤ 9223372036854775807 := by unfold maxLen at h2; omega
  have hmy : lj.length ≤ 9223372036854775807 := by unfold maxLen at h4; omega
  go_enter Try.func5, Try.ntmps5
  go_wp2_with fail
  refine (lives_any hA).mono ?_
  rintro e w1 ⟨rfl, hA1⟩
  go_wp2_with fail
  refine (wnew_any 4194304 hA1).mono ?_
  rintro e w2 ⟨v, rfl, hA2⟩
  go_wp2_with fail
  refine (wnew_any 4194304 hA2).mono ?_
  rintro e w3 ⟨u, rfl, hA3⟩
  go_wp2_with fail
  refine (wnew_any 8388608 hA3).mono ?_
  rintro e w4 ⟨x, rfl, hA4⟩
  go_wp2
  go_loopw [8] (fun iv wr => ∃ (k : Nat) (V X : Reel.W), iv = .int .i64 k ∧ k ≤ li.length ∧ Reel.Joined True [] V X ∧ At W0 wr [WriterC x X, WriterC u (Reel.new 4194304), WriterC v V])
    (fun iv _ => li.length - (intOf iv).toNat)
  case atStart => exact ⟨0, Reel.new 4194304, Reel.new 8388608, rfl, by omega, ⟨by decide, by decide, by decide, by decide, fun _ _ => ⟨rfl, rfl⟩⟩, hA4⟩
  case round =>
    obtain ⟨k, V, X, rfl, hk, hJ, hAr⟩ := hrel
    have hv0 := hJ.v0
    have hvs := hJ.vs
    have hx0 := hJ.x0
    have hxs := hJ.xs
    have HJ := Lib.hid hJ; clear hJ
    by_cases hlt : k < li.length
    · obtain ⟨ib, off, rfl, hf, hc⟩ := items_at hi0 k hlt
      generalize toItem li[k] = y at hf hc
      have HD := Lib.hid (fun w (hA : At W0 w [WriterC x X, WriterC v (V.write y), WriterC u (Reel.new 4194304)]) => items_cells hc hA)
      obtain ⟨d0, d1, d2, d3⟩ := items_cells hc hAr
      have hA5 := hAr.pick3
      go_wp2_with fail
      refine (write_any y hf hA5 (by omega) hv0 (by omega)).mono ?_
      rintro e w5 ⟨rfl, hA6⟩
      have hA7 := hA6.pick2
      obtain ⟨d0, d1, d2, d3⟩ := items_cells hc hA7
      go_wp2_with fail
      refine (write_any y hf hA7 (by omega) hx0 (by omega)).mono ?_
      rintro e w6 ⟨rfl, hA8⟩
      go_wp2
      go_roundw
      case rel => exact ⟨k + 1, _, _, by push_cast; rfl, by omega, HJ.out.write (by simp) y, hA8.perm (.cons _ (.swap _ _ _))⟩
      case measure => simp [intOf]; omega
    · go_wp2
      clear hA1 hA2 hA3 hA4
      go_loopw [9] (fun iv wr => ∃ (k : Nat) (U X : Reel.W), iv = .int .i64 k ∧ k ≤ lj.length ∧ Reel.Joined (V.err = 0) V.out U X ∧ At W0 wr [WriterC x X, WriterC u U, WriterC v V])
        (fun iv _ => lj.length - (intOf iv).toNat)
      case atStart => exact ⟨0, Reel.new 4194304, X, rfl, by omega, ⟨by decide, by decide, hx0, hxs, fun h _ => by have := HJ.out.same trivial h; simpa [Reel.new] using this⟩, hAr⟩
      case round =>
        obtain ⟨m, U, Y, rfl, hm, hK, hBr⟩ := hrel
        have hu0 := hK.v0
        have hus := hK.vs
        have hy0 := hK.x0
        have hys := hK.xs
        have HK := Lib.hid hK; clear hK
        by_cases hmt : m < lj.length
        · obtain ⟨ib, off, rfl, hf, hc⟩ := items_at hj0 m hmt
          generalize toItem lj[m] = y at hf hc
          obtain ⟨d0, d1, d2, d3⟩ := items_cells hc hBr
          have hA5 := hBr.pick2
          go_wp2_with fail
          refine (write_any y hf hA5 (by omega) hu0 (by omega)).mono ?_
          rintro e w5 ⟨rfl, hA6⟩
          have hA7 := hA6.pick2
          obtain ⟨d0, d1, d2, d3⟩ := items_cells hc hA7
          go_wp2_with fail
          refine (write_any y hf hA7 (by omega) hy0 (by omega)).mono ?_
          rintro e w6 ⟨rfl, hA8⟩
          go_wp2
          go_roundw
          case rel => exact ⟨m + 1, _, _, by push_cast; rfl, by omega, HK.out.write (by omega) y, hA8⟩
          case measure => simp [intOf]; omega
        · have hD1 := hBr.pick3
          have hD2 := hBr.pick2
          by_cases hve : V.err = 0
          · by_cases hue : U.err = 0
            · obtain ⟨hye, hyo⟩ := HK.out.same hve hue
              have hd1 : V.done = (V.out, 0) := by rw [Reel.W.done, if_pos hve]
              have hd2 : U.done = (U.out, 0) := by rw [Reel.W.done, if_pos hue]
              have hd3 : Y.done = (V.out ++ U.out, 0) := by rw [Reel.W.done, if_pos hye, hyo]
              go_wp2_with fail
              refine (wdone_any hD1).mono ?_
              rw [hd1]
              rintro e w7 ⟨rfl, n1, rfl⟩
              go_wp2_with fail
              refine (wdone_any (hD2.drewN _)).mono ?_
              rw [hd2]
              rintro e w7 ⟨rfl, n2, rfl⟩
              go_wp2_with fail
              refine (wdone_any (hBr.drewN _)).mono ?_
              rw [hd3]
              rintro e w7 ⟨rfl, n3, rfl⟩
              have hz1 : (str V.out).size = V.out.length := rfl
              have hz2 : (str U.out).size = U.out.length := rfl
              have hcat : str V.out ++ str U.out = str (V.out ++ U.out) := str_append _ _
              have hyl : (Y.out.length : Int) = V.out.length + U.out.length := by rw [hyo, List.length_append]; simp
              have HL := Lib.hid hyl; clear hyl hyo hd1 hd2 hd3
              go_wp2_with (first
                | (go_at_call_of 13 x; refine (wlen_any (hBr.drewN _)).mono ?_; rw [HL.out]; rintro e w7 ⟨rfl, rfl⟩)
                | (go_at_call_of 13 v; refine (wlen_any (hD1.drewN _)).mono ?_; rintro e w7 ⟨rfl, rfl⟩)
                | (go_at_call_of 13 u; refine (wlen_any (hD2.drewN _)).mono ?_; rintro e w7 ⟨rfl, rfl⟩))
              go_returns
              exact ⟨rfl, HW.out ▸ (hBr.drewN _).below⟩
            · have HE : (U.err != 0) = true := by simp [hue]
              have hd1 : V.done = (V.out, 0) := by rw [Reel.W.done, if_pos hve]
              have hd2 : U.done = ([], U.err) := by rw [Reel.W.done, if_neg hue]
              go_wp2_with fail
              refine (wdone_any hD1).mono ?_
              rw [hd1]
              rintro e w7 ⟨rfl, n1, rfl⟩
              go_wp2_with fail
              refine (wdone_any (hD2.drewN _)).mono ?_
              rw [hd2]
              rintro e w7 ⟨rfl, n2, rfl⟩
              go_wp2_with fail
              refine (wdone_any (hBr.drewN _)).mono ?_
              rintro e w7 ⟨rfl, n3, rfl⟩
              go_wp2
              go_returns
              exact ⟨rfl, HW.out ▸ (hBr.drewN _).below⟩
          · have HE : (V.err != 0) = true := by simp [hve]
            have hd1 : V.done = ([], V.err) := by rw [Reel.W.done, if_neg hve]
            go_wp2_with fail
            refine (wdone_any hD1).mono ?_
            rw [hd1]
            rintro e w7 ⟨rfl, n1, rfl⟩
            go_wp2_with fail
            refine (wdone_any (hD2.drewN _)).mono ?_
            rintro e w7 ⟨rfl, n2, rfl⟩
            go_wp2_with fail
            refine (wdone_any (hBr.drewN _)).mono ?_
            rintro e w7 ⟨rfl, n3, rfl⟩
            go_wp2
            go_returns
            exact ⟨rfl, HW.out ▸ (hBr.drewN _).below⟩
end
namespace reelJoins
theorem reelJoins_walk (W : World) (li : List ItemD) (v : Value) (hR : kItems.R W li [v]) (lj : List ItemD) (v2 : Value) (hR2 : kItems.R W lj [v2]) :
    Calls Try.prog 5 #[v, v2] W fun e w' => e = .returned (.bool true) ∧ Below W.heap.size W w' := by
  obtain ⟨ao, cap, hv, h1, h2, _, hi⟩ := hR
  injection hv with hv _
  subst hv
  obtain ⟨bo, cbp, hv, h3, h4, _, hj⟩ := hR2
  injection hv with hv _
  subst hv
  exact reelJoins_any li ao cap lj bo cbp W hi h1 h2 hj h3 h4
end reelJoins
end Go.Proofs.Ytohlphclhjmcaaa
