/-
  The law ReelOnly.
-/
import Derived.Test.YtohlphclhjmcaaaLawsC
import Derived.Test.YtohlphclhjmcaaaReelLaw
import Derived.Test.YtohlphclhjmcaaaItemsAt
namespace Go.Proofs.Ytohlphclhjmcaaa
open Go.RowKit HP

namespace Reel
theorem R.int_lo (R : Reel.R) : -9223372036854775808 ≤ R.int.1 := by
  have := R.num_fits
  unfold Reel.R.int unfold_; simp only; split <;> omega
theorem R.int_hi (R : Reel.R) : R.int.1 ≤ 9223372036854775807 := by
  have := R.num_fits
  unfold Reel.R.int unfold_; simp only; split <;> omega
theorem R.txt_len (R : Reel.R) (h : R.text.length ≤ 140737488355328) : R.txt.1.length ≤ 9223372036854775807 := by
  unfold Reel.R.txt; split
  · split
    · simp; omega
    · simp
  · simp
end Reel
section
variable {w0 w : World} {L : List HP} {a : Nat} {W : Reel.W}

set_option maxHeartbeats 4000000 in
set_option maxRecDepth 100000 in
theorem reelOnly_any (t : List UInt8) (ht : t.length ≤ 140737488351232) (li : List ItemD) (ao : Option Addr) (cap : Nat) (w : World) (hi : Kn.At_ kItem w ao li) (h1 : li.length ≤ cap) (h2 : cap ≤ maxLen) :
    Calls Try.prog 8 #[.string (str t), .slice ao li.length cap] w fun e w' => e = .returned (.bool true) ∧ Below w.heap.size w w' := by
  obtain ⟨W0, hW⟩ : ∃ W0, W0 = w := ⟨_, rfl⟩
  have hA : At W0 w [] := hW ▸ At.start w
  have hi0 : Kn.At_ kItem W0 ao li := hW ▸ hi
  clear hi
  have HW := Lib.hid hW; clear hW
  have hmx : li.length ≤ 9223372036854775807 := by unfold maxLen at h2; omega
  have hsz : (str t).size = t.length := rfl
  go_enter Try.func8, Try.ntmps8
  go_wp2_with (first
    | (go_at_call 10; refine (lives_any hA).mono ?_; rintro e w' ⟨rfl, hA1⟩)
    | (go_at_call 19; refine (rnew_any t hA1).mono ?_; rintro e w' ⟨b, rfl, hA2⟩)
    | (go_at_call 11; refine (wnew_any _ hA2).mono ?_; rintro e w' ⟨c, rfl, hA3⟩))
  go_loopw [7] (fun iv wr => ∃ (k : Nat) (R : Reel.R) (V : Reel.W), iv = .int .i64 k ∧ k ≤ li.length ∧ Reel.Only t R V ∧ At W0 wr [WriterC c V, ReaderC b R])
    (fun iv _ => li.length - (intOf iv).toNat)
  case atStart =>
    refine ⟨0, _, _, rfl, by omega, ?_, hA3⟩
    refine ⟨rfl, by simp [Reel.read], by simp [Reel.new], by simp [Reel.new], fun _ => .inl ⟨rfl, by simp [Reel.new, Reel.read]⟩⟩
  case round =>
    obtain ⟨k, R, V, rfl, hk, hO, hAr⟩ := hrel
    obtain ⟨ht1, hp, hroom, hsum, _⟩ := id hO
    have HO := Lib.hid hO; clear hO
    have hl2 : R.text.length ≤ 140737488355328 := by rw [ht1]; omega
    rw [← ht1] at hp
    have HT1 := Lib.hid ht1; clear ht1
    by_cases hlt : k < li.length
    · obtain ⟨ib, off, rfl, hf, hc⟩ := items_at hi0 k hlt
      generalize toItem li[k] = x at hf hc
      obtain ⟨d0, d1, d2, d3⟩ := items_cells hc hAr
      rcases kind4 x.k with hq | hq | hq | hq
      · have hk := fun w (hA : At W0 w [WriterC c V, ReaderC b R]) => kind_any x 0 hq hA
        have HK := Lib.hid hk; clear hk hq
        go_wp2_with (first
          | (go_at_call 24; refine (HK.out _ hAr).mono ?_; rintro e w2 ⟨rfl, hB1⟩)
          | (go_at_call 25; refine (rnum_any hp hl2 hB1.pick2).mono ?_; rintro e w3 ⟨rfl, hB2⟩)
          | (go_at_call 12; refine (wnum_any R.num.1 R.num_fits hB2.pick2 (.inr (by omega)) hroom (by omega)).mono ?_; rintro e w4 ⟨rfl, hB3⟩))
        go_roundw
        case rel => exact ⟨k + 1, _, _, by push_cast; rfl, by omega, Reel.only_num HO.out, hB3⟩
        case measure => simp [intOf]; omega
      · have hk := fun w (hA : At W0 w [WriterC c V, ReaderC b R]) => kind_any x 1 hq hA
        have HK := Lib.hid hk; clear hk hq
        go_wp2_with (first
          | (go_at_call 24; refine (HK.out _ hAr).mono ?_; rintro e w2 ⟨rfl, hB1⟩)
          | (go_at_call 26; refine (rint_any hp hl2 hB1.pick2).mono ?_; rintro e w3 ⟨rfl, hB2⟩)
          | (go_at_call 29; refine (wint_any R.int.1 (Reel.R.int_lo R) (Reel.R.int_hi R) hB2.pick2 (.inr (by omega)) hroom (by omega)).mono ?_; rintro e w4 ⟨rfl, hB3⟩))
        go_roundw
        case rel => exact ⟨k + 1, _, _, by push_cast; rfl, by omega, Reel.only_int HO.out, hB3⟩
        case measure => simp [intOf]; omega
      · have hk := fun w (hA : At W0 w [WriterC c V, ReaderC b R]) => kind_any x 2 hq hA
        have HK := Lib.hid hk; clear hk hq
        go_wp2_with (first
          | (go_at_call 24; refine (HK.out _ hAr).mono ?_; rintro e w2 ⟨rfl, hB1⟩)
          | (go_at_call 27; refine (rbyte_any hp hl2 hB1.pick2).mono ?_; rintro e w3 ⟨rfl, hB2⟩)
          | (go_at_call 30; refine (wbyte_any R.byte.1 hB2.pick2 (.inr (by omega)) hroom (by omega)).mono ?_; rintro e w4 ⟨rfl, hB3⟩))
        go_roundw
        case rel => exact ⟨k + 1, _, _, by push_cast; rfl, by omega, Reel.only_byte HO.out, hB3⟩
        case measure => simp [intOf]; omega
      · have hk := fun w (hA : At W0 w [WriterC c V, ReaderC b R]) => kind_any x 3 hq hA
        have HK := Lib.hid hk; clear hk hq
        go_wp2_with (first
          | (go_at_call 24; refine (HK.out _ hAr).mono ?_; rintro e w2 ⟨rfl, hB1⟩)
          | (go_at_call 28; refine (rtext_any hp hl2 hB1.pick2).mono ?_; rintro e w3 ⟨rfl, hB2⟩)
          | (go_at_call 31; refine (wtext_any R.txt.1 (Reel.R.txt_len R hl2) hB2.pick2 (.inr (by omega)) hroom (by omega)).mono ?_; rintro e w4 ⟨rfl, hB3⟩))
        go_roundw
        case rel => exact ⟨k + 1, _, _, by push_cast; rfl, by omega, Reel.only_txt HO.out, hB3⟩
        case measure => simp [intOf]; omega
    · by_cases hfin : R.fin = 0
      · rcases Reel.only_end HO.out hfin with ⟨he, ho⟩ | ⟨he, ho⟩
        · have hd : V.done = (t, 0) := by rw [Reel.W.done, if_pos he, ho]
          go_wp2_with (first
            | (go_at_call 22; refine (rend_any hp hl2 hAr.pick2).mono ?_; rw [hfin]; rintro e w3 ⟨rfl, n4, rfl⟩)
            | (go_at_call 17; refine (wdone_any (hAr.drewN _)).mono ?_; rw [hd]; rintro e w3 ⟨rfl, n5, rfl⟩))
          go_returns
          exact ⟨rfl, HW.out ▸ (hAr.drewN _).below⟩
        · have hd : V.done = ([], 4) := by rw [Reel.W.done, if_neg (by omega), he]
          go_wp2_with (first
            | (go_at_call 22; refine (rend_any hp hl2 hAr.pick2).mono ?_; rw [hfin]; rintro e w3 ⟨rfl, n4, rfl⟩)
            | (go_at_call 17; refine (wdone_any (hAr.drewN _)).mono ?_; rw [hd]; rintro e w3 ⟨rfl, n5, rfl⟩))
          all_goals
            go_returns
            exact ⟨ret_bool (decide_eq_true (by omega)), HW.out ▸ (hAr.drewN _).below⟩
      · go_wp2_with (first
            | (go_at_call 22; refine (rend_any hp hl2 hAr.pick2).mono ?_; rintro e w3 ⟨rfl, n4, rfl⟩))
        go_returns
        exact ⟨rfl, HW.out ▸ (hAr.drewN _).below⟩
end
namespace reelOnly
theorem reelOnly_walk (W : World) (l : List UInt8) (y : l.length ≤ 140737488351232) (li : List ItemD) (v : Value) (hR : kItems.R W li [v]) :
    Calls Try.prog 8 #[.string (str l), v] W fun e w' => e = .returned (.bool true) ∧ Below W.heap.size W w' := by
  obtain ⟨ao, cap, hv, h1, h2, _, hi⟩ := hR
  injection hv with hv _
  subst hv
  exact reelOnly_any l y li ao cap W hi h1 h2
end reelOnly
end Go.Proofs.Ytohlphclhjmcaaa
