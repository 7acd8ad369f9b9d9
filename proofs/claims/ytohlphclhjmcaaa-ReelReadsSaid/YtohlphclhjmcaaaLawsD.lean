/-
  The law ReelReads.
-/
import Derived.Test.YtohlphclhjmcaaaLawsC
import Derived.Test.YtohlphclhjmcaaaReelLaw
import Derived.Test.YtohlphclhjmcaaaItemsAt
namespace Go.Proofs.Ytohlphclhjmcaaa
open Go.RowKit HP

section
variable {w0 w : World} {L : List HP} {a : Nat} {W : Reel.W}

set_option maxHeartbeats 8000000 in
set_option maxRecDepth 100000 in
theorem reelReads_any (t : List UInt8) (ht : t.length ≤ 140737488351232) (li : List ItemD) (ao : Option Addr) (cap : Nat) (w : World) (hi : Kn.At_ kItem w ao li) (h1 : li.length ≤ cap) (h2 : cap ≤ maxLen) :
    Calls Try.prog 6 #[.string (str t), .slice ao li.length cap] w fun e w' => e = .returned (.bool true) ∧ Below w.heap.size w w' := by
  obtain ⟨W0, hW⟩ : ∃ W0, W0 = w := ⟨_, rfl⟩
  have hA : At W0 w [] := hW ▸ At.start w
  have hi0 : Kn.At_ kItem W0 ao li := hW ▸ hi
  clear hi
  have HW := Lib.hid hW; clear hW
  have hmx : li.length ≤ 9223372036854775807 := by unfold maxLen at h2; omega
  go_enter Try.func6, Try.ntmps6
  go_wp2_with (first
    | (go_at_call 10; refine (lives_any hA).mono ?_; rintro e w' ⟨rfl, hA1⟩)
    | (go_at_call 19; refine (rnew_any t hA1).mono ?_; rintro e w' ⟨b, rfl, hA2⟩))
  go_loopw [7] (fun iv wr => ∃ (k : Nat) (R : Reel.R), iv = .int .i64 k ∧ k ≤ li.length ∧ R.pos ≤ R.text.length ∧ R.text.length ≤ 140737488351232 ∧ At W0 wr [ReaderC b R, RReaderC w'.heap.size R])
    (fun iv _ => li.length - (intOf iv).toNat)
  case atStart =>
    refine ⟨0, Reel.read t, rfl, by omega, by simp [Reel.read], ht, ?_⟩
    exact (hA2.alloc _).pick2
  case round =>
    obtain ⟨k, R, rfl, hk, hp, hl, hAr⟩ := hrel
    by_cases hlt : k < li.length
    · obtain ⟨ib, off, rfl, hf, hc⟩ := items_at hi0 k hlt
      generalize toItem li[k] = x at hf hc
      have d0 := hAr.oldCell (hc 0 _ rfl)
      have d1 := hAr.oldCell (hc 1 _ rfl)
      have d2 := hAr.oldCell (hc 2 _ rfl)
      have d3 := hAr.oldCell (hc 3 _ rfl)
      simp only [← Nat.add_assoc, Nat.add_zero] at d0 d1 d2 d3
      have hp2 := Reel.R.read1_pos R x.k hp
      have ht2 := Reel.R.read1_text R x.k
      have hsame := fun w hA => same_any (w0 := W0) (w := w) (L := []) (a := b) (b := w'.heap.size) (R := R) x hp (by omega) hA
      generalize R.read1 x.k = R2 at hp2 ht2 hsame
      have hs : (str (R2.text.drop R2.pos)).size = R2.left := by rw [str_size, List.length_drop]; rfl
      have HS := Lib.hid hsame; clear hsame
      have hl2 : R2.text.length ≤ 140737488355328 := by rw [ht2]; omega
      have HT2 := Lib.hid ht2; clear ht2
      go_wp2
      go_region_with (first
        | (go_at_call 20; (refine (HS.out _ hAr.drew).mono ?_; rintro e w2 ⟨rfl, hA3⟩; have m0 := hA3.pick2.cell 0))
        | (go_at_call 21; refine (rleft_any hp2 hl2 hA3).mono ?_; rintro e w3 ⟨rfl, n3, rfl⟩)
        | (go_at_call 22; refine (rend_any hp2 hl2 (hA3.drewN _)).mono ?_; rintro e w3 ⟨rfl, n4, rfl⟩)
        | (go_at_call 23; refine (rrend_any (hA3.drewN _).pick2).mono ?_; rintro e w3 ⟨rfl, rfl⟩))
      all_goals
        go_wp2
        go_roundw
      all_goals first
        | (exact ⟨k + 1, R2, by push_cast; rfl, by omega, hp2, by rw [HT2.out]; exact hl, hA3.drewN _⟩)
        | (simp [intOf]; omega)
    · have hkl : k = li.length := by omega
      subst hkl
      have m0 := hAr.pick2.cell 0
      have hs : (str (R.text.drop R.pos)).size = R.left := by rw [str_size, List.length_drop]; rfl
      have hl2 : R.text.length ≤ 140737488355328 := by omega
      go_wp2
      go_region_with (first
        | (go_at_call 21; refine (rleft_any hp hl2 hAr.drew).mono ?_; rintro e w3 ⟨rfl, n3, rfl⟩)
        | (go_at_call 22; refine (rend_any hp hl2 (hAr.drewN _)).mono ?_; rintro e w3 ⟨rfl, n4, rfl⟩)
        | (go_at_call 23; refine (rrend_any (hAr.drewN _).pick2).mono ?_; rintro e w3 ⟨rfl, rfl⟩))
      all_goals
        go_wp2
        go_returns
        exact ⟨rfl, HW.out ▸ (hAr.drewN _).below⟩
end
namespace reelReads
theorem reelReads_walk (W : World) (l : List UInt8) (y : l.length ≤ 140737488351232) (li : List ItemD) (v : Value) (hR : kItems.R W li [v]) :
    Calls Try.prog 6 #[.string (str l), v] W fun e w' => e = .returned (.bool true) ∧ Below W.heap.size W w' := by
  obtain ⟨ao, cap, hv, h1, h2, _, hi⟩ := hR
  injection hv with hv _
  subst hv
  exact reelReads_any l y li ao cap W hi h1 h2
end reelReads
end Go.Proofs.Ytohlphclhjmcaaa
