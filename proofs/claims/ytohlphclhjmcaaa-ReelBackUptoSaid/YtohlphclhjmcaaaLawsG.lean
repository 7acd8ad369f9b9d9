/-
  The law ReelWrites.
-/
import Derived.Test.YtohlphclhjmcaaaLawsC
import Derived.Test.YtohlphclhjmcaaaReelLaw
import Derived.Test.YtohlphclhjmcaaaItemsAt
import Derived.Deep.RegionWith
import Derived.Deep.QuietTactic
import Derived.BigQuiet
namespace Go.Proofs.Ytohlphclhjmcaaa
open Go.RowKit HP

section
variable {w0 w : World} {L : List HP} {a : Nat} {W : Reel.W}

set_option maxHeartbeats 4000000 in
set_option maxRecDepth 100000 in
theorem reelWrites_any (lim : Int) (hlo : -9223372036854775808 ≤ lim) (hhi : lim ≤ 9223372036854775807) (li : List ItemD) (ao : Option Addr) (cap : Nat) (w : World) (hi : Kn.At_ kItem w ao li) (h1 : li.length ≤ cap) (h2 : cap ≤ maxLen) (hn : li.length ≤ 1048576) :
    Calls Try.prog 4 #[.int .i64 lim, .slice ao li.length cap] w fun e w' => e = .returned (.bool true) ∧ Below w.heap.size w w' := by
  obtain ⟨W0, hW⟩ : ∃ W0, W0 = w := ⟨_, rfl⟩
  have hA : At W0 w [] := hW ▸ At.start w
  have hi0 : Kn.At_ kItem W0 ao li := hW ▸ hi
  clear hi
  have HW := Lib.hid hW; clear hW
  obtain ⟨mx, hmx⟩ : ∃ mx, mx = max lim 0 := ⟨_, rfl⟩
  have hmx0 : 0 ≤ mx := by omega
  have hmx9 : mx ≤ 9223372036854775807 := by omega
  have HMX := Lib.hid hmx
  have hnew : Reel.new lim = ⟨[], mx, 0⟩ := by rw [hmx]; rfl
  clear hmx
  go_enter Try.func4, Try.ntmps4
  go_wp2_with fail
  refine (lives_any hA).mono ?_
  rintro e w1 ⟨rfl, hA1⟩
  go_wp2_with fail
  refine (wnew_any lim hA1).mono ?_
  rw [hnew]
  rintro e w2 ⟨v, rfl, hA2⟩
  go_wp2_with fail
  refine (rwnew_any lim hA2).mono ?_
  rw [hnew]
  rintro e w3 ⟨u, rfl, hA3⟩
  clear hnew
  go_wp2
  go_loopw [7] (fun iv wr => ∃ (k : Nat) (V : Reel.W), iv = .int .i64 k ∧ k ≤ li.length ∧ 0 ≤ V.room ∧ V.room + V.out.length = mx ∧ V.out.length ≤ 65546 * k ∧ At W0 wr [RWriterC u V, WriterC v V])
    (fun iv _ => li.length - (intOf iv).toNat)
  case atStart => exact ⟨0, _, rfl, by omega, hmx0, by simp, by simp, hA3⟩
  case round =>
    obtain ⟨k, V, rfl, hk, hv0, hvs, hvl, hAr⟩ := hrel
    by_cases hlt : k < li.length
    · obtain ⟨ib, off, rfl, hf, hc⟩ := items_at hi0 k hlt
      generalize toItem li[k] = y at hf hc
      have hA5 := hAr.pick2
      have hv0' := V.write_room y hv0
      have hvs' := (V.write_keep y).trans hvs
      have hvl' := V.write_len y hf
      have hq1 := fun w hA => write_any (w0 := W0) (w := w) (a := v) (W := V) (L := [RWriterC u V]) y hf hA (by omega) hv0 (by omega)
      have hq2 := fun w hA => model_any (w0 := W0) (w := w) (a := u) (W := V) (L := [WriterC v (V.write y)]) y hf hA (by omega) hv0 (by omega)
      generalize V.write y = V2 at hv0' hvs' hvl' hq1 hq2
      have HQ1 := Lib.hid hq1; clear hq1
      have HQ2 := Lib.hid hq2; clear hq2
      obtain ⟨d0, d1, d2, d3⟩ := items_cells hc hA5
      go_wp2_with fail
      refine (HQ1.out _ hA5).mono ?_
      rintro e w5 ⟨rfl, hA6⟩
      have hA7 := hA6.pick2
      obtain ⟨d0, d1, d2, d3⟩ := items_cells hc hA7
      go_wp2_with fail
      refine (HQ2.out _ hA7).mono ?_
      rintro e w6 ⟨rfl, hA8⟩
      obtain ⟨ro, rcap, hO⟩ := RWriterC.op hA8
      have e0 := hO.cell 0
      have hle : (V2.out.length : Int) ≤ lim ∨ (V2.out.length : Int) ≤ 0 := by have := HMX.out; omega
      rcases hle with hle | hle
      all_goals
        go_wp2_with fail
        go_quiet (first | (go_at_call 13; exact Calls.quiet_of_same ((wlen_any (hA8.pick2.drewN _)).mono fun _ _ h => ⟨h.1, h.2.symm⟩)))
        go_wp2
      all_goals exact ⟨⟨k + 1, V2, by push_cast; rfl, by omega, hv0', hvs', by omega, hA8.drewN _⟩, by simp [intOf]; omega⟩
    · go_wp2_with fail
      refine (wdone_any hAr.pick2).mono ?_
      rintro e w7 ⟨rfl, n1, rfl⟩
      go_wp2_with fail
      refine (rwdone_any (hAr.drewN _)).mono ?_
      rintro e w7 ⟨rfl, n2, rfl⟩
      go_wp2_with fail
      refine (wdone_any (hAr.pick2.drewN _)).mono ?_
      rintro e w7 ⟨rfl, n3, rfl⟩
      go_wp2
      go_returns
      exact ⟨rfl, HW.out ▸ (hAr.drewN _).below⟩
end
theorem sum_len {α : Type} (f : α → Nat) (h : ∀ a, 1 ≤ f a) : ∀ l : List α, l.length ≤ (l.map f).sum
  | [] => by simp
  | a :: r => by have := sum_len f h r; have := h a; simp; omega
theorem items_few (li : List ItemD) (h : kItems.wt li ≤ 1048576) : li.length ≤ 1048576 := by
  have h2 : (li.map kItem.wt).sum + 1 ≤ 1048576 := h
  have := sum_len kItem.wt (fun a => Nat.le_add_left 1 _) li
  omega
namespace reelWrites
theorem reelWrites_walk (W : World) (a : Int) (wa : (Lit.int .i64 a).wf = true) (li : List ItemD) (v : Value) (hR : kItems.R W li [v]) (hkk : kItems.wt li ≤ 1048576) :
    Calls Try.prog 4 #[.int .i64 a, v] W fun e w' => e = .returned (.bool true) ∧ Below W.heap.size W w' := by
  obtain ⟨ao, cap, hv, h1, h2, _, hi⟩ := hR
  injection hv with hv _
  subst hv
  obtain ⟨h3, h4⟩ := wf_i64 wa
  exact reelWrites_any a h3 h4 li ao cap W hi h1 h2 (items_few li hkk)
end reelWrites
end Go.Proofs.Ytohlphclhjmcaaa
