/-
  The law ModuleSame.
-/
import Derived.Test.YtebolbjbfnolpaeModSc
import Derived.Test.YtebolbjbfnolpaeModB2
namespace Go.Proofs.Ytebolbjbfnolpae
open Go.RowKit HP
open Go.Proofs.Ytebolbjbfnolpae.Mod

theorem bytes_wrong {m : List Mod.Act} (h : err m ≠ 0) : Mod.bytes m = ([], err m) := by rw [Mod.bytes, if_neg h]

section
set_option maxRecDepth 100000 in
set_option maxHeartbeats 8000000 in
theorem moduleSame_any (l l2 : List ActD) (ao ao2 : Option Addr) (n n2 cap cap2 : Nat) (hn : l.length = n) (hn2 : l2.length = n2) (hm : n ≤ maxLen) (hm2 : n2 ≤ maxLen) (W : World) (hrd : Kn.At_ kActor W ao l) (hrd2 : Kn.At_ kActor W ao2 l2) :
    Calls Try.prog 3 #[.agg #[.slice ao n cap], .agg #[.slice ao2 n2 cap2]] W fun e w' => e = .returned (.bool true) ∧ Below W.heap.size W w' := by
  have hB := ((At.start W).alloc (.cells #[.slice ao n cap] 24)).alloc (.cells #[.slice ao2 n2 cap2] 24)
  rw [World.size_alloc] at hB
  have b0 := hB.pick2.cell 0
  have b1 := hB.cell 0
  have k1 := fun (w1 : World) (L : List HP) (h : At W w1 L) => mbytes_any l ao n cap hn hm (Kn.At_.mv h.below hrd) h
  have k2 := fun (w1 : World) (L : List HP) (h : At W w1 L) => mbytes_any l2 ao2 n2 cap2 hn2 hm2 (Kn.At_.mv h.below hrd2) h
  have s1 := fun (w1 : World) (L : List HP) (h : At W w1 L) => msame_any l l2 ao ao2 n n2 cap cap2 hn hn2 hm hm2 (Kn.At_.mv h.below hrd) (Kn.At_.mv h.below hrd2) h
  have s2 := fun (w1 : World) (L : List HP) (h : At W w1 L) => refSame_any l l2 ao ao2 n n2 cap cap2 hn hn2 hm hm2 (Kn.At_.mv h.below hrd) (Kn.At_.mv h.below hrd2) h
  have s3 := fun (w1 : World) (L : List HP) (h : At W w1 L) => msame_any l l ao ao n n cap cap hn hn hm hm (Kn.At_.mv h.below hrd) (Kn.At_.mv h.below hrd) h
  rw [decide_eq_true (rfl : l.map toAct = l.map toAct)] at s3
  obtain ⟨S, hS⟩ : ∃ S, S = decide (l.map toAct = l2.map toAct) := ⟨_, rfl⟩
  rw [← hS] at s1 s2
  have hT : ((Mod.bytes (l.map toAct)).2 != 0) = true ∨ (((Mod.bytes (l.map toAct)).2 != 0) = false ∧ ((Mod.bytes (l2.map toAct)).2 != 0) = true) ∨ (((Mod.bytes (l.map toAct)).2 != 0) = false ∧ ((Mod.bytes (l2.map toAct)).2 != 0) = false ∧ (((str (Mod.bytes (l.map toAct)).1).toList == (str (Mod.bytes (l2.map toAct)).1).toList) == S) = true) := by
    by_cases e1 : err (l.map toAct) = 0
    · by_cases e2 : err (l2.map toAct) = 0
      · right; right
        have a1 := args_of hrd
        have a2 := args_of hrd2
        rw [bytes_right e1 a1.args, bytes_right e2 a2.args, str_list, str_list, hS]
        refine ⟨rfl, rfl, ?_⟩
        by_cases e : bmod (l.map toAct) = bmod (l2.map toAct)
        · have := bmod_inj e1 a1 e2 a2 e
          subst this; simp
        · have e3 : l.map toAct ≠ l2.map toAct := fun h => e (by rw [h])
          rw [decide_eq_false e3]; simpa using e
      · right; left
        rw [bytes_right e1 (args_of hrd).args, bytes_wrong e2]
        exact ⟨rfl, by simpa using e2⟩
    · left; rw [bytes_wrong e1]; simpa using e1
  clear hS
  generalize Mod.bytes (l.map toAct) = p1 at *
  generalize Mod.bytes (l2.map toAct) = p2 at *
  obtain ⟨t1, g1⟩ := p1
  obtain ⟨t2, g2⟩ := p2
  simp only at k1 k2 hT
  have K1 := Lib.hid k1; clear k1
  have K2 := Lib.hid k2; clear k2
  have S1 := Lib.hid s1; clear s1
  have S2 := Lib.hid s2; clear s2
  have S3 := Lib.hid s3; clear s3
  have T0 : (S != S) = false := by simp
  rcases hT with hT | ⟨hT, hT2⟩ | ⟨hT, hT2, hT3⟩
  all_goals
    go_enter Try.func3, Try.ntmps3
    go_wp2_with (first
      | (go_at_call 4; with_reducible refine (lives_any hB).mono ?_; rintro e w1 ⟨rfl, hV1⟩; have c1 := hV1.pick2.cell 0; have d1 := hV1.cell 0)
      | (go_at_call 5; with_reducible refine (S1.out _ _ hV1).mono ?_; rintro e w2 ⟨rfl, hV2⟩; have c2 := hV2.pick2.cell 0; have d2 := hV2.cell 0)
      | (go_at_call 6; with_reducible refine (S2.out _ _ hV2).mono ?_; rintro e w3 ⟨rfl, hV3⟩; have c3 := hV3.pick2.cell 0; have d3 := hV3.cell 0)
      | (go_at_call 5; with_reducible refine (S3.out _ _ hV3).mono ?_; rintro e w4 ⟨rfl, hV4⟩; have c4 := hV4.pick2.cell 0; have d4 := hV4.cell 0)
      | (go_at_call 7; with_reducible refine (K1.out _ _ hV4).mono ?_; rintro e w5 ⟨rfl, hV5⟩; have c5 := hV5.pick2.cell 0; have d5 := hV5.cell 0)
      | (go_at_call 7; with_reducible refine (K2.out _ _ hV5).mono ?_; rintro e w6 ⟨rfl, hV6⟩))
    go_returns
  all_goals exact ⟨rfl, hV6.below⟩
end
namespace moduleSame
theorem moduleSame_walk (W : World) (l : List ActD × Unit) (cs : Array Value) (hR : kModule.R W l cs.toList) (l2 : List ActD × Unit) (cs2 : Array Value) (hR2 : kModule.R W l2 cs2.toList) :
    Calls Try.prog 3 #[.agg cs, .agg cs2] W fun e w' => e = .returned (.bool true) ∧ Below W.heap.size W w' := by
  obtain ⟨c1, c2, hc, ⟨ao, cap, rfl, h1, h2, h3, h4⟩, rfl⟩ := hR
  obtain rfl : cs = #[.slice ao l.1.length cap] := Array.toList_inj.1 hc
  obtain ⟨c3, c4, hc2, ⟨ao2, cap2, rfl, g1, g2, g3, g4⟩, rfl⟩ := hR2
  obtain rfl : cs2 = #[.slice ao2 l2.1.length cap2] := Array.toList_inj.1 hc2
  exact moduleSame_any l.1 l2.1 ao ao2 l.1.length l2.1.length cap cap2 rfl rfl (by omega) (by omega) W h4 g4
end moduleSame
end Go.Proofs.Ytebolbjbfnolpae
