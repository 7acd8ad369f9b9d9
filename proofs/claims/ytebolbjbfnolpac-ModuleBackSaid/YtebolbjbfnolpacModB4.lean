/-
  The law ModuleBack.
-/
import Derived.Test.YtebolbjbfnolpacModB3
namespace Go.Proofs.Ytebolbjbfnolpac
open Go.RowKit HP
open Go.Proofs.Ytebolbjbfnolpac.Mod

theorem mread_no {t : List UInt8} (h : (mread t).2 ≠ 0) : (mread t).1 = [] := by
  unfold mread at h ⊢
  split
  · rfl
  · rename_i h1
    rw [if_neg h1] at h
    split
    · rfl
    · rename_i h2
      rw [if_neg h2] at h
      split
      · rfl
      · rename_i h3
        rw [if_neg h3] at h
        exact absurd rfl h

section
set_option maxRecDepth 100000 in
set_option maxHeartbeats 8000000 in
theorem moduleBack_any (l : List ActD) (ao : Option Addr) (n cap : Nat) (hn : l.length = n) (hm : n ≤ maxLen) (t : List UInt8) (ht : t.length ≤ 140737488351232) (W : World) (hrd : Kn.At_ kActor W ao l) :
    Calls Try.prog 3 #[.agg #[.slice ao n cap], .string (str t)] W fun e w' => e = .returned (.bool true) ∧ Below W.heap.size W w' := by
  have hB := (At.start W).alloc (.cells #[.slice ao n cap] 24)
  have b0 := hB.cell 0
  have k1 := fun (w1 : World) (L : List HP) (h : At W w1 L) => mbytes_any l ao n cap hn hm (Kn.At_.mv h.below hrd) h
  have k2 := fun (w1 : World) (L : List HP) (h : At W w1 L) => modRight_any l ao n cap hn hm (Kn.At_.mv h.below hrd) h
  have k3 := fun (w1 : World) (L : List HP) (h : At W w1 L) => mread_any t (by unfold maxLen; omega) h
  have hF : ((mread t).1 = [] ∧ ((mread t).2 != 0) = true) ∨ ((mread t).2 = 0 ∧ ∀ (w1 : World) (L : List HP) (ao : Option Addr) (cap : Nat), At W w1 L → KSl kActor w1 (mread t).1 ao (mread t).1.length cap →
      Calls Try.prog 5 #[.agg #[.slice ao (mread t).1.length cap]] w1 fun e w' => e = .returned (.tuple #[.string (str t), .int .i64 0]) ∧ At W w' L) := by
    by_cases h0 : (mread t).2 = 0
    · right
      refine ⟨h0, fun w1 L ao cap h hk => ?_⟩
      obtain ⟨e1, e2⟩ := mread_ok h0
      have e3 := mbytes_any (mread t).1 ao (mread t).1.length cap rfl (by have := hk.2.1; have := hk.2.2.1; omega) hk.2.2.2.2 h
      rw [bytes_right e2 (mread_args t).args, ← e1] at e3
      exact e3
    · left
      exact ⟨mread_no h0, by simpa using h0⟩
  generalize mread t = p at *
  obtain ⟨lt, f⟩ := p
  simp only at k3 hF
  have TT : ((str t).toList == (str t).toList) = true := by simp
  have K3 := Lib.hid k3; clear k3
  by_cases he : err (l.map toAct) = 0
  · have hargs := args_of hrd
    rw [bytes_right he hargs.args] at k1
    rw [he] at k2
    have hlen := bmod_le he hargs.args
    have k4 := fun (w1 : World) (L : List HP) (h : At W w1 L) => mread_any (bmod (l.map toAct)) (by unfold maxLen; omega) h
    rw [mread_bmod he hargs] at k4
    have k5 := fun (w1 : World) (L : List HP) (ao2 : Option Addr) (cap2 : Nat) (h : At W w1 L) (hk : KSl kActor w1 l ao2 n cap2) => refSame_any l l ao ao2 n n cap cap2 hn hn hm hm (Kn.At_.mv h.below hrd) hk.2.2.2.2 h
    rw [decide_eq_true (rfl : l.map toAct = l.map toAct)] at k5
    generalize bmod (l.map toAct) = B at *
    simp only at k1 k4
    rw [hn] at k4
    have K1 := Lib.hid k1; clear k1
    have K2 := Lib.hid k2; clear k2
    have K4 := Lib.hid k4; clear k4
    have K5 := Lib.hid k5; clear k5
    have HN := Lib.hid hn; clear hn
    clear he hlen
    rcases hF with ⟨rfl, hf⟩ | ⟨rfl, k6⟩
    · go_enter Try.func3, Try.ntmps3
      go_wp2_with (first
        | (go_at_call 4; with_reducible refine (lives_any hB).mono ?_; rintro e w1 ⟨rfl, hV1⟩; have c1 := hV1.cell 0)
        | (go_at_call 5; with_reducible refine (K1.out _ _ hV1).mono ?_; rintro e w2 ⟨rfl, hV2⟩; have c2 := hV2.cell 0)
        | (go_at_call 6; with_reducible refine (K2.out _ _ hV2).mono ?_; rintro e w3 ⟨rfl, hV3⟩; have c3 := hV3.cell 0)
        | (go_at_call_of 7 (str B); with_reducible refine (K4.out _ _ hV3).mono ?_; rintro e w4 ⟨ao2, cap2, rfl, hV4⟩; have hN := hV4.alloc (.cells #[.slice ao2 n cap2] 24); have n0 := hN.cell 0; have n1 := hN.pick3.cell 0)
        | (go_at_call 8; with_reducible refine (K5.out _ _ _ _ hN hN.pick2.own).mono ?_; rintro e w5 ⟨rfl, hV5⟩)
        | (go_at_call 7; with_reducible refine (K3.out _ _ hV5).mono ?_; rintro e w6 ⟨ao3, cap3, rfl, hV6⟩; have hM := hV6.alloc (.cells #[.slice ao3 0 cap3] 24); have m0 := hM.cell 0))
      go_returns
      exact ⟨rfl, hM.below⟩
    · have K6 := Lib.hid k6; clear k6
      obtain ⟨nt, hnt⟩ : ∃ nt, nt = lt.length := ⟨_, rfl⟩
      rw [← hnt] at K3 K6
      clear hnt
      go_enter Try.func3, Try.ntmps3
      go_wp2_with (first
        | (go_at_call 4; with_reducible refine (lives_any hB).mono ?_; rintro e w1 ⟨rfl, hV1⟩; have c1 := hV1.cell 0)
        | (go_at_call 5; with_reducible refine (K1.out _ _ hV1).mono ?_; rintro e w2 ⟨rfl, hV2⟩; have c2 := hV2.cell 0)
        | (go_at_call 6; with_reducible refine (K2.out _ _ hV2).mono ?_; rintro e w3 ⟨rfl, hV3⟩; have c3 := hV3.cell 0)
        | (go_at_call_of 7 (str B); with_reducible refine (K4.out _ _ hV3).mono ?_; rintro e w4 ⟨ao2, cap2, rfl, hV4⟩; have hN := hV4.alloc (.cells #[.slice ao2 n cap2] 24); have n0 := hN.cell 0; have n1 := hN.pick3.cell 0)
        | (go_at_call 8; with_reducible refine (K5.out _ _ _ _ hN hN.pick2.own).mono ?_; rintro e w5 ⟨rfl, hV5⟩)
        | (go_at_call 7; with_reducible refine (K3.out _ _ hV5).mono ?_; rintro e w6 ⟨ao3, cap3, rfl, hV6⟩; have hM := hV6.alloc (.cells #[.slice ao3 nt cap3] 24); have m0 := hM.cell 0)
        | (go_at_call 5; with_reducible refine (K6.out _ _ _ _ hM hM.pick2.own).mono ?_; rintro e w7 ⟨rfl, hV7⟩))
      go_returns
      exact ⟨rfl, hV7.below⟩
  · rw [bytes_wrong he] at k1
    have G : (err (l.map toAct) == 0) = false := by simpa using he
    clear he
    generalize err (l.map toAct) = g at *
    simp only at k1
    have K1 := Lib.hid k1; clear k1
    have K2 := Lib.hid k2; clear k2
    have HN := Lib.hid hn; clear hn
    rcases hF with ⟨rfl, hf⟩ | ⟨rfl, k6⟩
    · go_enter Try.func3, Try.ntmps3
      go_wp2_with (first
        | (go_at_call 4; with_reducible refine (lives_any hB).mono ?_; rintro e w1 ⟨rfl, hV1⟩; have c1 := hV1.cell 0)
        | (go_at_call 5; with_reducible refine (K1.out _ _ hV1).mono ?_; rintro e w2 ⟨rfl, hV2⟩; have c2 := hV2.cell 0)
        | (go_at_call 6; with_reducible refine (K2.out _ _ hV2).mono ?_; rintro e w3 ⟨rfl, hV3⟩; have c3 := hV3.cell 0)
        | (go_at_call 7; with_reducible refine (K3.out _ _ hV3).mono ?_; rintro e w6 ⟨ao3, cap3, rfl, hV6⟩; have hM := hV6.alloc (.cells #[.slice ao3 0 cap3] 24); have m0 := hM.cell 0))
      go_returns
      exact ⟨rfl, hM.below⟩
    · have K6 := Lib.hid k6; clear k6
      obtain ⟨nt, hnt⟩ : ∃ nt, nt = lt.length := ⟨_, rfl⟩
      rw [← hnt] at K3 K6
      clear hnt
      go_enter Try.func3, Try.ntmps3
      go_wp2_with (first
        | (go_at_call 4; with_reducible refine (lives_any hB).mono ?_; rintro e w1 ⟨rfl, hV1⟩; have c1 := hV1.cell 0)
        | (go_at_call 5; with_reducible refine (K1.out _ _ hV1).mono ?_; rintro e w2 ⟨rfl, hV2⟩; have c2 := hV2.cell 0)
        | (go_at_call 6; with_reducible refine (K2.out _ _ hV2).mono ?_; rintro e w3 ⟨rfl, hV3⟩; have c3 := hV3.cell 0)
        | (go_at_call 7; with_reducible refine (K3.out _ _ hV3).mono ?_; rintro e w6 ⟨ao3, cap3, rfl, hV6⟩; have hM := hV6.alloc (.cells #[.slice ao3 nt cap3] 24); have m0 := hM.cell 0)
        | (go_at_call 5; with_reducible refine (K6.out _ _ _ _ hM hM.pick2.own).mono ?_; rintro e w7 ⟨rfl, hV7⟩))
      go_returns
      exact ⟨rfl, hV7.below⟩
end
namespace moduleBack
theorem moduleBack_walk (W : World) (l : List ActD × Unit) (cs : Array Value) (hR : kModule.R W l cs.toList) (t : List UInt8) (y : t.length ≤ 140737488351232) :
    Calls Try.prog 3 #[.agg cs, .string (str t)] W fun e w' => e = .returned (.bool true) ∧ Below W.heap.size W w' := by
  obtain ⟨c1, c2, hc, ⟨ao, cap, rfl, h1, h2, h3, h4⟩, rfl⟩ := hR
  obtain rfl : cs = #[.slice ao l.1.length cap] := Array.toList_inj.1 hc
  exact moduleBack_any l.1 ao l.1.length cap rfl (by omega) t y W h4
end moduleBack
end Go.Proofs.Ytebolbjbfnolpac
