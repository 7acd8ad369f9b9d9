/-
  The law ModuleReads.
-/
import Derived.Test.YtebolbjbfnolpabModRd
import Derived.Test.YtebolbjbfnolpabModSc
import Derived.Test.YtebolbjbfnolpabModV
namespace Go.Proofs.Ytebolbjbfnolpab
open Go.Proofs.Ytebolbjbfnolpab.Mod
namespace Mod
theorem rreads_act {a : ActD} {n : Int} (hl : little (toAct a) = true) (h : right (toAct a) n = true) (hf : ∀ i ∈ a.2.2.2.1, -9223372036854775808 ≤ i.2.1 ∧ i.2.1 ≤ 9223372036854775807) : RReads rract (bact (toAct a)) a := by
  obtain ⟨p, r, m, c, ts, u⟩ := a
  obtain ⟨l1, l2, l3, l4, l5, l6⟩ := little_of hl
  unfold right at h
  simp only [Bool.and_eq_true] at h
  obtain ⟨⟨⟨⟨⟨⟨⟨h1, h2⟩, h3⟩, _⟩, _⟩, h4⟩, h5⟩, _⟩ := h
  simp only [toAct, List.length_map] at *
  have q1 := rreads_types l2 (by decide) (tys_fits h1)
  have q2 := rreads_types l3 (by decide) (tys_fits h2)
  have q3 := rreads_types l4 (by decide) (tys_fits h3)
  have q4 := rreads_code l5 (fun i hi => List.all_eq_true.1 h4 _ (List.mem_map_of_mem hi)) hf
  have q5 := rreads_tabs l6 (fun t ht => by have := l1 _ (List.mem_map_of_mem (f := toTab) ht); simpa [toTab] using this) (fun t ht => List.all_eq_true.1 h5 _ (List.mem_map_of_mem ht))
  intro T o b e
  unfold bact at e ⊢
  simp only [List.append_assoc] at e
  have e1 := q1 T o _ e
  have d1 := behind e
  have e2 := q2 T _ _ d1
  have d2 := behind d1
  have e3 := q3 T _ _ d2
  have d3 := behind d2
  have e4 := q4 T _ _ d3
  have d4 := behind d3
  have e5 := q5 T _ _ d4
  unfold rract
  simp only [e1, e2, e3, e4, e5]
  simp only [List.length_append, Nat.add_assoc]
theorem rback_act : RBack rract (fun a => bact (toAct a)) := by
  intro s hs
  unfold rract at hs
  dsimp only at hs
  have h5 := rback_tabs _ hs
  have h4 := rback_code _ h5.1
  have h3 := rback_types 8 _ h4.1
  have h2 := rback_types 16 _ h3.1
  have h1 := rback_types 4 _ h2.1
  refine ⟨h1.1, ?_⟩
  rw [h1.2, h2.2, h3.2, h4.2, h5.2]
  unfold rract
  generalize rrtypes 4 s = t1
  generalize rrtypes 16 t1.2 = t2
  generalize rrtypes 8 t2.2 = t3
  generalize rrcode t3.2 = t4
  generalize rrtabs t4.2 = t5
  simp only [toAct, bact, List.append_assoc]
theorem rhead_cons (t : List UInt8) : rhead ⟨67 :: 66 :: 49 :: t, 0, 0⟩ = (true, ⟨67 :: 66 :: 49 :: t, 3, 0⟩) := rfl
theorem rback_head {R : Reel.R} (h : (rhead R).1 = true) (he : (rhead R).2.err = 0) : R.err = 0 ∧ rrest R = [67, 66, 49] ++ rrest (rhead R).2 := by
  unfold rhead at h he ⊢
  by_cases h1 : R.byte.1 = 67
  · rw [if_pos h1] at h he ⊢
    by_cases h2 : R.byte.2.byte.1 = 66
    · rw [if_pos h2] at h he ⊢
      have h3 : R.byte.2.byte.2.byte.1 = 49 := by simpa using h
      have e3 := back_byte he
      have e2 := back_byte e3.1
      have e1 := back_byte e2.1
      refine ⟨e1.1, ?_⟩
      unfold rrest
      rw [e1.2, e2.2, e3.2, h1, h2, h3]
      rfl
    · rw [if_neg h2] at h; exact absurd h (by simp)
  · rw [if_neg h1] at h; exact absurd h (by simp)
theorem rrun_mem {α : Type} {f : Reel.R → α × Reel.R} {x : α} {s : Reel.R} : ∀ {k : Nat}, x ∈ (rrun f k s).1 → ∃ s', x = (f s').1
  | 0, h => by simp [rrun] at h
  | k + 1, h => by
    rw [rrun] at h
    by_cases h0 : (rrun f k s).2.err = 0
    · rw [if_pos h0, List.mem_append, List.mem_singleton] at h
      rcases h with h | h
      · exact rrun_mem h
      · exact ⟨_, h⟩
    · rw [if_neg h0] at h; exact rrun_mem h
theorem rins_args (R : Reel.R) : -9223372036854775808 ≤ (rrins R).1.2.1 ∧ (rrins R).1.2.1 ≤ 9223372036854775807 := (read_fits (R.text.drop R.pos)).2.1
theorem rcode_args (s : Reel.R) : ∀ i ∈ (rrcode s).1, -9223372036854775808 ≤ i.2.1 ∧ i.2.1 ≤ 9223372036854775807 := by
  intro i hi
  unfold rrcode at hi
  obtain ⟨s2, rfl⟩ := rrun_mem hi
  exact rins_args s2
theorem ract_args (s : Reel.R) : ∀ i ∈ (rract s).1.2.2.2.1, -9223372036854775808 ≤ i.2.1 ∧ i.2.1 ≤ 9223372036854775807 := by
  unfold rract
  simp only
  exact rcode_args _
theorem rracts_args (R : Reel.R) : ArgsD (rracts R).1 := by
  intro a ha i hi
  obtain ⟨s, rfl⟩ := rrun_mem (f := rract) ha
  exact ract_args s i hi
theorem rread_of {l : List ActD} (h : err (l.map toAct) = 0) (hf : ArgsD l) : rread (bmod (l.map toAct)) = (l, 0) := by
  have hl := bmod_le h hf.args
  obtain ⟨h1, h2, _, h3⟩ := err_right h
  rw [List.length_map] at h1
  have e0 : rhead (Reel.read (bmod (l.map toAct))) = (true, ⟨bmod (l.map toAct), 3, 0⟩) := rhead_cons _
  have hd : (bmod (l.map toAct)).drop 3 = Reel.digits l.length ++ ((l.map fun a => bact (toAct a)).flatten ++ []) := by
    rw [List.append_nil, flat_map]
    unfold bmod
    rw [List.length_map]; rfl
  have e1 := rreads_count h1 (by decide) _ _ _ hd
  have e2 := rreads_run (f := rract) (b := fun a => bact (toAct a)) (l := l) (fun a ha => rreads_act (List.all_eq_true.1 h2 _ (List.mem_map_of_mem ha)) (List.all_eq_true.1 h3 _ (List.mem_map_of_mem ha)) (hf a ha)) _ _ _ (behind hd)
  have e3 : rracts ⟨bmod (l.map toAct), 3, 0⟩ = (l, ⟨bmod (l.map toAct), 3 + (Reel.digits l.length).length + ((l.map fun a => bact (toAct a)).flatten).length, 0⟩) := by
    unfold rracts
    rw [e1]
    simp only [e2]
  have hlen := congrArg List.length hd
  simp only [List.length_drop, List.length_append, List.length_nil] at hlen
  unfold rread
  rw [if_neg (by omega), e0]
  simp only [e3, h]
  rw [fin_zero (by omega), if_neg (by decide)]
theorem rread_ok {t : List UInt8} (h : (rread t).2 = 0) : t = bmod ((rread t).1.map toAct) ∧ err ((rread t).1.map toAct) = 0 ∧ ArgsD (rread t).1 := by
  unfold rread at h ⊢
  split at h
  · exact absurd h (by decide)
  · rename_i h1
    rw [if_neg h1]
    split at h
    · exact absurd h (by decide)
    · rename_i h3
      rw [if_neg h3]
      simp only [Bool.or_eq_true, decide_eq_true_eq, not_or, Bool.not_eq_true', Bool.not_eq_false, Classical.not_not] at h3
      obtain ⟨⟨hb, hf⟩, he⟩ := h3
      simp only
      have hfin : (rracts (rhead (Reel.read t)).2).2.err = 0 ∧ rrest (rracts (rhead (Reel.read t)).2).2 = [] := by
        unfold Reel.R.fin at hf
        split at hf
        · rename_i h4
          refine ⟨h4, ?_⟩
          split at hf
          · exact absurd hf (by decide)
          · rename_i h5
            unfold Reel.R.left at h5
            unfold rrest
            exact List.drop_eq_nil_of_le (by omega)
        · rename_i h4; exact absurd hf h4
      refine ⟨?_, he, rracts_args _⟩
      have g1 := rback_run (f := rract) (b := fun a => bact (toAct a)) (fun R _ h => (rback_act R h).2) _ _ hfin.1
      have g2 := rback_count 8 _ g1.1
      have g3 := rback_head hb g2.1
      have hn : (rcount 8 (rhead (Reel.read t)).2).1 = (rracts (rhead (Reel.read t)).2).1.length := (rrun_full _ hfin.1).symm
      have e1 : rrest (rhead (Reel.read t)).2 = Reel.digits (rcount 8 (rhead (Reel.read t)).2).1 ++ (((rracts (rhead (Reel.read t)).2).1.map fun a => bact (toAct a)).flatten ++ rrest (rracts (rhead (Reel.read t)).2).2) := g2.2.trans (by rw [g1.2]; rfl)
      rw [hfin.2, List.append_nil, hn, flat_map] at e1
      have e2 : t = [67, 66, 49] ++ rrest (rhead (Reel.read t)).2 := g3.2
      rw [bmod, List.length_map, ← e1]
      exact e2
/-- What any bytes are read as. -/
theorem rread_eq (t : List UInt8) : rread t = mread t := by
  by_cases h : (mread t).2 = 0
  · obtain ⟨e1, e2⟩ := mread_ok h
    have hf := mread_args t
    have e3 : mread t = ((mread t).1, 0) := Prod.ext rfl h
    generalize (mread t).1 = l at *
    rw [e3, e1]
    exact rread_of e2 hf
  · by_cases h2 : (rread t).2 = 0
    · obtain ⟨e1, e2, hf⟩ := rread_ok h2
      generalize (rread t).1 = l at *
      rw [e1, mread_bmod e2 hf] at h
      exact absurd rfl h
    · unfold rread at h2 ⊢
      unfold mread at h ⊢
      split
      · rfl
      · rename_i h1
        rw [if_neg h1] at h h2
        split
        · split
          · rfl
          · rename_i h3
            rw [if_neg h3] at h
            split
            · rfl
            · rename_i h4
              rw [if_neg h4] at h; exact absurd rfl h
        · rename_i h3
          rw [if_neg h3] at h2; exact absurd rfl h2
end Mod
end Go.Proofs.Ytebolbjbfnolpab

namespace Go.Proofs.Ytebolbjbfnolpab
open Go.RowKit HP
open Go.Proofs.Ytebolbjbfnolpab.Mod

section
set_option maxRecDepth 100000 in
set_option maxHeartbeats 8000000 in
theorem moduleReads_any (t : List UInt8) (ht : t.length ≤ 140737488351232) (W : World) :
    Calls Try.prog 3 #[.string (str t)] W fun e w' => e = .returned (.bool true) ∧ Below W.heap.size W w' := by
  have hA := At.start W
  have k1 := fun (w1 : World) (L : List HP) (h : At W w1 L) => mread_any t (by unfold maxLen; omega) h
  have k2 := fun (w1 : World) (L : List HP) (h : At W w1 L) => refRead_any t (by unfold maxLen; omega) h
  rw [rread_eq] at k2
  generalize mread t = p at *
  obtain ⟨l, f⟩ := p
  simp only at k1 k2
  have k3 := fun (w1 : World) (L : List HP) (ao ao2 : Option Addr) (cap cap2 : Nat) (h : At W w1 L) (hk : KSl kActor w1 l ao l.length cap) (hk2 : KSl kActor w1 l ao2 l.length cap2) => refSame_any l l ao ao2 l.length l.length cap cap2 rfl rfl (by have := hk.2.1; have := hk.2.2.1; omega) (by have := hk.2.1; have := hk.2.2.1; omega) hk.2.2.2.2 hk2.2.2.2.2 h
  rw [decide_eq_true (rfl : l.map toAct = l.map toAct)] at k3
  obtain ⟨n, hn⟩ : ∃ n, n = l.length := ⟨_, rfl⟩
  rw [← hn] at k1 k2 k3
  clear hn
  have T : (f == f) = true := by simp
  have K1 := Lib.hid k1; clear k1
  have K2 := Lib.hid k2; clear k2
  have K3 := Lib.hid k3; clear k3
  go_enter Try.func3, Try.ntmps3
  go_wp2_with (first
    | (go_at_call 4; with_reducible refine (lives_any hA).mono ?_; rintro e w1 ⟨rfl, hV1⟩)
    | (go_at_call 5; with_reducible refine (K1.out _ _ hV1).mono ?_; rintro e w2 ⟨ao, cap, rfl, hV2⟩; have hM := hV2.alloc (.cells #[.slice ao n cap] 25))
    | (go_at_call 6; with_reducible refine (K2.out _ _ hM).mono ?_; rintro e w3 ⟨ao2, cap2, rfl, hV3⟩; have hN := hV3.alloc (.cells #[.slice ao2 n cap2] 25); have n0 := hN.cell 0; have n1 := hN.pick3.cell 0)
    | (go_at_call 7; with_reducible refine (K3.out _ _ _ _ _ _ hN hN.pick4.own hN.pick2.own).mono ?_; rintro e w4 ⟨rfl, hV4⟩))
  go_returns
  exact ⟨rfl, hV4.below⟩
end
namespace moduleReads
theorem moduleReads_walk (W : World) (t : List UInt8) (y : t.length ≤ 140737488351232) :
    Calls Try.prog 3 #[.string (str t)] W fun e w' => e = .returned (.bool true) ∧ Below W.heap.size W w' := moduleReads_any t y W
end moduleReads
end Go.Proofs.Ytebolbjbfnolpab
