/-
  The contract of module.Right.
-/
import Derived.Test.YtebolbjbfnolpabModL
namespace Go.Proofs.Ytebolbjbfnolpab
open Go.RowKit HP

section
variable {w0 w : World} {L : List HP}
theorem actLittle_all (l : List ActD) : (l.map toAct).all Mod.little = l.all actLittle := by
  induction l with
  | nil => rfl
  | cons x r ih => simp [ih, actLittle]
theorem actRight_all (n : Int) (l : List ActD) : ((l.map toAct).all fun a => Mod.right a n) = l.all (actRight n) := by
  induction l with
  | nil => rfl
  | cons x r ih => simp only [List.map_cons, List.all_cons, ih]; rfl

set_option maxHeartbeats 2000000 in
theorem modRight_any (l : List ActD) (ao : Option Addr) (n cap : Nat) (hn : l.length = n) (hm : n ≤ maxLen) (hrd : Kn.At_ kActor w ao l) (hA : At w0 w L) :
    Calls Try.prog 16 #[.agg #[.slice ao n cap]] w fun e w' => e = .returned (.int .i64 (Mod.err (l.map toAct))) ∧ At w0 w' L := by
  suffices h : Calls Try.prog 16 #[.agg #[.slice ao n cap]] w fun e w' => e = .returned (.int .i64 (Mod.err (l.map toAct))) ∧ At w w' [] from h.mono fun e w' h => ⟨h.1, hA.join h.2⟩
  clear hA
  have hB := (At.start w).alloc (.cells #[.slice ao n cap] 25)
  have hD := hB.alloc (.cells #[.int .i64 n] 3)
  rw [World.size_alloc] at hD
  have b0 := hD.cell 0
  have b1 := hD.pick2.cell 0
  have hL := allL_any l ao n cap hn hm (Kn.At_.mv hD.below hrd) hD
  have herr : Mod.err (l.map toAct) = if 8 < n ∨ l.all actLittle = false then 3 else if n = 0 ∨ 0 < (l.head?.map (fun a => a.1.length)).getD 0 ∨ l.all (actRight n) = false then 4 else 0 := by
    unfold Mod.err
    rw [actLittle_all, actRight_all, List.length_map, hn]
    cases l <;> rfl
  rw [herr]
  clear herr
  by_cases h8 : 8 < n
  · have s8 : decide ((8 : Int) < (n : Int)) = true := by simp; omega
    rw [if_pos (.inl h8)]
    go_enter Try.func16, Try.ntmps16
    go_wp2
    go_returns
    exact ⟨rfl, hD.drop.drop⟩
  · have s8 : decide ((8 : Int) < (n : Int)) = false := by simp; omega
    cases hl : l.all actLittle with
    | false =>
      rw [hl] at hL
      rw [if_pos (.inr rfl)]
      have HL := Lib.hid hL; clear hL
      go_enter Try.func16, Try.ntmps16
      go_wp2_with (go_at_call 43; refine HL.out.mono ?_; rintro e w' ⟨rfl, hV⟩)
      go_returns
      exact ⟨rfl, hV.drop.drop⟩
    | true =>
      rw [hl] at hL
      have HL := Lib.hid hL; clear hL
      rw [if_neg (by simp; omega)]
      by_cases h0 : n = 0
      · have s0 : ((n : Int) == 0) = true := by simp [h0]
        rw [if_pos (.inl h0)]
        clear h0
        go_enter Try.func16, Try.ntmps16
        go_wp2_with (go_at_call 43; refine HL.out.mono ?_; rintro e w' ⟨rfl, hV⟩; have v0 := hV.cell 0; have v1 := hV.pick2.cell 0)
        go_returns
        exact ⟨rfl, hV.drop.drop⟩
      · have s0 : ((n : Int) == 0) = false := by simp [h0]
        have hlt1 : 0 < l.length := by omega
        obtain ⟨b, off, rfl⟩ : ∃ b off, ao = some ⟨b, off, none⟩ := by
          rcases hrd with rfl | ⟨b, off, e, _⟩
          · simp at hlt1
          · exact ⟨b, off, e⟩
        obtain ⟨aP, cP, _, _, _, _, _, _, _, _, ⟨d0, _⟩, _, _⟩ := actor_at hrd 0 hlt1
        rw [Nat.zero_mul, Nat.add_zero] at d0
        have hq : (l.head?.map (fun a => a.1.length)).getD 0 = l[0].1.length := by cases l with | nil => simp at hlt1 | cons x r => rfl
        rw [hq]
        clear hq
        generalize l[0].1.length = q at *
        by_cases h1 : 0 < q
        · have s1 : decide ((0 : Int) < (q : Int)) = true := by simp; omega
          rw [if_pos (.inr (.inl h1))]
          clear h0
          go_enter Try.func16, Try.ntmps16
          go_wp2_with (go_at_call 43; refine HL.out.mono ?_; rintro e w' ⟨rfl, hV⟩; have v0 := hV.cell 0; have v1 := hV.pick2.cell 0; have g0 := hV.oldCell d0)
          go_returns
          exact ⟨rfl, hV.drop.drop⟩
        · have s1 : decide ((0 : Int) < (q : Int)) = false := by simp; omega
          have s1b : decide (0 < q) = false := by simp; omega
          have s2 : 0 < n := by omega
          have hR := fun w2 (h : At w w2 [one (w.heap.size + 1) (.cells #[.int .i64 n] 3), one w.heap.size (.cells #[.slice (some ⟨b, off, none⟩) n cap] 25)]) => allR_any l (some ⟨b, off, none⟩) n cap hn hm (Kn.At_.mv h.below hrd) n (w.heap.size + 1) (h.cell 0) hl h
          have hfin : (if n = 0 ∨ 0 < q ∨ l.all (actRight n) = false then (4 : Int) else 0) = if l.all (actRight n) = false then 4 else 0 := by
            have e : (n = 0 ∨ 0 < q ∨ l.all (actRight n) = false) ↔ l.all (actRight n) = false := ⟨fun h => h.elim (fun h => absurd h h0) fun h => h.elim (fun h => absurd h h1) id, fun h => .inr (.inr h)⟩
            simp only [e]
          rw [hfin]
          clear hfin h0 h1
          cases hr : l.all (actRight n) with
          | false =>
            rw [hr] at hR
            rw [if_pos rfl]
            have HR := Lib.hid hR; clear hR hr
            go_enter Try.func16, Try.ntmps16
            go_wp2_with (first | (go_at_call 43; refine (HR.out _ hV).mono ?_; rintro e w' ⟨rfl, hU⟩) | (go_at_call 43; refine HL.out.mono ?_; rintro e w' ⟨rfl, hV⟩; have v0 := hV.cell 0; have v1 := hV.pick2.cell 0; have g0 := hV.oldCell d0))
            go_returns
            exact ⟨rfl, hU.drop.drop⟩
          | true =>
            rw [hr] at hR
            rw [if_neg (by decide)]
            have HR := Lib.hid hR; clear hR hr
            go_enter Try.func16, Try.ntmps16
            go_wp2_with (first | (go_at_call 43; refine (HR.out _ hV).mono ?_; rintro e w' ⟨rfl, hU⟩) | (go_at_call 43; refine HL.out.mono ?_; rintro e w' ⟨rfl, hV⟩; have v0 := hV.cell 0; have v1 := hV.pick2.cell 0; have g0 := hV.oldCell d0))
            go_returns
            exact ⟨rfl, hU.drop.drop⟩
end
end Go.Proofs.Ytebolbjbfnolpab
