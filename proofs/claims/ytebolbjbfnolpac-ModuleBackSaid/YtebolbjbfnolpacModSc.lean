/-
  The contract of the reference's Same.
-/
import Derived.Test.YtebolbjbfnolpacModSb
namespace Go.Proofs.Ytebolbjbfnolpac
open Go.RowKit HP
open Go.Proofs.Ytebolbjbfnolpac.Mod

section
variable {w0 w : World} {L : List HP}
set_option maxRecDepth 100000 in
set_option maxHeartbeats 4000000 in
theorem refSame_any (l l2 : List ActD) (ao ao2 : Option Addr) (n n2 cap cap2 : Nat) (hn : l.length = n) (hn2 : l2.length = n2) (hm : n ≤ maxLen) (hm2 : n2 ≤ maxLen) (h1 : Kn.At_ kActor w ao l) (h2 : Kn.At_ kActor w ao2 l2) (hA : At w0 w L) :
    Calls Try.prog 8 #[.agg #[.slice ao n cap], .agg #[.slice ao2 n2 cap2]] w fun e w' => e = .returned (.bool (decide (l.map toAct = l2.map toAct))) ∧ At w0 w' L := by
  suffices h : Calls Try.prog 8 #[.agg #[.slice ao n cap], .agg #[.slice ao2 n2 cap2]] w fun e w' => e = .returned (.bool (decide (l.map toAct = l2.map toAct))) ∧ At w w' [] from
    h.mono fun e w' h => ⟨h.1, hA.join h.2⟩
  clear hA
  by_cases hlen : n = n2
  · subst hlen
    exact rsame_any l l2 ao ao2 n cap cap2 hn hn2 hm h1 h2
  · have T : ((n : Int) != (n2 : Int)) = true := by simp; omega
    unfold maxLen at hm hm2
    have hne : decide (l.map toAct = l2.map toAct) = false := by
      apply decide_eq_false
      intro e
      have := congrArg List.length e
      simp only [List.length_map] at this
      omega
    rw [hne]
    clear hlen hne hn hn2
    have hB := ((At.start w).alloc (.cells #[.slice ao n cap] 24)).alloc (.cells #[.slice ao2 n2 cap2] 24)
    rw [World.size_alloc] at hB
    have b0 := hB.pick2.cell 0
    have b1 := hB.cell 0
    go_enter Try.func8, Try.ntmps8
    go_wp2
    go_returns
    exact ⟨rfl, hB.drop.drop⟩
end
end Go.Proofs.Ytebolbjbfnolpac
