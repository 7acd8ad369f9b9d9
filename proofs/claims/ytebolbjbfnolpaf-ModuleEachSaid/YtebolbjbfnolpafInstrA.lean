/-
  The contracts of the instructions' functions on numbers, by the program and by the reference.
-/
import Derived.Test.YtebolbjbfnolpafInstrFns
import Derived.Test.YtebolbjbfnolpafReelRef3
import Derived.Deep.QuietTactic
import Derived.BigQuiet
namespace Go.Proofs.Ytebolbjbfnolpaf
open Go.RowKit HP

namespace Instr
/-- the greatest number of the reference's -/
def most (op : Int) : Int := if op = 1 then -2 else if op = 4 then 15 else if op = 5 then 15 else if op = 16 then 199 else if op = 17 then 199 else if op = 19 then 7 else if op = 20 then 7 else if op = 21 then 7 else -1
theorem cases (op : Int) : op = 1 ∨ op = 4 ∨ op = 5 ∨ op = 16 ∨ op = 17 ∨ op = 19 ∨ op = 20 ∨ op = 21 ∨ (op ≠ 1 ∧ op ≠ 4 ∧ op ≠ 5 ∧ op ≠ 16 ∧ op ≠ 17 ∧ op ≠ 19 ∧ op ≠ 20 ∧ op ≠ 21) := by omega
theorem has_most (op : Int) : has op = decide (most op ≠ -1) := by
  rcases cases op with rfl | rfl | rfl | rfl | rfl | rfl | rfl | rfl | h
  all_goals first | rfl | (unfold has cnt most; simp [h])
theorem most_cnt (op : Int) (h1 : op ≠ 1) : most op = cnt op - 1 := by
  unfold most cnt
  rw [if_neg h1]
  repeat' split
  all_goals rfl
end Instr

section
variable {w : World}

theorem count_any (op : Int) : Calls Try.prog 53 #[.int .i64 op] w fun e w' => e = .returned (.int .i64 (Instr.cnt op)) ∧ w = w' := by
  rcases Instr.cases op with rfl | rfl | rfl | rfl | rfl | rfl | rfl | rfl | h
  case inr.inr.inr.inr.inr.inr.inr.inr =>
    obtain ⟨h1, h2, h3, h4, h5, h6, h7, h8⟩ := h
    have hc : Instr.cnt op = 0 := by simp [Instr.cnt, h2, h3, h4, h5, h6, h7, h8]
    rw [hc]
    have e2 : (op == 4) = false := by simp [h2]
    have e3 : (op == 5) = false := by simp [h3]
    have e4 : (op == 16) = false := by simp [h4]
    have e5 : (op == 17) = false := by simp [h5]
    have e6 : (op == 19) = false := by simp [h6]
    have e7 : (op == 20) = false := by simp [h7]
    have e8 : (op == 21) = false := by simp [h8]
    go_enter Try.func53, Try.ntmps53
    go_wp2
    go_returns
    exact ⟨rfl, rfl⟩
  all_goals
    go_enter Try.func53, Try.ntmps53
    go_wp2
    go_returns
    exact ⟨rfl, rfl⟩
theorem has_any (op : Int) : Calls Try.prog 37 #[.int .i64 op] w fun e w' => e = .returned (.bool (Instr.has op)) ∧ w = w' := by
  by_cases h : op = 1
  · subst h
    go_enter Try.func37, Try.ntmps37
    go_wp2
    go_returns
    exact ⟨rfl, rfl⟩
  · have hh : Instr.has op = decide (0 < Instr.cnt op) := by simp [Instr.has, h]
    rw [hh]
    have e1 : (op == 1) = false := by simp [h]
    go_enter Try.func37, Try.ntmps37
    go_wp2_with (first | (go_at_call 53; refine (count_any _).mono ?_; rintro e w' ⟨rfl, rfl⟩))
    go_returns
    exact ⟨rfl, rfl⟩

end

section
variable {w0 w : World} {L : List HP}
theorem right_any (op a : Int) (hA : At w0 w L) : Calls Try.prog 48 #[.agg #[.int .i64 op, .int .i64 a]] w fun e w' => e = .returned (.bool (Instr.right op a)) ∧ At w0 w' L := by
  have hA0 := hA.alloc (.cells #[.int .i64 op, .int .i64 a] 32)
  have hfin : At w0 (w.alloc (.cells #[.int .i64 op, .int .i64 a] 32)) L := hA0.drop
  by_cases h0 : op < 0
  · have hr : Instr.right op a = false := by rw [Instr.right, if_pos (.inl h0)]
    rw [hr]
    go_enter Try.func48, Try.ntmps48
    go_wp2
    go_returns
    exact ⟨rfl, hfin⟩
  · by_cases h26 : 26 < op
    · have hr : Instr.right op a = false := by rw [Instr.right, if_pos (.inr h26)]
      rw [hr]
      go_enter Try.func48, Try.ntmps48
      go_wp2
      go_returns
      exact ⟨rfl, hfin⟩
    · by_cases h1 : op = 1
      · subst h1
        go_enter Try.func48, Try.ntmps48
        go_wp2
        go_returns
        exact ⟨rfl, hfin⟩
      · have e1 : (op == 1) = false := by simp [h1]
        cases hh : Instr.has op with
        | true =>
          have HH := Lib.hid hh
          by_cases ha : 0 ≤ a
          · have hr : Instr.right op a = decide (a < Instr.cnt op) := by
              rw [Instr.right, if_neg (by omega), if_neg h1, if_pos hh]; simp [ha]
            rw [hr]
            clear hh hr
            have c0 := hA0.cell 0
            have c1 := hA0.cell 1
            go_enter Try.func48, Try.ntmps48
            go_wp2_with (first
              | (go_at_call 37; refine (has_any _).mono ?_; rw [HH.out]; rintro e w' ⟨rfl, rfl⟩))
            go_quiet (first
              | (go_at_call 53; exact Calls.quiet_of_same ((count_any _).mono fun _ _ h => ⟨h.1, h.2.symm⟩)))
            go_wp2
            go_returns
            exact ⟨rfl, hfin.drewN _⟩
          · have hr : Instr.right op a = false := by
              rw [Instr.right, if_neg (by omega), if_neg h1, if_pos hh]; simp [ha]
            have hda : decide (0 ≤ a) = false := by simp; omega
            rw [hr]
            clear hh hr
            have c0 := hA0.cell 0
            have c1 := hA0.cell 1
            go_enter Try.func48, Try.ntmps48
            go_wp2_with (first
              | (go_at_call 37; refine (has_any _).mono ?_; rw [HH.out]; rintro e w' ⟨rfl, rfl⟩))
            go_quiet (first
              | (go_at_call 53; exact Calls.quiet_of_same ((count_any _).mono fun _ _ h => ⟨h.1, h.2.symm⟩)))
            go_wp2
            go_returns
            exact ⟨rfl, hfin.drewN _⟩
        | false =>
          have HH := Lib.hid hh
          have hr : Instr.right op a = (a == 0) := by
            rw [Instr.right, if_neg (by omega), if_neg h1, if_neg (by simp [hh])]; by_cases a = 0 <;> simp_all
          rw [hr]
          clear hh hr
          go_enter Try.func48, Try.ntmps48
          go_wp2_with (first
              | (go_at_call 37; refine (has_any _).mono ?_; rw [HH.out]; rintro e w' ⟨rfl, rfl⟩)
              | (go_at_call 53; refine (count_any _).mono ?_; rintro e w' ⟨rfl, rfl⟩))
          go_returns
          exact ⟨rfl, hfin⟩

end
end Go.Proofs.Ytebolbjbfnolpaf
