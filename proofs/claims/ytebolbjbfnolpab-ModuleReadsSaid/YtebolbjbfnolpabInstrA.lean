/-
  The contracts of the instructions' functions on numbers, by the program and by the reference.
-/
import Derived.Test.YtebolbjbfnolpabInstrFns
import Derived.Test.YtebolbjbfnolpabReelRef3
import Derived.Deep.QuietTactic
import Derived.BigQuiet
namespace Go.Proofs.Ytebolbjbfnolpab
open Go.RowKit HP

namespace Instr
/-- the greatest number of the reference's -/
def most (op : Int) : Int := if op = 1 then -2 else if op = 4 then 15 else if op = 5 then 15 else if op = 16 then 199 else if op = 17 then 199 else if op = 19 then 7 else if op = 20 then 7 else if op = 21 then 7 else -1
theorem cases (op : Int) : op = 1 ∨ op = 4 ∨ op = 5 ∨ op = 16 ∨ op = 17 ∨ op = 19 ∨ op = 20 ∨ op = 21 ∨ (op ≠ 1 ∧ op ≠ 4 ∧ op ≠ 5 ∧ op ≠ 16 ∧ op ≠ 17 ∧ op ≠ 19 ∧ op ≠ 20 ∧ op ≠ 21) := by omega
theorem has_most (op : Int) : has op = decide (most op ≠ -1) := by
  rcases cases op with rfl | rfl | rfl | rfl | rfl | rfl | rfl | rfl | h
  all_goals first | rfl | (unfold has cnt most; simp [h])
theorem most_cnt (op : Int) (h1 : op ≠ 1) : most op = cnt op - 1 := by
  unfold most cnt
  rw [if_neg h1]
  repeat' split
  all_goals rfl
end Instr

section
variable {w : World}

theorem count_any (op : Int) : Calls Try.prog 59 #[.int .i64 op] w fun e w' => e = .returned (.int .i64 (Instr.cnt op)) ∧ w = w' := by
  rcases Instr.cases op with rfl | rfl | rfl | rfl | rfl | rfl | rfl | rfl | h
  case inr.inr.inr.inr.inr.inr.inr.inr =>
    obtain ⟨h1, h2, h3, h4, h5, h6, h7, h8⟩ := h
    have hc : Instr.cnt op = 0 := by simp [Instr.cnt, h2, h3, h4, h5, h6, h7, h8]
    rw [hc]
    have e2 : (op == 4) = false := by simp [h2]
    have e3 : (op == 5) = false := by simp [h3]
    have e4 : (op == 16) = false := by simp [h4]
    have e5 : (op == 17) = false := by simp [h5]
    have e6 : (op == 19) = false := by simp [h6]
    have e7 : (op == 20) = false := by simp [h7]
    have e8 : (op == 21) = false := by simp [h8]
    go_enter Try.func59, Try.ntmps59
    go_wp2
    go_returns
    exact ⟨rfl, rfl⟩
  all_goals
    go_enter Try.func59, Try.ntmps59
    go_wp2
    go_returns
    exact ⟨rfl, rfl⟩
theorem most_any (op : Int) : Calls Try.prog 82 #[.int .i64 op] w fun e w' => e = .returned (.int .i64 (Instr.most op)) ∧ w = w' := by
  rcases Instr.cases op with rfl | rfl | rfl | rfl | rfl | rfl | rfl | rfl | h
  case inr.inr.inr.inr.inr.inr.inr.inr =>
    obtain ⟨h1, h2, h3, h4, h5, h6, h7, h8⟩ := h
    have hc : Instr.most op = -1 := by simp [Instr.most, h1, h2, h3, h4, h5, h6, h7, h8]
    rw [hc]
    have e1 : (op == 1) = false := by simp [h1]
    have e2 : (op == 4) = false := by simp [h2]
    have e3 : (op == 5) = false := by simp [h3]
    have e4 : (op == 16) = false := by simp [h4]
    have e5 : (op == 17) = false := by simp [h5]
    have e6 : (op == 19) = false := by simp [h6]
    have e7 : (op == 20) = false := by simp [h7]
    have e8 : (op == 21) = false := by simp [h8]
    go_enter Try.func82, Try.ntmps82
    go_wp2
    go_returns
    exact ⟨rfl, rfl⟩
  all_goals
    go_enter Try.func82, Try.ntmps82
    go_wp2
    go_returns
    exact ⟨rfl, rfl⟩

theorem has_any (op : Int) : Calls Try.prog 40 #[.int .i64 op] w fun e w' => e = .returned (.bool (Instr.has op)) ∧ w = w' := by
  by_cases h : op = 1
  · subst h
    go_enter Try.func40, Try.ntmps40
    go_wp2
    go_returns
    exact ⟨rfl, rfl⟩
  · have hh : Instr.has op = decide (0 < Instr.cnt op) := by simp [Instr.has, h]
    rw [hh]
    have e1 : (op == 1) = false := by simp [h]
    go_enter Try.func40, Try.ntmps40
    go_wp2_with (first | (go_at_call 59; refine (count_any _).mono ?_; rintro e w' ⟨rfl, rfl⟩))
    go_returns
    exact ⟨rfl, rfl⟩

theorem is_any (op : Int) : Calls Try.prog 69 #[.int .i64 op] w fun e w' => e = .returned (.bool (decide (0 ≤ op) && decide (op ≤ 26))) ∧ w = w' := by
  by_cases h : 0 ≤ op
  · have hh : (decide (0 ≤ op) && decide (op ≤ 26)) = decide (op ≤ 26) := by simp [h]
    rw [hh]
    go_enter Try.func69, Try.ntmps69
    go_wp2
    go_returns
    exact ⟨rfl, rfl⟩
  · have hh : (decide (0 ≤ op) && decide (op ≤ 26)) = false := by simp [h]
    rw [hh]
    go_enter Try.func69, Try.ntmps69
    go_wp2
    go_returns
    exact ⟨rfl, rfl⟩
theorem rhas_any (op : Int) : Calls Try.prog 70 #[.int .i64 op] w fun e w' => e = .returned (.bool (Instr.has op)) ∧ w = w' := by
  by_cases h : 0 ≤ op ∧ op ≤ 26
  · have hh : (decide (0 ≤ op) && decide (op ≤ 26)) = true := by simp [h]
    have HH := Lib.hid hh; clear hh
    rw [Instr.has_most]
    have hb : decide (Instr.most op ≠ -1) = (Instr.most op != -1) := by by_cases z : Instr.most op = -1 <;> simp [z]
    rw [hb]; clear hb
    go_enter Try.func70, Try.ntmps70
    go_wp2_with (first
      | (go_at_call 69; refine (is_any _).mono ?_; rw [HH.out]; rintro e w' ⟨rfl, rfl⟩)
      | (go_at_call 82; refine (most_any _).mono ?_; rintro e w' ⟨rfl, rfl⟩))
    go_returns
    exact ⟨rfl, rfl⟩
  · have hh : (decide (0 ≤ op) && decide (op ≤ 26)) = false := by simp; omega
    have hz : Instr.has op = false := by
      cases z : Instr.has op with
      | false => rfl
      | true => exact absurd (Instr.has_op z) h
    rw [hz]
    have HH := Lib.hid hh; clear hh
    go_enter Try.func70, Try.ntmps70
    go_wp2_with (first
      | (go_at_call 69; refine (is_any _).mono ?_; rw [HH.out]; rintro e w' ⟨rfl, rfl⟩)
      | (go_at_call 82; refine (most_any _).mono ?_; rintro e w' ⟨rfl, rfl⟩))
    go_returns
    exact ⟨rfl, rfl⟩
end

section
variable {w0 w : World} {L : List HP}
theorem right_any (op a : Int) (hA : At w0 w L) : Calls Try.prog 64 #[.agg #[.int .i64 op, .int .i64 a]] w fun e w' => e = .returned (.bool (Instr.right op a)) ∧ At w0 w' L := by
  have hA0 := hA.alloc (.cells #[.int .i64 op, .int .i64 a] 32)
  have hfin : At w0 (w.alloc (.cells #[.int .i64 op, .int .i64 a] 32)) L := hA0.drop
  by_cases h0 : op < 0
  · have hr : Instr.right op a = false := by rw [Instr.right, if_pos (.inl h0)]
    rw [hr]
    go_enter Try.func64, Try.ntmps64
    go_wp2
    go_returns
    exact ⟨rfl, hfin⟩
  · by_cases h26 : 26 < op
    · have hr : Instr.right op a = false := by rw [Instr.right, if_pos (.inr h26)]
      rw [hr]
      go_enter Try.func64, Try.ntmps64
      go_wp2
      go_returns
      exact ⟨rfl, hfin⟩
    · by_cases h1 : op = 1
      · subst h1
        go_enter Try.func64, Try.ntmps64
        go_wp2
        go_returns
        exact ⟨rfl, hfin⟩
      · have e1 : (op == 1) = false := by simp [h1]
        cases hh : Instr.has op with
        | true =>
          have HH := Lib.hid hh
          by_cases ha : 0 ≤ a
          · have hr : Instr.right op a = decide (a < Instr.cnt op) := by
              rw [Instr.right, if_neg (by omega), if_neg h1, if_pos hh]; simp [ha]
            rw [hr]
            clear hh hr
            have c0 := hA0.cell 0
            have c1 := hA0.cell 1
            go_enter Try.func64, Try.ntmps64
            go_wp2_with (first
              | (go_at_call 40; refine (has_any _).mono ?_; rw [HH.out]; rintro e w' ⟨rfl, rfl⟩))
            go_quiet (first
              | (go_at_call 59; exact Calls.quiet_of_same ((count_any _).mono fun _ _ h => ⟨h.1, h.2.symm⟩)))
            go_wp2
            go_returns
            exact ⟨rfl, hfin.drewN _⟩
          · have hr : Instr.right op a = false := by
              rw [Instr.right, if_neg (by omega), if_neg h1, if_pos hh]; simp [ha]
            have hda : decide (0 ≤ a) = false := by simp; omega
            rw [hr]
            clear hh hr
            have c0 := hA0.cell 0
            have c1 := hA0.cell 1
            go_enter Try.func64, Try.ntmps64
            go_wp2_with (first
              | (go_at_call 40; refine (has_any _).mono ?_; rw [HH.out]; rintro e w' ⟨rfl, rfl⟩))
            go_quiet (first
              | (go_at_call 59; exact Calls.quiet_of_same ((count_any _).mono fun _ _ h => ⟨h.1, h.2.symm⟩)))
            go_wp2
            go_returns
            exact ⟨rfl, hfin.drewN _⟩
        | false =>
          have HH := Lib.hid hh
          have hr : Instr.right op a = (a == 0) := by
            rw [Instr.right, if_neg (by omega), if_neg h1, if_neg (by simp [hh])]; by_cases a = 0 <;> simp_all
          rw [hr]
          clear hh hr
          go_enter Try.func64, Try.ntmps64
          go_wp2_with (first
              | (go_at_call 40; refine (has_any _).mono ?_; rw [HH.out]; rintro e w' ⟨rfl, rfl⟩)
              | (go_at_call 59; refine (count_any _).mono ?_; rintro e w' ⟨rfl, rfl⟩))
          go_returns
          exact ⟨rfl, hfin⟩

theorem rright_any (op a : Int) (hA : At w0 w L) : Calls Try.prog 71 #[.agg #[.int .i64 op, .int .i64 a]] w fun e w' => e = .returned (.bool (Instr.right op a)) ∧ At w0 w' L := by
  have hA0 := hA.alloc (.cells #[.int .i64 op, .int .i64 a] 32)
  have hfin : At w0 (w.alloc (.cells #[.int .i64 op, .int .i64 a] 32)) L := hA0.drop
  by_cases h : 0 ≤ op ∧ op ≤ 26
  · have hh : (decide (0 ≤ op) && decide (op ≤ 26)) = true := by simp [h]
    have HI := Lib.hid hh; clear hh
    by_cases h1 : op = 1
    · subst h1
      go_enter Try.func71, Try.ntmps71
      go_wp2_with (first
        | (go_at_call 69; refine (is_any _).mono ?_; rw [HI.out]; rintro e w' ⟨rfl, rfl⟩)
        | (go_at_call 82; refine (most_any _).mono ?_; rintro e w' ⟨rfl, rfl⟩))
      go_returns
      exact ⟨rfl, hfin⟩
    · have hm := Instr.most_cnt op h1
      have hn : Instr.cnt op = 0 ∨ 0 < Instr.cnt op := by
        unfold Instr.cnt; repeat' split
        all_goals omega
      rcases hn with hn | hn
      · have hr : Instr.right op a = (a == 0) := by
          rw [Instr.right, if_neg (by omega), if_neg h1, if_neg (by simp [Instr.has, h1, hn])]; by_cases a = 0 <;> simp_all
        rw [hr]
        have hm' : Instr.most op = -1 := by omega
        have HM := Lib.hid hm'; clear hm hm' hn hr
        go_enter Try.func71, Try.ntmps71
        go_wp2_with (first
          | (go_at_call 69; refine (is_any _).mono ?_; rw [HI.out]; rintro e w' ⟨rfl, rfl⟩)
          | (go_at_call 82; refine (most_any _).mono ?_; rw [HM.out]; rintro e w' ⟨rfl, rfl⟩))
        go_returns
        exact ⟨rfl, hfin⟩
      · have e1 : (Instr.most op == -2) = false := by simp; omega
        have e2 : (Instr.most op == -1) = false := by simp; omega
        by_cases ha : 0 ≤ a
        · have hr : Instr.right op a = decide (a ≤ Instr.most op) := by
            rw [Instr.right, if_neg (by omega), if_neg h1, if_pos (by simp [Instr.has, hn]), hm]
            simp only [ha, decide_true, Bool.true_and]
            congr 1
            simp; omega
          rw [hr]
          clear hr hm hn
          go_enter Try.func71, Try.ntmps71
          go_wp2_with (first
            | (go_at_call 69; refine (is_any _).mono ?_; rw [HI.out]; rintro e w' ⟨rfl, rfl⟩)
            | (go_at_call 82; refine (most_any _).mono ?_; rintro e w' ⟨rfl, rfl⟩))
          go_returns
          exact ⟨rfl, hfin⟩
        · have hr : Instr.right op a = false := by
            rw [Instr.right, if_neg (by omega), if_neg h1, if_pos (by simp [Instr.has, hn])]; simp [ha]
          rw [hr]
          clear hr hm hn
          go_enter Try.func71, Try.ntmps71
          go_wp2_with (first
            | (go_at_call 69; refine (is_any _).mono ?_; rw [HI.out]; rintro e w' ⟨rfl, rfl⟩)
            | (go_at_call 82; refine (most_any _).mono ?_; rintro e w' ⟨rfl, rfl⟩))
          go_returns
          exact ⟨rfl, hfin⟩
  · have hh : (decide (0 ≤ op) && decide (op ≤ 26)) = false := by simp; omega
    have HI := Lib.hid hh; clear hh
    have hr : Instr.right op a = false := by rw [Instr.right, if_pos (by omega)]
    rw [hr]
    go_enter Try.func71, Try.ntmps71
    go_wp2_with (first
      | (go_at_call 69; refine (is_any _).mono ?_; rw [HI.out]; rintro e w' ⟨rfl, rfl⟩)
      | (go_at_call 82; refine (most_any _).mono ?_; rintro e w' ⟨rfl, rfl⟩))
    go_returns
    exact ⟨rfl, hfin⟩
end
end Go.Proofs.Ytebolbjbfnolpab
