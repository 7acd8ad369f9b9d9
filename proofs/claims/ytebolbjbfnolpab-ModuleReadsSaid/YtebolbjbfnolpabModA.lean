/-
  The contracts of types: kinds.Right, kinds.All, and the reference's.
-/
import Derived.Test.YtebolbjbfnolpabModFns
import Derived.Test.YtebolbjbfnolpabLib2
import Derived.Test.YtebolbjbfnolpabChecked
import Derived.Deep.QuietTactic
import Derived.BigQuiet
import Derived.IntWalk
namespace Go.Proofs.Ytebolbjbfnolpab
open Go.RowKit HP

namespace Mod
/-- the first that isn't right; -1: all are -/
def bad {α : Type} (p : α → Bool) : List α → Nat → Int
  | [], _ => -1
  | x :: r, i => if p x then bad p r (i + 1) else i
theorem bad_all {α : Type} (p : α → Bool) : ∀ (l : List α) (i : Nat), decide (0 ≤ bad p l i) = !l.all p
  | [], i => by simp [bad]
  | x :: r, i => by
    unfold bad
    cases h : p x with
    | true => simp only [if_true]; rw [bad_all p r (i + 1)]; simp [h]
    | false => simp [h]
end Mod

section
variable {w0 w : World} {L : List HP}
theorem place_any (n e : Int) (w : World) : Calls Try.prog 81 #[.int .i64 n, .int .i64 e] w fun e' w' => e' = .returned (.bool (Mod.place n e)) ∧ w = w' := by
  by_cases h : 0 ≤ n
  · have hp : Mod.place n e = decide (n < e) := by simp [Mod.place, h]
    rw [hp]; clear hp
    go_enter Try.func81, Try.ntmps81
    go_wp2
    go_returns
    exact ⟨rfl, rfl⟩
  · have hp : Mod.place n e = false := by simp [Mod.place, h]
    have h' : decide (0 ≤ n) = false := by simpa using h
    rw [hp]; clear hp
    go_enter Try.func81, Try.ntmps81
    go_wp2
    go_returns
    exact ⟨rfl, rfl⟩

theorem kright_any (t n : Int) (w : World) : Calls Try.prog 77 #[.int .i64 t, .int .i64 n] w fun e w' => e = .returned (.bool (Mod.ty t n)) ∧ w = w' := by
  by_cases h1 : t = 1
  · subst h1
    have : Mod.ty 1 n = true := by simp [Mod.ty]
    rw [this]
    go_enter Try.func77, Try.ntmps77
    go_wp2
    go_returns
    exact ⟨rfl, rfl⟩
  · have e1 : (t == 1) = false := by simp [h1]
    by_cases h2 : t = 2
    · subst h2
      have : Mod.ty 2 n = true := by simp [Mod.ty]
      rw [this]
      go_enter Try.func77, Try.ntmps77
      go_wp2
      go_returns
      exact ⟨rfl, rfl⟩
    · have e2 : (t == 2) = false := by simp [h2]
      by_cases h3 : 16 ≤ t
      · have hm : (n < 0 ∧ min (max n 0) 8 = 0) ∨ (0 ≤ n ∧ n ≤ 8 ∧ min (max n 0) 8 = n) ∨ (8 < n ∧ min (max n 0) 8 = 8) := by omega
        have ht : Mod.ty t n = decide (t < 16 + min (max n 0) 8) := by simp [Mod.ty, h1, h2, h3]
        rw [ht]; clear ht
        rcases hm with ⟨g, hm⟩ | ⟨g, g2, hm⟩ | ⟨g, hm⟩
        · rw [hm]; clear hm
          go_enter Try.func77, Try.ntmps77
          go_wp2
          all_goals (go_returns; exact ⟨by first | rfl | (simp; done) | (congr 2; simp; omega), rfl⟩)
        · rw [hm]; clear hm
          go_enter Try.func77, Try.ntmps77
          go_wp2
          all_goals (go_returns; exact ⟨by first | rfl | (simp; done) | (congr 2; simp; omega), rfl⟩)
        · rw [hm]; clear hm
          go_enter Try.func77, Try.ntmps77
          go_wp2
          all_goals (go_returns; exact ⟨by first | rfl | (simp; done) | (congr 2; simp; omega), rfl⟩)
      · have h3' : decide (16 ≤ t) = false := by simpa using h3
        have ht : Mod.ty t n = false := by simp [Mod.ty, h1, h2]; omega
        rw [ht]; clear ht
        go_enter Try.func77, Try.ntmps77
        go_wp2
        go_returns
        exact ⟨rfl, rfl⟩

theorem rkright_any (t n : Int) (w : World) : Calls Try.prog 83 #[.int .i64 t, .int .i64 n] w fun e w' => e = .returned (.bool (Mod.ty t n)) ∧ w = w' := by
  by_cases h1 : t = 1
  · subst h1
    have : Mod.ty 1 n = true := by simp [Mod.ty]
    rw [this]
    go_enter Try.func83, Try.ntmps83
    go_wp2
    go_returns
    exact ⟨rfl, rfl⟩
  · have e1 : (t == 1) = false := by simp [h1]
    by_cases h2 : t = 2
    · subst h2
      have : Mod.ty 2 n = true := by simp [Mod.ty]
      rw [this]
      go_enter Try.func83, Try.ntmps83
      go_wp2
      go_returns
      exact ⟨rfl, rfl⟩
    · have e2 : (t == 2) = false := by simp [h2]
      have hty : Mod.ty t n = decide (16 ≤ t ∧ t < 16 + min (max n 0) 8) := by simp [Mod.ty, h1, h2]
      rw [hty]; clear hty
      go_enter Try.func83, Try.ntmps83
      go_wp2
      go_loop [5] (fun i => ∃ k : Nat, i = .int .i64 k ∧ k ≤ 8 ∧ ¬ (16 ≤ t ∧ t < 16 + k)) (fun i => 8 - (intOf i).toNat)
      case atStart => exact ⟨0, rfl, by omega, by omega⟩
      case round =>
        obtain ⟨k, rfl, hk, hx⟩ := hrel
        have HX := Lib.hid hx; clear hx
        by_cases hlt : (k : Int) < n ∧ k < 8
        · obtain ⟨g1, g2⟩ := hlt
          by_cases he : t = 16 + (k : Int)
          · have T : (t == 16 + (k : Int)) = true := by simp [he]
            have HE := Lib.hid he; clear he
            go_wp2
            go_returns
            exact ⟨ret_bool (by have := HE.out; symm; simp only [Bool.and_eq_true, decide_eq_true_eq]; omega), rfl⟩
          · have T : (t == 16 + (k : Int)) = false := by simp [he]
            have HE := Lib.hid he; clear he
            go_wp2
            go_round
            case rel => exact ⟨k + 1, by go_num, by omega, by have := HX.out; have := HE.out; push_cast; omega⟩
            case measure => simp [intOf]; omega
        · have hf : (decide ((k : Int) < n) = false) ∨ ((k : Int) < n ∧ ¬ k < 8) := by
            simp only [decide_eq_false_iff_not]; omega
          have HL := Lib.hid hlt; clear hlt
          rcases hf with hf | ⟨hf, hf8⟩
          all_goals
            go_wp2
            go_returns
            exact ⟨ret_bool (by have := HX.out; have := HL.out; symm; rw [Bool.eq_false_iff]; simp only [ne_eq, Bool.and_eq_true, decide_eq_true_eq]; omega), rfl⟩
end
end Go.Proofs.Ytebolbjbfnolpab
