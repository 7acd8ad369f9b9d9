/-
  The laws over links: their script, as plain data.
-/
import Derived.Test.YtihpcaklknbjiaaLnkG
namespace Go.Proofs.Ytihpcaklknbjiaa
open Go.RowKit HP
open Go.Proofs.Ytihpcaklknbjiaa.Lnk

noncomputable def fsOp : Array Field := match Try.prog.underlying 32 with | some (.struct fs) => fs | _ => #[]
abbrev OpD := Bool × Int × Int × Unit
noncomputable def kfOp : Kf Try.prog [(4, 0, 1), (2, 1, 1), (2, 2, 1)] 0 OpD :=
  .cons (Kn.bool Try.underlying4) (.cons (off := 1) (Kn.int Try.underlying2) (.cons (off := 2) (Kn.int Try.underlying2) (.nil (off := 3))))
noncomputable def kOp : Kn Try.prog 32 OpD := .st (fs := fsOp) kfOp (by kernel_rfl) (by kernel_rfl) (by kernel_rfl)
noncomputable def kOps : Kn Try.prog 22 (List OpD) := .slice kOp (by decide) (by kernel_rfl) (by kernel_rfl)
/-- a step lies where it is read -/
theorem op_at {w : World} {ao : Option Addr} {l : List OpD} (h : Kn.At_ kOp w ao l) (k : Nat) (hk : k < l.length) :
    ∃ b off, ao = some ⟨b, off, none⟩ ∧ w.cell? ⟨b, off + k * 3, none⟩ = some (.bool l[k].1) ∧ w.cell? ⟨b, off + k * 3 + 1, none⟩ = some (.int .i64 l[k].2.1) ∧ w.cell? ⟨b, off + k * 3 + 2, none⟩ = some (.int .i64 l[k].2.2.1) ∧
      (-9223372036854775808 ≤ l[k].2.1 ∧ l[k].2.1 ≤ 9223372036854775807) ∧ (-9223372036854775808 ≤ l[k].2.2.1 ∧ l[k].2.2.1 ≤ 9223372036854775807) := by
  rcases h with rfl | ⟨b, off, rfl, h⟩
  · simp at hk
  · obtain ⟨cs, hR, hc⟩ := h k _ (List.getElem?_eq_getElem hk)
    obtain ⟨c1, _, rfl, h1, c2, _, rfl, ⟨rfl, h2⟩, c3, _, rfl, ⟨rfl, h3⟩, rfl⟩ := hR
    obtain rfl : c1 = [.bool l[k].1] := h1
    have e : kOp.sz = 3 := rfl
    have d0 := hc 0 _ rfl
    have d1 := hc 1 _ rfl
    have d2 := hc 2 _ rfl
    rw [e] at d0 d1 d2
    rw [Nat.add_zero] at d0
    rw [← Nat.add_assoc] at d1 d2
    exact ⟨b, off, rfl, d0, d1, d2, wf_i64l h2, wf_i64l h3⟩
theorem early_any (ao : Option Addr) (n cap : Nat) (hn : n ≤ cap) (hm : cap ≤ maxLen) (h0 : ao = none → cap = 0) (w : World) :
    Calls Try.prog 10 #[.slice ao n cap] w fun e w' => e = .returned (.slice ao (min n 500) cap) ∧ w = w' := by
  unfold maxLen at hm
  by_cases h : n ≤ 500
  · rw [Nat.min_eq_left h]
    have i1 : (n : Int) ≤ (cap : Int) := by omega
    have i2 : ¬ (500 : Int) < (n : Int) := by omega
    have i3 : (n : Int) ≤ 500 := by omega
    cases ao with
    | none =>
      obtain rfl : cap = 0 := h0 rfl
      obtain rfl : n = 0 := by omega
      go_enter Try.func10, Try.ntmps10
      go_wp2
      go_returns
      exact ⟨rfl, rfl⟩
    | some a =>
      go_enter Try.func10, Try.ntmps10
      go_wp2
      go_returns
      exact ⟨by show Ending.returned (Value.slice (some a) (min (n : Int) 500).toNat cap) = _; rw [show (min (n : Int) 500).toNat = n by omega], rfl⟩
  · rw [Nat.min_eq_right (by omega)]
    have i1 : (500 : Int) ≤ (cap : Int) := by omega
    have i2 : (500 : Int) < (n : Int) := by omega
    have i4 : ¬ (n : Int) ≤ 500 := by omega
    have i3 : 500 ≤ cap := by omega
    cases ao with
    | none => have := h0 rfl; omega
    | some a =>
      go_enter Try.func10, Try.ntmps10
      go_wp2
      go_returns
      exact ⟨by show Ending.returned (Value.slice (some a) (min (n : Int) 500).toNat cap) = _; rw [show (min (n : Int) 500).toNat = 500 by omega], rfl⟩

/-- the numbers that a script names -/
def nds (l : List OpD) : List Int := l.flatMap fun o => [o.2.1, o.2.2.1]
/-- its pairs -/
def prs (l : List OpD) : List (Int × Int) := l.map fun o => (o.2.1, o.2.2.1)
theorem nds_len (l : List OpD) : (nds l).length = 2 * l.length := by
  unfold nds; induction l with
  | nil => rfl
  | cons o l ih => rw [List.flatMap_cons, List.length_append, ih]; simp; omega
theorem nds_mem {l : List OpD} {o : OpD} (h : o ∈ l) : o.2.1 ∈ nds l ∧ o.2.2.1 ∈ nds l := by
  unfold nds
  exact ⟨List.mem_flatMap.2 ⟨o, h, by simp⟩, List.mem_flatMap.2 ⟨o, h, by simp⟩⟩
theorem nds_fits {w : World} {ao : Option Addr} {l : List OpD} (h : Kn.At_ kOp w ao l) : Fits (nds l) := by
  intro x hx
  obtain ⟨o, ho, hx⟩ := List.mem_flatMap.1 hx
  obtain ⟨k, hk, rfl⟩ := List.getElem_of_mem ho
  obtain ⟨b, off, _, _, _, _, h1, h2⟩ := op_at h k hk
  simp at hx
  rcases hx with rfl | rfl
  · exact h1
  · exact h2
theorem at_take {w : World} {ao : Option Addr} {l : List OpD} (h : Kn.At_ kOp w ao l) (m : Nat) : Kn.At_ kOp w ao (l.take m) := by
  rcases h with rfl | ⟨b, off, rfl, h⟩
  · exact .inl (by simp)
  · refine .inr ⟨b, off, rfl, fun i a hi => h i a ?_⟩
    rw [List.getElem?_take] at hi
    split at hi
    · exact hi
    · cases hi
end Go.Proofs.Ytihpcaklknbjiaa
