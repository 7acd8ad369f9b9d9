/-
  The laws over the heap: what all of them call first; how arguments are opened.
-/
import Derived.Test.YtfooejfnlggncaaHeapID
import Derived.Test.YtfooejfnlggncaaOpen
namespace Go.Proofs.Ytfooejfnlggncaa
open Go.RowKit HP
open Heap (Th)
open HI (Hc)

theorem wf_i64 {a : Int} (h : (Lit.int .i64 a).wf = true) : -9223372036854775808 ≤ a ∧ a ≤ 9223372036854775807 := by
  simpa [Lit.wf, IntKind.min, IntKind.max, IntKind.signed, IntKind.bits] using h
theorem rd_of_at {t : TypeId} {k : IntKind} (ht : Try.prog.underlying t = some (.int k)) {w : World} {ao : Option Addr} {l : List Int} (h : Kn.At_ (Kn.int ht) w ao l) : Rd w ao (l.map (Value.int k)) := by
  rcases h with rfl | ⟨b, off, rfl, h⟩
  · exact Rd.nil _ _
  · refine .inr ⟨b, off, rfl, fun j u hj => ?_⟩
    rw [List.getElem?_map] at hj
    cases hx : l[j]? with
    | none => rw [hx] at hj; cases hj
    | some x =>
      rw [hx] at hj; cases hj
      obtain ⟨cs, ⟨rfl, _⟩, hc⟩ := h j x hx
      have := hc 0 _ rfl
      have e : (Kn.int ht).sz = 1 := rfl
      rw [e, Nat.mul_one, Nat.add_zero] at this
      exact this
theorem wf_of_at {t : TypeId} {k : IntKind} (ht : Try.prog.underlying t = some (.int k)) {w : World} {ao : Option Addr} {l : List Int} (h : Kn.At_ (Kn.int ht) w ao l) : ∀ x ∈ l, (Lit.int k x).wf = true := by
  rcases h with rfl | ⟨b, off, rfl, h⟩
  · simp
  · intro x hx
    obtain ⟨i, hi, rfl⟩ := List.getElem_of_mem hx
    obtain ⟨cs, ⟨_, h2⟩, _⟩ := h i _ (List.getElem?_eq_getElem hi)
    exact h2
noncomputable def fsOp : Array Field := match Try.prog.underlying 42 with | some (.struct fs) => fs | _ => #[]
abbrev OpD := Int × Int × Int × Unit
noncomputable def kfOp : Kf Try.prog [(3, 0, 1), (2, 1, 1), (3, 2, 1)] 0 OpD :=
  .cons (Kn.int Try.underlying3) (.cons (off := 1) (Kn.int Try.underlying2) (.cons (off := 2) (Kn.int Try.underlying3) (.nil (off := 3))))
noncomputable def kOp : Kn Try.prog 42 OpD := .st (fs := fsOp) kfOp (by kernel_rfl) (by kernel_rfl) (by kernel_rfl)
noncomputable def kOps : Kn Try.prog 37 (List OpD) := .slice kOp (by decide) (by kernel_rfl) (by kernel_rfl)
noncomputable def kInts : Kn Try.prog 23 (List Int) := .slice (Kn.int Try.underlying3) (by decide) (by kernel_rfl) (by kernel_rfl)
noncomputable def kI64s : Kn Try.prog 22 (List Int) := .slice (Kn.int Try.underlying2) (by decide) (by kernel_rfl) (by kernel_rfl)

/-- a step lies where it is read -/
theorem op_at {w : World} {ao : Option Addr} {l : List OpD} (h : Kn.At_ kOp w ao l) (k : Nat) (hk : k < l.length) :
    ∃ b off, ao = some ⟨b, off, none⟩ ∧ w.cell? ⟨b, off + k * 3, none⟩ = some (.int .i64 l[k].1) ∧ w.cell? ⟨b, off + k * 3 + 1, none⟩ = some (.int .i64 l[k].2.1) ∧ w.cell? ⟨b, off + k * 3 + 2, none⟩ = some (.int .i64 l[k].2.2.1) ∧
      (-9223372036854775808 ≤ l[k].1 ∧ l[k].1 ≤ 9223372036854775807) := by
  rcases h with rfl | ⟨b, off, rfl, h⟩
  · simp at hk
  · obtain ⟨cs, hR, hc⟩ := h k _ (List.getElem?_eq_getElem hk)
    obtain ⟨c1, _, rfl, ⟨rfl, h1⟩, c2, _, rfl, ⟨rfl, _⟩, c3, _, rfl, ⟨rfl, _⟩, rfl⟩ := hR
    have e : kOp.sz = 3 := rfl
    have d0 := hc 0 _ rfl
    have d1 := hc 1 _ rfl
    have d2 := hc 2 _ rfl
    rw [e] at d0 d1 d2
    rw [Nat.add_zero] at d0
    rw [← Nat.add_assoc] at d1 d2
    exact ⟨b, off, rfl, d0, d1, d2, wf_i64 h1⟩

section
variable {w0 w : World} {L : List HP}
theorem Hc.facts {p N : Nat} {A : List (Th Int)} (h : At w0 w (Hc p N A :: L)) : (∀ t ∈ A, 1 ≤ t.2.1 ∧ t.2.1 ≤ N) ∧ (A.map fun t => t.2.1).Nodup ∧ A.Pairwise Heap.lt ∧ A.length ≤ N := by
  obtain ⟨l, S, hi, hl, _⟩ := HI.Hc.op h
  refine ⟨fun t ht => hi.arng ht, hi.and, hi.srt, ?_⟩
  have := hi.prm.length_eq
  have h2 := List.length_filter_le (fun t : Th Int => decide (t.2.1 ∈ S)) l
  unfold Heap.live at this
  omega

set_option maxRecDepth 100000 in
theorem lives_any (hA : At w0 w L) :
    Calls Try.prog 10 #[] w fun e w' => e = .returned (.bool true) ∧ At w0 w' L := by
  have hp1 := fun w p hA => HI.put_any (w0 := w0) (w := w) (L := L) (p := p) (N := 0) (A := []) 5 1 (by decide) hA
  have hp2 := fun w p hA => HI.put_any (w0 := w0) (w := w) (L := L) (p := p) (N := 1) (A := [(5, 1, 1)]) 3 2 (by decide) hA
  have hc := fun w p hA => HI.cancel_any (w0 := w0) (w := w) (L := L) (p := p) (N := 2) (A := [(3, 2, 2), (5, 1, 1)]) 1 (by decide) hA
  have ho := fun w p hA => HI.pop_any (w0 := w0) (w := w) (L := L) (p := p) (N := 2) (A := [(3, 2, 2)]) 4 (by decide) hA
  have e1 : Heap.ins ((5 : Int), ((0 : Nat) : Int) + 1, (1 : Int)) [] = [(5, 1, 1)] := by decide
  have e2 : Heap.ins ((3 : Int), ((1 : Nat) : Int) + 1, (2 : Int)) [(5, 1, 1)] = [(3, 2, 2), (5, 1, 1)] := by decide
  have e3 : Heap.cancel 1 [((3 : Int), (2 : Int), (2 : Int)), (5, 1, 1)] = [(3, 2, 2)] := by decide
  have e4 : Heap.hasT 1 [((3 : Int), (2 : Int), (2 : Int)), (5, 1, 1)] = true := by decide
  have e5 : Heap.pop 4 [((3 : Int), (2 : Int), (2 : Int))] = ((2, 3, true), []) := by decide
  rw [e1] at hp1
  rw [e2] at hp2
  rw [e3, e4] at hc
  rw [e5] at ho
  have P1 := Lib.hid hp1; clear hp1
  have P2 := Lib.hid hp2; clear hp2
  have C1 := Lib.hid hc; clear hc
  have O1 := Lib.hid ho; clear ho
  clear e1 e2 e3 e4 e5
  go_enter Try.func10, Try.ntmps10
  go_wp2_with (first
    | (go_at_call 11; refine (HI.new_any hA).mono ?_; rintro e w1 ⟨a, rfl, hA1⟩)
    | (go_at_call_of 12 (Value.int .i64 5); refine (P1.out _ _ hA1).mono ?_; rintro e w2 ⟨rfl, hA2⟩)
    | (go_at_call_of 12 (Value.int .i64 3); refine (P2.out _ _ hA2).mono ?_; rintro e w3 ⟨rfl, hA3⟩)
    | (go_at_call 13; refine (C1.out _ _ hA3).mono ?_; rintro e w5 ⟨rfl, hA5⟩)
    | (go_at_call 14; refine (O1.out _ _ hA5).mono ?_; rintro e w6 ⟨rfl, hA6⟩)
    | (go_at_call 15; refine (HI.len_any hA6).mono ?_; rintro e w7 ⟨rfl, rfl⟩))
  go_returns
  exact ⟨rfl, hA6.drop⟩

theorem kind_any (k t x : Int) (q : Int) (hq : k % 4 = q) (hA : At w0 w L) :
    Calls Try.prog 19 #[.agg #[.int .i64 k, .int .i64 t, .int .i64 x]] w fun e w' => e = .returned (.int .i64 q) ∧ At w0 w' L := by
  have HQ := Lib.hid hq; clear hq
  go_enter Try.func19, Try.ntmps19
  go_wp2
  go_returns
  refine ⟨ret_int ?_, (hA.alloc _).drop⟩
  have := HQ.out
  simp only [IntKind.wrap_u64]
  rw [Int.tmod_eq_emod_of_nonneg (by omega)]
  unfold wrap64
  omega
theorem early_any (ao : Option Addr) (n cap : Nat) (hn : n ≤ cap) (hm : cap ≤ maxLen) (h0 : ao = none → cap = 0) (w : World) :
    Calls Try.prog 17 #[.slice ao n cap] w fun e w' => e = .returned (.slice ao (min n 3000) cap) ∧ w = w' := by
  unfold maxLen at hm
  by_cases h : n ≤ 3000
  · rw [Nat.min_eq_left h]
    have i1 : (n : Int) ≤ (cap : Int) := by omega
    have i2 : ¬ (3000 : Int) < (n : Int) := by omega
    have i3 : (n : Int) ≤ 3000 := by omega
    cases ao with
    | none =>
      obtain rfl : cap = 0 := h0 rfl
      obtain rfl : n = 0 := by omega
      go_enter Try.func17, Try.ntmps17
      go_wp2
      go_returns
      exact ⟨rfl, rfl⟩
    | some a =>
      go_enter Try.func17, Try.ntmps17
      go_wp2
      go_returns
      exact ⟨rfl, rfl⟩
  · rw [Nat.min_eq_right (by omega)]
    have i1 : (3000 : Int) ≤ (cap : Int) := by omega
    have i2 : (3000 : Int) < (n : Int) := by omega
    have i4 : ¬ (n : Int) ≤ 3000 := by omega
    have i3 : 3000 ≤ cap := by omega
    cases ao with
    | none => have := h0 rfl; omega
    | some a =>
      go_enter Try.func17, Try.ntmps17
      go_wp2
      go_returns
      exact ⟨rfl, rfl⟩
end
theorem kind4 (k : Int) : k % 4 = 0 ∨ k % 4 = 1 ∨ k % 4 = 2 ∨ k % 4 = 3 := by omega
end Go.Proofs.Ytfooejfnlggncaa
