/-
  The law HeapTickets.
-/
import Derived.Test.YtfooejfnlggncaaHeapL
namespace Go.Proofs.Ytfooejfnlggncaa
open Go.RowKit HP
open Heap (Th)
open HI (Hc)

namespace Heap
/-- each thing is its ticket -/
def Own (A : List (Th Int)) : Prop := ∀ t ∈ A, t.2.2 = t.2.1
theorem Own.ins {A : List (Th Int)} (h : Own A) (k n : Int) : Own (ins (k, n, n) A) := by
  intro t ht
  rcases List.mem_cons.1 ((ins_perm _ A).mem_iff.1 ht) with rfl | ht
  · rfl
  · exact h t ht
theorem Own.cancel {A : List (Th Int)} (h : Own A) (k : Int) : Own (cancel k A) := fun t ht => h t (List.mem_filter.1 ht).1
theorem cancel_again (k : Int) (A : List (Th Int)) : hasT k (cancel k A) = false := by
  simp [hasT, cancel]
theorem hasT_rng {A : List (Th Int)} {N : Nat} (h : ∀ t ∈ A, 1 ≤ t.2.1 ∧ t.2.1 ≤ N) {k : Int} (hk : hasT k A = true) : 1 ≤ k ∧ k ≤ N := by
  simp only [hasT, decide_eq_true_eq] at hk
  obtain ⟨t, ht, rfl⟩ := List.mem_map.1 hk
  exact h t ht
/-- what comes out -/
theorem pop_cases (now : Int) (A : List (Th Int)) : pop now A = ((0, 0, false), A) ∨ ∃ t r, A = t :: r ∧ t.1 ≤ now ∧ pop now A = ((t.2.2, t.1, true), r) := by
  cases A with
  | nil => exact .inl rfl
  | cons t r =>
    by_cases h : t.1 ≤ now
    · exact .inr ⟨t, r, rfl, h, pop_due h⟩
    · exact .inl (pop_late h)
end Heap

def TkRel (w0 : World) (p len : Nat) (n i : Value) (wr : World) : Prop :=
  ∃ (k N : Nat) (A : List (Th Int)), i = .int .i64 k ∧ k ≤ len ∧ n = .int .i64 N ∧ N ≤ k ∧ Heap.Own A ∧ At w0 wr [Hc p N A]

set_option maxHeartbeats 16000000 in
set_option maxRecDepth 100000 in
theorem heapTickets_any (l : List OpD) (ao : Option Addr) (cap : Nat) (hc : l.length ≤ cap) (hm : cap ≤ maxLen) (h0 : ao = none → cap = 0) (w : World) (hrd : Kn.At_ kOp w ao l) :
    Calls Try.prog 6 #[.slice ao l.length cap] w fun e w' => e = .returned (.bool true) ∧ Below w.heap.size w w' := by
  obtain ⟨W0, hW⟩ : ∃ W0, W0 = w := ⟨_, rfl⟩
  have hA : At W0 w [] := hW ▸ At.start w
  have hrd0 : Kn.At_ kOp W0 ao l := hW ▸ hrd
  clear hrd
  have HW := Lib.hid hW; clear hW
  have hea := fun w => early_any ao l.length cap hc hm h0 w
  obtain ⟨m, hmm⟩ : ∃ m, m = min l.length 3000 := ⟨_, rfl⟩
  rw [← hmm] at hea
  have hm3 : m ≤ 3000 := by omega
  have hml : m ≤ l.length := by omega
  have HEA := Lib.hid hea; clear hea hmm
  unfold maxLen at hm
  clear h0
  go_enter Try.func6, Try.ntmps6
  go_wp2_with (first
    | (go_at_call 10; refine (lives_any hA).mono ?_; rintro e w1 ⟨rfl, hA1⟩)
    | (go_at_call 17; refine (HEA.out _).mono ?_; rintro e w2 ⟨rfl, rfl⟩)
    | (go_at_call 11; refine (HI.new_any hA1).mono ?_; rintro e w2 ⟨p, rfl, hA2⟩))
  go_loopw [4, 5] (fun n i wr => TkRel W0 p m n i wr) (fun _ i _ => m - (intOf i).toNat)
  case atStart => exact ⟨0, 0, [], rfl, by omega, rfl, by omega, by simp [Heap.Own], hA2⟩
  case round =>
    clear hA2
    obtain ⟨k, N, A, rfl, hk, rfl, hN, hown, hr⟩ := hrel
    by_cases hlt : k < m
    · obtain ⟨g, off, rfl, k0, k1, k2, hkd⟩ := op_at hrd0 k (by omega)
      have hks : k < l.length := by omega
      generalize l[k] = o at *
      obtain ⟨kd, tk, x, _⟩ := o
      simp only at k0 k1 k2 hkd
      have d0 := hr.oldCell k0
      have d1 := hr.oldCell k1
      have d2 := hr.oldCell k2
      have hB := hr.alloc (.cells #[.int .i64 kd, .int .i64 tk, .int .i64 x] 42)
      obtain ⟨f1, f2, _, f4⟩ := Hc.facts hr
      obtain ⟨q, hq⟩ : ∃ q, q = kd % 4 := ⟨_, rfl⟩
      have hki := kind_any kd tk x q hq.symm hB
      have HKI := Lib.hid hki; clear hki
      have hq4 := kind4 kd
      rw [← hq] at hq4
      clear hq hkd
      rcases hq4 with rfl | rfl | rfl | rfl
      · have HOWN := Lib.hid hown; clear hown
        have F1 := Lib.hid f1; clear f1 f2
        go_wp2_with (first
          | (go_at_call 19; refine HKI.out.mono ?_; rintro e w4 ⟨rfl, hC⟩; have o1 := hC.cell 1)
          | (go_at_call 12; refine (HI.put_any (L := [HP.one wr.heap.size (.cells #[.int .i64 kd, .int .i64 tk, .int .i64 x] 42 (0, 0))]) tk ((N : Int) + 1) (by omega) hC.pick2).mono ?_; rintro e w5 ⟨rfl, hD⟩))
        go_roundw
        case rel => exact ⟨k + 1, N + 1, _, by go_num, by omega, by go_num, by omega, HOWN.out.ins tk _, hD.pick2.drop⟩
        case measure => simp [intOf]; omega
      · have hca := fun w hA => HI.cancel_any (w0 := W0) (w := w) (L := [HP.one wr.heap.size (.cells #[.int .i64 kd, .int .i64 tk, .int .i64 x] 42 (0, 0))]) (p := p) (N := N) (A := A) x (by omega) hA
        have hcb := fun w hA => HI.cancel_any (w0 := W0) (w := w) (L := [HP.one wr.heap.size (.cells #[.int .i64 kd, .int .i64 tk, .int .i64 x] 42 (0, 0))]) (p := p) (N := N) (A := Heap.cancel x A) x (by omega) hA
        have hlen := fun w hA => HI.len_any (w0 := W0) (w := w) (L := [HP.one wr.heap.size (.cells #[.int .i64 kd, .int .i64 tk, .int .i64 x] 42 (0, 0))]) (p := p) (N := N) (A := A) hA
        have hlen2 := fun w hA => HI.len_any (w0 := W0) (w := w) (L := [HP.one wr.heap.size (.cells #[.int .i64 kd, .int .i64 tk, .int .i64 x] 42 (0, 0))]) (p := p) (N := N) (A := Heap.cancel x (Heap.cancel x A)) hA
        rw [Heap.cancel_again] at hcb
        have hcc : Heap.cancel x (Heap.cancel x A) = Heap.cancel x A := Heap.cancel_no (Heap.cancel_again x A)
        rw [hcc] at hcb hlen2
        have hown2 := hown.cancel x
        cases hh : Heap.hasT x A with
        | true =>
          rw [hh] at hca
          obtain ⟨x1, x2⟩ := Heap.hasT_rng f1 hh
          have hl1 := Heap.cancel_len f2 hh
          generalize Heap.cancel x A = B at *
          have hl2 : B.length ≤ 3000 := by omega
          have hl3 : (A.length : Int) - 1 = (B.length : Int) := by omega
          have e1 : decide (x < 1) = false := decide_eq_false (by omega)
          have e2 : decide ((N : Int) < x) = false := decide_eq_false (by omega)
          have hl4 : A.length ≤ 3000 := by omega
          have HCA := Lib.hid hca; clear hca
          have HCB := Lib.hid hcb; clear hcb
          have HL := Lib.hid hlen; clear hlen
          have HL2 := Lib.hid hlen2; clear hlen2
          have HOWN := Lib.hid hown2; clear hown2 hown f1 f2 hh hcc hl1
          go_wp2_with (first
            | (go_at_call 19; refine HKI.out.mono ?_; rintro e w4 ⟨rfl, hC⟩; have o2 := hC.cell 2)
            | (go_at_call 15; refine (HL.out _ hC.pick2).mono ?_; rintro e w5 ⟨rfl, rfl⟩)
            | (go_at_call 13; refine (HCA.out _ hC.pick2).mono ?_; rintro e w5 ⟨rfl, hD⟩; have p2 := hD.pick2.cell 2)
            | (go_at_call 13; refine (HCB.out _ hD).mono ?_; rintro e w6 ⟨rfl, hE⟩; have q2 := hE.pick2.cell 2)
            | (go_at_call 15; refine (HL2.out _ hE).mono ?_; rintro e w7 ⟨rfl, rfl⟩))
          go_roundw
          case rel => exact ⟨k + 1, N, _, by go_num, by omega, rfl, by omega, HOWN.out, hE.pick2.drop⟩
          case measure => simp [intOf]; omega
        | false =>
          rw [hh] at hca
          have HCA := Lib.hid hca; clear hca hcb hlen2
          have HL := Lib.hid hlen; clear hlen
          have HOWN := Lib.hid hown2; clear hown2 hown f1 f2 hh hcc
          go_wp2_with (first
            | (go_at_call 19; refine HKI.out.mono ?_; rintro e w4 ⟨rfl, hC⟩; have o2 := hC.cell 2)
            | (go_at_call 15; refine (HL.out _ hC.pick2).mono ?_; rintro e w5 ⟨rfl, rfl⟩)
            | (go_at_call 13; refine (HCA.out _ hC.pick2).mono ?_; rintro e w5 ⟨rfl, hD⟩))
          go_roundw
          case rel => exact ⟨k + 1, N, _, by go_num, by omega, rfl, by omega, HOWN.out, hD.pick2.drop⟩
          case measure => simp [intOf]; omega
      · have hpo := fun w hA => HI.pop_any (w0 := W0) (w := w) (L := [HP.one wr.heap.size (.cells #[.int .i64 kd, .int .i64 tk, .int .i64 x] 42 (0, 0))]) (p := p) (N := N) (A := A) tk (by omega) hA
        rcases Heap.pop_cases tk A with hp | ⟨⟨t0, t1, t2⟩, r, rfl, _, hp⟩
        · rw [hp] at hpo
          have HPO := Lib.hid hpo; clear hpo hp
          have HOWN := Lib.hid hown; clear hown f1 f2
          go_wp2_with (first
            | (go_at_call 19; refine HKI.out.mono ?_; rintro e w4 ⟨rfl, hC⟩; have o1 := hC.cell 1)
            | (go_at_call 14; refine (HPO.out _ hC.pick2).mono ?_; rintro e w5 ⟨rfl, hD⟩))
          go_roundw
          case rel => exact ⟨k + 1, N, _, by go_num, by omega, rfl, by omega, HOWN.out, hD.pick2.drop⟩
          case measure => simp [intOf]; omega
        · rw [hp] at hpo
          obtain rfl : t2 = t1 := hown (t0, t1, t2) (by simp)
          have hr1 := f1 (t0, t2, t2) (by simp)
          simp only at hr1 hpo
          have hno : Heap.hasT t2 r = false := by
            simp only [List.map_cons, List.nodup_cons] at f2
            simpa [Heap.hasT] using f2.1
          have hca := fun w hA => HI.cancel_any (w0 := W0) (w := w) (L := [HP.one wr.heap.size (.cells #[.int .i64 kd, .int .i64 tk, .int .i64 x] 42 (0, 0))]) (p := p) (N := N) (A := r) t2 (by omega) hA
          rw [hno, Heap.cancel_no hno] at hca
          have hown2 : Heap.Own r := fun t ht => hown t (by simp [ht])
          have e1 : decide (t2 < 1) = false := decide_eq_false (by omega)
          have e2 : decide ((N : Int) < t2) = false := decide_eq_false (by omega)
          have HPO := Lib.hid hpo; clear hpo hp
          have HCA := Lib.hid hca; clear hca
          have HOWN := Lib.hid hown2; clear hown2 hown f1 f2 hno hr1
          go_wp2_with (first
            | (go_at_call 19; refine HKI.out.mono ?_; rintro e w4 ⟨rfl, hC⟩; have o1 := hC.cell 1)
            | (go_at_call 14; refine (HPO.out _ hC.pick2).mono ?_; rintro e w5 ⟨rfl, hD⟩)
            | (go_at_call 13; refine (HCA.out _ hD).mono ?_; rintro e w6 ⟨rfl, hE⟩))
          go_roundw
          case rel => exact ⟨k + 1, N, _, by go_num, by omega, rfl, by omega, HOWN.out, hE.pick2.drop⟩
          case measure => simp [intOf]; omega
      · have HOWN := Lib.hid hown; clear hown f1 f2
        go_wp2_with (first
          | (go_at_call 19; refine HKI.out.mono ?_; rintro e w4 ⟨rfl, hC⟩))
        go_roundw
        case rel => exact ⟨k + 1, N, _, by go_num, by omega, rfl, by omega, HOWN.out, hC.drop⟩
        case measure => simp [intOf]; omega
    · have hkl : k = m := by omega
      subst hkl
      obtain ⟨_, _, _, f4⟩ := Hc.facts hr
      have hf : decide ((A.length : Int) ≤ (N : Int)) = true := decide_eq_true (by omega)
      go_wp2_with (go_at_call 15; refine (HI.len_any hr).mono ?_; rintro e w5 ⟨rfl, rfl⟩)
      go_returns
      exact ⟨rfl, HW.out ▸ hr.below⟩
namespace heapTickets
theorem heapTickets_walk (W : World) (l : List OpD) (v : Value) (hR : kOps.R W l [v]) :
    Calls Try.prog 6 #[v] W fun e w' => e = .returned (.bool true) ∧ Below W.heap.size W w' := by
  obtain ⟨ao, cap, hv, h1, h2, h3, hi⟩ := hR
  injection hv with hv _
  subst hv
  exact heapTickets_any l ao cap h1 h2 h3 W hi
end heapTickets
end Go.Proofs.Ytfooejfnlggncaa
