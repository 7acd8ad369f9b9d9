/-
  The law HeapDue.
-/
import Derived.Test.YtfooejfnlggncaaHeapL
namespace Go.Proofs.Ytfooejfnlggncaa
open Go.RowKit HP
open Heap (Th)
open HI (Hc)

namespace Heap
/-- how many are due -/
def due (now : Int) (A : List (Th Int)) : Nat := (A.filter fun t => decide (t.1 ≤ now)).length
theorem due_ins (now k n : Int) (x : Int) (A : List (Th Int)) : due now (ins (k, n, x) A) = due now A + if k ≤ now then 1 else 0 := by
  unfold due
  rw [((ins_perm (k, n, x) A).filter _).length_eq, List.filter_cons]
  by_cases h : k ≤ now <;> simp [h]
theorem due_le (now : Int) (A : List (Th Int)) : due now A ≤ A.length := List.length_filter_le _ _
theorem due_pos (now : Int) {A : List (Th Int)} (hs : A.Pairwise lt) (h : 0 < due now A) : ∃ t r, A = t :: r ∧ t.1 ≤ now ∧ pop now A = ((t.2.2, t.1, true), r) ∧ due now r + 1 = due now A := by
  cases A with
  | nil => simp [due] at h
  | cons t r =>
    obtain ⟨h1, h2⟩ := List.pairwise_cons.1 hs
    have hd : t.1 ≤ now := by
      obtain ⟨u, hu⟩ := List.exists_mem_of_length_pos h
      obtain ⟨hu1, hu2⟩ := List.mem_filter.1 hu
      simp only [decide_eq_true_eq] at hu2
      rcases List.mem_cons.1 hu1 with rfl | hu1
      · exact hu2
      · have := h1 u hu1
        unfold lt at this; omega
    refine ⟨t, r, rfl, hd, pop_due hd, ?_⟩
    simp [due, hd]
theorem due_zero (now : Int) {A : List (Th Int)} (h : due now A = 0) : pop now A = ((0, 0, false), A) ∧ ((A = [] ∧ next A = (0, false)) ∨ ∃ t r, A = t :: r ∧ now < t.1 ∧ next A = (t.1, true)) := by
  cases A with
  | nil => exact ⟨rfl, .inl ⟨rfl, rfl⟩⟩
  | cons t r =>
    have hd : ¬ t.1 ≤ now := by
      intro hd
      simp [due, hd] at h
    exact ⟨pop_late hd, .inr ⟨t, r, rfl, by omega, rfl⟩⟩
end Heap

def Due1 (w0 : World) (p : Nat) (now : Int) (len : Nat) (d i : Value) (wr : World) : Prop :=
  ∃ (k : Nat) (A : List (Th Int)), i = .int .i64 k ∧ k ≤ len ∧ A.length = k ∧ d = .int .i64 (Heap.due now A : Nat) ∧ At w0 wr [Hc p k A]
def Due2 (w0 : World) (p : Nat) (now : Int) (len d : Nat) (i : Value) (wr : World) : Prop :=
  ∃ (k : Nat) (A : List (Th Int)), i = .int .i64 k ∧ A.length + k = len ∧ Heap.due now A + k = d ∧ At w0 wr [Hc p len A]

set_option maxHeartbeats 16000000 in
set_option maxRecDepth 100000 in
theorem heapDue_any (ts : List Int) (now : Int) (ao : Option Addr) (cap : Nat) (hm : ts.length ≤ 1048576) (w : World) (hrd : Rd w ao (ts.map (Value.int .i64))) :
    Calls Try.prog 4 #[.slice ao ts.length cap, .int .i64 now] w fun e w' => e = .returned (.bool true) ∧ Below w.heap.size w w' := by
  obtain ⟨W0, hW⟩ : ∃ W0, W0 = w := ⟨_, rfl⟩
  have hA : At W0 w [] := hW ▸ At.start w
  have hrd0 : Rd W0 ao (ts.map (Value.int .i64)) := hW ▸ hrd
  clear hrd
  have HW := Lib.hid hW; clear hW
  go_enter Try.func4, Try.ntmps4
  go_wp2_with (first
    | (go_at_call 10; refine (lives_any hA).mono ?_; rintro e w1 ⟨rfl, hA1⟩)
    | (go_at_call 11; refine (HI.new_any hA1).mono ?_; rintro e w2 ⟨p, rfl, hA2⟩))
  go_loopw [6, 7] (fun d i wr => Due1 W0 p now ts.length d i wr) (fun _ i _ => ts.length - (intOf i).toNat)
  case atStart => exact ⟨0, [], rfl, by omega, rfl, rfl, hA2⟩
  case round =>
    clear hA2
    obtain ⟨k, A, rfl, hk, hAl, rfl, hr⟩ := hrel
    have hdl := Heap.due_le now A
    by_cases hlt : k < ts.length
    · obtain ⟨g, off, rfl, hc⟩ := hrd0.some_ (by simp; omega)
      have k0 := hc k (.int .i64 ts[k]) (by simp [hlt])
      clear hc
      generalize ts[k] = x at *
      have d0 := hr.oldCell k0
      have hdi := Heap.due_ins now x ((k : Int) + 1) (k : Int) A
      have hil := Heap.ins_len (x, (k : Int) + 1, (k : Int)) A
      have hpu := HI.put_any x (k : Int) (by omega) hr
      generalize Heap.ins (x, (k : Int) + 1, (k : Int)) A = B at *
      have HPU := Lib.hid hpu; clear hpu
      generalize Heap.due now A = q at *
      by_cases hx : x ≤ now
      · rw [if_pos hx] at hdi
        have HDI := Lib.hid hdi; clear hdi
        have HIL := Lib.hid hil; clear hil
        have HAL := Lib.hid hAl; clear hAl
        have e1 : decide (x ≤ now) = true := decide_eq_true hx
        have hqb : q ≤ 1048576 := by have := HAL.out; omega
        clear hx hdl
        go_wp2_with (go_at_call 12; refine HPU.out.mono ?_; rintro e w5 ⟨rfl, hD⟩; have d1 := hD.oldCell k0)
        go_roundw
        case rel => exact ⟨k + 1, B, by go_num, by omega, by rw [HIL.out, HAL.out], by rw [HDI.out]; go_num, hD⟩
        case measure => simp [intOf]; omega
      · rw [if_neg hx] at hdi
        have HDI := Lib.hid hdi; clear hdi
        have HIL := Lib.hid hil; clear hil
        have HAL := Lib.hid hAl; clear hAl
        have e1 : decide (x ≤ now) = false := decide_eq_false hx
        clear hx hdl
        go_wp2_with (go_at_call 12; refine HPU.out.mono ?_; rintro e w5 ⟨rfl, hD⟩; have d1 := hD.oldCell k0)
        go_roundw
        case rel => exact ⟨k + 1, B, by go_num, by omega, by rw [HIL.out, HAL.out], by rw [HDI.out]; rfl, hD⟩
        case measure => simp [intOf]; omega
    · have hkl : k = ts.length := by omega
      subst hkl
      obtain ⟨d, hd⟩ : ∃ d, d = Heap.due now A := ⟨_, rfl⟩
      rw [← hd] at hdl ⊢
      have hdb : d ≤ ts.length := by omega
      have HD := Lib.hid hd; clear hd
      have HAL := Lib.hid hAl; clear hAl hdl hlt hk
      go_wp2
      go_loopw [8] (fun i wr => Due2 W0 p now ts.length d i wr) (fun i _ => d - (intOf i).toNat)
      case atStart => exact ⟨0, A, rfl, by rw [HAL.out]; rfl, HD.out.symm, hr⟩
      case round =>
        clear hr HD HAL
        obtain ⟨k, A, rfl, hAl, hdu, hr⟩ := hrel
        have hpo := HI.pop_any now (by omega) hr
        by_cases hlt : k < d
        · obtain ⟨_, _, hs, _⟩ := Hc.facts hr
          obtain ⟨⟨t0, t1, t2⟩, r, rfl, ht, hp, hdr⟩ := Heap.due_pos now hs (by omega)
          rw [hp] at hpo
          have hrl : r.length + (k + 1) = ts.length := by simp at hAl; omega
          have hdk : Heap.due now r + (k + 1) = d := by omega
          have HRL := Lib.hid hrl; clear hrl hAl
          have HDK := Lib.hid hdk; clear hdk hdu hdr
          have HPO := Lib.hid hpo; clear hpo hp hs
          have e1 : decide (now < t0) = false := decide_eq_false (by simp only at ht; omega)
          clear ht
          go_wp2_with (go_at_call 14; refine HPO.out.mono ?_; rintro e w5 ⟨rfl, hD⟩)
          go_roundw
          case rel => exact ⟨k + 1, r, by go_num, HRL.out, HDK.out, hD⟩
          case measure => simp [intOf]; omega
        · have hk : k = d := by omega
          subst hk
          obtain ⟨hp, hn⟩ := Heap.due_zero now (A := A) (by omega)
          rw [hp] at hpo
          have hnx := fun w hA => HI.next_any (w0 := W0) (w := w) (L := []) (p := p) (N := ts.length) (A := A) hA
          have hle := fun w hA => HI.len_any (w0 := W0) (w := w) (L := []) (p := p) (N := ts.length) (A := A) hA
          have HPO := Lib.hid hpo; clear hpo hp hdu
          have hll : ((A.length : Int) == (ts.length : Int) - (k : Int)) = true := by rw [beq_iff_eq]; omega
          rcases hn with ⟨h0, hn⟩ | ⟨⟨t0, t1, t2⟩, r, h0, ht, hn⟩
          · rw [hn] at hnx
            have e1 : decide (k < ts.length) = false := decide_eq_false (by rw [h0] at hAl; simp at hAl; omega)
            have HNX := Lib.hid hnx; clear hnx hn h0 hAl hlt
            have HLE := Lib.hid hle; clear hle
            go_wp2_with (first
              | (go_at_call 14; refine HPO.out.mono ?_; rintro e w5 ⟨rfl, hD⟩)
              | (go_at_call 16; refine (HNX.out _ hD).mono ?_; rintro e w6 ⟨rfl, rfl⟩)
              | (go_at_call 15; refine (HLE.out _ hD).mono ?_; rintro e w7 ⟨rfl, rfl⟩))
            go_returns
            exact ⟨rfl, HW.out ▸ hD.below⟩
          · rw [hn] at hnx
            have e1 : decide (k < ts.length) = true := decide_eq_true (by rw [h0] at hAl; simp at hAl; omega)
            have e2 : decide (now < t0) = true := decide_eq_true (by simpa using ht)
            have HNX := Lib.hid hnx; clear hnx hn h0 hAl hlt ht
            have HLE := Lib.hid hle; clear hle
            go_wp2_with (first
              | (go_at_call 14; refine HPO.out.mono ?_; rintro e w5 ⟨rfl, hD⟩)
              | (go_at_call 16; refine (HNX.out _ hD).mono ?_; rintro e w6 ⟨rfl, rfl⟩)
              | (go_at_call 15; refine (HLE.out _ hD).mono ?_; rintro e w7 ⟨rfl, rfl⟩))
            go_returns
            exact ⟨rfl, HW.out ▸ hD.below⟩
theorem kI64s_len (l : List Int) : l.length ≤ kI64s.wt l := by
  have : (l.map (fun _ => 1)).sum = l.length := by
    induction l with
    | nil => rfl
    | cons x r ih => simp only [List.map_cons, List.sum_cons, List.length_cons, ih]; omega
  show l.length ≤ (l.map (fun _ => 1)).sum + 1
  omega
namespace heapDue
theorem heapDue_walk (W : World) (ts : List Int) (v : Value) (hR : kI64s.R W ts [v]) (now : Int) (_wi : (Lit.int .i64 now).wf = true) (hk : (kI64s).wt ts ≤ 1048576) :
    Calls Try.prog 4 #[v, .int .i64 now] W fun e w' => e = .returned (.bool true) ∧ Below W.heap.size W w' := by
  obtain ⟨ao, cap, hv, h1, h2, h3, hi⟩ := hR
  injection hv with hv _
  subst hv
  have := kI64s_len ts
  exact heapDue_any ts now ao cap (by omega) W (rd_of_at _ hi)
end heapDue
end Go.Proofs.Ytfooejfnlggncaa
