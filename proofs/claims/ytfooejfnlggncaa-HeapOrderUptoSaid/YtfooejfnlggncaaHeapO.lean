/-
  The law HeapOrder.
-/
import Derived.Test.YtfooejfnlggncaaHeapL
import Derived.Deep.OwnRows
namespace Go.Proofs.Ytfooejfnlggncaa
open Go.RowKit HP
open Heap (Th)
open HI (Hc)

theorem info_bool : (Try.prog.info? 4).map (fun i => (i.zero, i.size, i.bytes)) = some (some (.bool false), 1, 1) := by kernel_rfl
theorem under_bools : Try.prog.underlying 28 = some (.slice 4) := by kernel_rfl

namespace Heap
/-- each thing is its ticket, its tick stands at its place in the list -/
structure Of (ts : List Int) (A : List (Th Int)) : Prop where
  all : ∀ t ∈ A, 1 ≤ t.2.1 ∧ t.2.1 ≤ ts.length ∧ t.2.2 = t.2.1 ∧ ts[(t.2.1 - 1).toNat]? = some t.1
/-- which tickets are out -/
def outs (n : Nat) (A : List (Th Int)) : List Bool := (List.range (n + 1)).map fun j : Nat => decide (1 ≤ j) && !hasT (j : Int) A
theorem outs_len (n : Nat) (A : List (Th Int)) : (outs n A).length = n + 1 := by simp [outs]
theorem outs_get (n : Nat) (A : List (Th Int)) (j : Nat) (h : j < n + 1) : (outs n A)[j]? = some (decide (1 ≤ j) && !hasT (j : Int) A) := by
  simp [outs, h]
theorem outs_none (n : Nat) (A : List (Th Int)) (h : ∀ j : Nat, 1 ≤ j → j ≤ n → hasT (j : Int) A = true) : outs n A = List.replicate (n + 1) false := by
  apply List.ext_getElem?
  intro j
  by_cases hj : j < n + 1
  · rw [outs_get n A j hj, List.getElem?_replicate, if_pos hj]
    by_cases h1 : 1 ≤ j
    · rw [h j h1 (by omega)]; simp
    · simp [h1]
  · rw [List.getElem?_eq_none (by rw [outs_len]; omega), List.getElem?_eq_none (by simp; omega)]
theorem outs_cancel (n : Nat) (A : List (Th Int)) (k : Nat) (h : 1 ≤ k) : outs n (cancel (k : Int) A) = (outs n A).set k true := by
  apply List.ext_getElem?
  intro j
  by_cases hj : j < n + 1
  · rw [outs_get n _ j hj]
    by_cases hjk : k = j
    · subst hjk
      rw [List.getElem?_set_self (by rw [outs_len]; exact hj)]
      simp [hasT, cancel, h]
    · rw [List.getElem?_set_ne hjk, outs_get n A j hj]
      have : hasT (j : Int) (cancel (k : Int) A) = hasT (j : Int) A := by
        unfold hasT cancel
        rw [decide_eq_decide]
        constructor
        · intro h
          obtain ⟨t, ht, he⟩ := List.mem_map.1 h
          exact List.mem_map.2 ⟨t, (List.mem_filter.1 ht).1, he⟩
        · intro h
          obtain ⟨t, ht, he⟩ := List.mem_map.1 h
          exact List.mem_map.2 ⟨t, List.mem_filter.2 ⟨ht, by simp [he]; omega⟩, he⟩
      rw [this]
  · rw [List.getElem?_eq_none (by rw [outs_len]; omega), List.getElem?_eq_none (by rw [List.length_set, outs_len]; omega)]
theorem hasT_ins (k : Int) (t : Th Int) (A : List (Th Int)) : hasT k (ins t A) = (decide (t.2.1 = k) || hasT k A) := by
  have : k ∈ (ins t A).map (fun t => t.2.1) ↔ k ∈ (t :: A).map (fun t => t.2.1) := ((ins_perm t A).map _).mem_iff
  rw [Bool.eq_iff_iff]
  simp only [hasT, Bool.or_eq_true, decide_eq_true_eq]
  rw [this, List.map_cons, List.mem_cons]
  constructor
  · rintro (h | h)
    · exact .inl h.symm
    · exact .inr h
  · rintro (h | h)
    · exact .inl h.symm
    · exact .inr h
theorem Of.ins {ts : List Int} {A : List (Th Int)} (h : Of ts A) (k : Nat) (hk : k < ts.length) : Of ts (ins (ts[k], (k : Int) + 1, (k : Int) + 1) A) := by
  refine ⟨fun t ht => ?_⟩
  rcases List.mem_cons.1 ((ins_perm _ A).mem_iff.1 ht) with rfl | ht
  · refine ⟨by simp only; omega, by simp only; omega, rfl, ?_⟩
    simp only
    rw [show ((k : Int) + 1 - 1).toNat = k by omega]
    exact List.getElem?_eq_getElem hk
  · exact h.all t ht
theorem Of.cancel {ts : List Int} {A : List (Th Int)} (h : Of ts A) (k : Int) : Of ts (cancel k A) := ⟨fun t ht => h.all t (List.mem_filter.1 ht).1⟩
theorem Of.hasT {ts : List Int} {A : List (Th Int)} (h : Of ts A) {k : Int} (hk : hasT k A = true) : 1 ≤ k ∧ k ≤ ts.length := by
  simp only [Heap.hasT, decide_eq_true_eq] at hk
  obtain ⟨t, ht, rfl⟩ := List.mem_map.1 hk
  have := h.all t ht
  exact ⟨this.1, this.2.1⟩
/-- all that is left comes behind -/
def Behind (a b : Int) (A : List (Th Int)) : Prop := ∀ t ∈ A, a < t.1 ∨ (a = t.1 ∧ b < t.2.1)
end Heap

def bvs (l : List Bool) : List Value := l.map Value.bool
theorem bvs_get (n : Nat) (A : List (Th Int)) (j : Nat) (h : j < n + 1) : (bvs (Heap.outs n A))[j]? = some (.bool (decide (1 ≤ j) && !Heap.hasT (j : Int) A)) := by
  rw [bvs, List.getElem?_map, Heap.outs_get n A j h]; rfl
theorem bvs_len (n : Nat) (A : List (Th Int)) : (bvs (Heap.outs n A)).length = n + 1 := by simp [bvs, Heap.outs_len]
theorem made_outs (n : Nat) (A : List (Th Int)) (h : ∀ j : Nat, 1 ≤ j → j ≤ n → Heap.hasT (j : Int) A = true) : (madeCells #[Value.bool false] (n + 1)).toList = bvs (Heap.outs n A) := by
  rw [Heap.outs_none n A h, bvs]
  apply List.ext_getElem
  · simp [madeCells]
  · intro i h1 h2
    simp [madeCells, Nat.mod_one]
theorem bvs_set (n : Nat) (A : List (Th Int)) (k : Nat) (h : 1 ≤ k) : (bvs (Heap.outs n A)).set k (.bool true) = bvs (Heap.outs n (Heap.cancel (k : Int) A)) := by
  rw [Heap.outs_cancel n A k h]; simp [bvs, List.map_set]

def Ho1 (w0 : World) (p : Nat) (ts : List Int) (i : Value) (wr : World) : Prop :=
  ∃ (k : Nat) (A : List (Th Int)), i = .int .i64 k ∧ k ≤ ts.length ∧ A.length = k ∧ Heap.Of ts A ∧ (∀ j : Nat, 1 ≤ j → j ≤ k → Heap.hasT (j : Int) A = true) ∧ At w0 wr [Hc p k A]
def Ho2 (w0 : World) (p B : Nat) (ts : List Int) (len : Nat) (left i : Value) (wr : World) : Prop :=
  ∃ (k : Nat) (A : List (Th Int)), i = .int .i64 k ∧ k ≤ len ∧ left = .int .i64 A.length ∧ A.length ≤ ts.length ∧ Heap.Of ts A ∧ At w0 wr [row 4 1 (some ⟨B, 0, none⟩) (ts.length + 1) (ts.length + 1) (bvs (Heap.outs ts.length A)), Hc p ts.length A]
def Ho3 (w0 : World) (p B : Nat) (ts : List Int) (left lt lx : Value) (wr : World) : Prop :=
  ∃ (A : List (Th Int)) (a b : Int), left = .int .i64 A.length ∧ A.length ≤ ts.length ∧ lt = .int .i64 a ∧ lx = .int .i64 b ∧ Heap.Behind a b A ∧ Heap.Of ts A ∧ At w0 wr [row 4 1 (some ⟨B, 0, none⟩) (ts.length + 1) (ts.length + 1) (bvs (Heap.outs ts.length A)), Hc p ts.length A]

set_option maxHeartbeats 16000000 in
set_option maxRecDepth 100000 in
theorem heapOrder_any (ts cs : List Int) (ao ac : Option Addr) (cap cc : Nat) (hm : ts.length ≤ 1048576) (hmc : cs.length ≤ 1048576) (hwf : ∀ x ∈ ts, (Lit.int .i64 x).wf = true) (w : World) (hrt : Rd w ao (ts.map (Value.int .i64))) (hrc : Rd w ac (cs.map (Value.int .i64))) :
    Calls Try.prog 3 #[.slice ao ts.length cap, .slice ac cs.length cc] w fun e w' => e = .returned (.bool true) ∧ Below w.heap.size w w' := by
  obtain ⟨W0, hW⟩ : ∃ W0, W0 = w := ⟨_, rfl⟩
  have hA : At W0 w [] := hW ▸ At.start w
  have hrt0 : Rd W0 ao (ts.map (Value.int .i64)) := hW ▸ hrt
  have hrc0 : Rd W0 ac (cs.map (Value.int .i64)) := hW ▸ hrc
  clear hrt hrc
  have HW := Lib.hid hW; clear hW
  have HWF := Lib.hid hwf; clear hwf
  go_enter Try.func3, Try.ntmps3
  go_wp2_with (first
    | (go_at_call 10; refine (lives_any hA).mono ?_; rintro e w1 ⟨rfl, hA1⟩)
    | (go_at_call 11; refine (HI.new_any hA1).mono ?_; rintro e w2 ⟨p, rfl, hA2⟩))
  go_loopw [6] (fun i wr => Ho1 W0 p ts i wr) (fun i _ => ts.length - (intOf i).toNat)
  case atStart => exact ⟨0, [], rfl, by omega, rfl, ⟨by simp⟩, fun j h1 h2 => by omega, hA2⟩
  case round =>
    clear hA2
    obtain ⟨k, A, rfl, hk, hAl, hof, hall, hr⟩ := hrel
    by_cases hlt : k < ts.length
    · obtain ⟨g, off, rfl, hc⟩ := hrt0.some_ (by simp; omega)
      have k0 := hc k (.int .i64 ts[k]) (by simp [hlt])
      clear hc
      have hof2 := hof.ins k hlt
      generalize ts[k] = x at *
      have d0 := hr.oldCell k0
      have hpu := HI.put_any x ((k : Int) + 1) (by omega) hr
      have hil := Heap.ins_len (x, (k : Int) + 1, (k : Int) + 1) A
      have hall2 : ∀ j : Nat, 1 ≤ j → j ≤ k + 1 → Heap.hasT (j : Int) (Heap.ins (x, (k : Int) + 1, (k : Int) + 1) A) = true := by
        intro j h1 h2
        rw [Heap.hasT_ins]
        by_cases hj : j = k + 1
        · subst hj; simp
        · rw [hall j h1 (by omega)]; simp
      generalize Heap.ins (x, (k : Int) + 1, (k : Int) + 1) A = B at *
      have HPU := Lib.hid hpu; clear hpu
      have HALL := Lib.hid hall2; clear hall2 hall
      have HIL := Lib.hid hil; clear hil
      have HAL := Lib.hid hAl; clear hAl
      have HOF := Lib.hid hof2; clear hof2 hof
      go_wp2_with (go_at_call 12; refine HPU.out.mono ?_; rintro e w5 ⟨rfl, hD⟩)
      go_roundw
      case rel => exact ⟨k + 1, B, by go_num, by omega, by rw [HIL.out, HAL.out], HOF.out, HALL.out, hD⟩
      case measure => simp [intOf]; omega
    · have hkl : k = ts.length := by omega
      subst hkl
      obtain ⟨n, hn⟩ : ∃ n : Nat, n = ts.length := ⟨_, rfl⟩
      have hmk : ∀ w, (Instr.makeSlice 28 (.int .i64 ((ts.length : Int) + 1)) (.int .i64 ((ts.length : Int) + 1))).run Try.prog w = .ok (.slice (some ⟨w.heap.size, 0, none⟩) (ts.length + 1) (ts.length + 1)) (w.alloc (.cells (madeCells #[.bool false] (ts.length + 1)) 4)) := fun w => by
        have := run_make_row' (P := Try.prog) 28 4 (.bool false) 1 under_bools info_bool rfl .i64 .i64 (ts.length + 1) (by omega) (by omega) w
        push_cast at this
        exact this
      have hO : At W0 (wr.alloc (.cells (madeCells #[.bool false] (ts.length + 1)) 4)) [row 4 1 (some ⟨wr.heap.size, 0, none⟩) (ts.length + 1) (ts.length + 1) (bvs (Heap.outs ts.length A)), Hc p ts.length A] := by
        have := (hr.alloc (.cells (madeCells #[.bool false] (ts.length + 1)) 4)).row_of_one (e := 4) (size := 1) (ts.length + 1) (ts.length + 1) (Nat.le_refl _) (by unfold maxLen; omega) (by simp [size_madeCells])
        rw [List.take_of_length_le (by simp [size_madeCells]), made_outs _ A hall] at this
        exact this
      obtain ⟨B, hB⟩ : ∃ B, B = wr.heap.size := ⟨_, rfl⟩
      rw [← hB] at hO
      have HAL := Lib.hid hAl; clear hAl
      have HALL := Lib.hid hall; clear hall
      clear hlt hk
      go_wp2
      rw [← hB]
      clear hB hmk hn
      go_loopw [8, 9] (fun left i wx => Ho2 W0 p B ts cs.length left i wx) (fun _ i _ => cs.length - (intOf i).toNat)
      case atStart => exact ⟨0, A, rfl, by omega, by rw [HAL.out], by rw [HAL.out]; omega, hof, hO⟩
      case round =>
        clear hr hO HAL HALL hof
        obtain ⟨k, A, rfl, hk, rfl, hAt, hof, hr⟩ := hrel
        by_cases hlt : k < cs.length
        · obtain ⟨g, off, rfl, hc⟩ := hrc0.some_ (by simp; omega)
          have k0 := hc k (.int .i64 cs[k]) (by simp [hlt])
          clear hc
          generalize cs[k] = y at *
          have d0 := hr.oldCell k0
          have hca := HI.cancel_any y (by omega) hr.pick2
          obtain ⟨_, f2, _, _⟩ := Hc.facts hr.pick2
          by_cases hy : 1 ≤ y ∧ y ≤ ts.length
          · obtain ⟨q, rfl⟩ : ∃ q : Nat, y = q := ⟨y.toNat, by omega⟩
            have hq1 : 1 ≤ q := by omega
            have hq2 : q < ts.length + 1 := by omega
            have ob := hr.rd.at_ q _ (bvs_get ts.length A q hq2)
            have of_ := hr.row_free q
            rw [Nat.zero_add, decide_eq_true hq1, Bool.true_and] at ob
            have i1 : decide (1 ≤ (q : Int)) = true := decide_eq_true (by omega)
            have i2 : decide ((q : Int) ≤ (ts.length : Int)) = true := decide_eq_true (by omega)
            have i3 : (q : Int) < (ts.length : Int) + 1 := by omega
            have i4 : 0 ≤ (q : Int) := by omega
            have i5 : decide (1 ≤ q) = true := decide_eq_true hq1
            have i6 : decide (q ≤ ts.length) = true := decide_eq_true (by omega)
            have hof2 := hof.cancel (q : Int)
            have hset := bvs_set ts.length A q hq1
            cases hh : Heap.hasT (q : Int) A with
            | true =>
              have hcl := Heap.cancel_len f2 hh
              rw [hh] at hca ob
              generalize Heap.cancel (q : Int) A = C at *
              have hl1 : (A.length : Int) - 1 = (C.length : Int) := by omega
              have hl2 : C.length ≤ ts.length := by omega
              have HCA := Lib.hid hca; clear hca
              have HSET := Lib.hid hset; clear hset
              have HOF := Lib.hid hof2; clear hof2 hof hh hcl hy
              have HL2 := Lib.hid hl2; clear hl2 f2
              go_wp2_with (go_at_call 13; refine HCA.out.mono ?_; rintro e w5 ⟨rfl, hD⟩; have c5 := hD.pick2.rd.at_ q _ (bvs_get ts.length A q hq2); have c6 := hD.pick2.row_free q; rw [Nat.zero_add] at c5)
              have hE := hD.pick2.row_set q (by rw [bvs_len]; omega) (.bool true)
              rw [Nat.zero_add, HSET.out] at hE
              go_roundw
              case rel => exact ⟨k + 1, C, by go_num, by omega, rfl, HL2.out, HOF.out, hE⟩
              case measure => simp [intOf]; omega
            | false =>
              rw [hh] at hca ob
              rw [Heap.cancel_no hh] at hca
              have HCA := Lib.hid hca; clear hca
              have HOF := Lib.hid hof; clear hof2 hof hh hy hset f2
              go_wp2_with (go_at_call 13; refine HCA.out.mono ?_; rintro e w5 ⟨rfl, hD⟩)
              go_roundw
              case rel => exact ⟨k + 1, A, by go_num, by omega, rfl, hAt, HOF.out, hD.pick2⟩
              case measure => simp [intOf]; omega
          · have hh : Heap.hasT y A = false := by
              cases hh : Heap.hasT y A with
              | false => rfl
              | true => exact absurd (hof.hasT hh) hy
            rw [hh] at hca
            rw [Heap.cancel_no hh] at hca
            have hy2 : decide (1 ≤ y) = false ∨ (decide (1 ≤ y) = true ∧ decide (y ≤ (ts.length : Int)) = false) := by
              simp only [decide_eq_true_eq, decide_eq_false_iff_not]; omega
            have HCA := Lib.hid hca; clear hca
            have HOF := Lib.hid hof; clear hof hh hy f2
            rcases hy2 with hy2 | ⟨hy2, hy3⟩
            all_goals
              go_wp2_with (go_at_call 13; refine HCA.out.mono ?_; rintro e w5 ⟨rfl, hD⟩)
              go_roundw
              case rel => exact ⟨k + 1, A, by go_num, by omega, rfl, hAt, HOF.out, hD.pick2⟩
              case measure => simp [intOf]; omega
        · have hmin : Heap.Behind (-9223372036854775808) 0 A := by
            intro t ht
            obtain ⟨h1, h2, _, h4⟩ := hof.all t ht
            have := wf_i64 (HWF.out _ (List.mem_of_getElem? h4))
            omega
          have HMIN := Lib.hid hmin; clear hmin
          have HOF := Lib.hid hof; clear hof
          go_wp2
          go_loopw [8, 12, 13] (fun left lt lx wx => Ho3 W0 p B ts left lt lx wx) (fun left _ _ _ => (intOf left).toNat)
          case atStart => exact ⟨A, _, _, rfl, hAt, rfl, rfl, HMIN.out, HOF.out, hr⟩
          case round =>
            clear hr hAt HMIN HOF hlt hk
            obtain ⟨A, a, b, rfl, hAt, rfl, rfl, hbe, hof, hr⟩ := hrel
            have hpo := HI.pop_any 9223372036854775807 (by omega) hr.pick2
            have hlen := fun w hA => HI.len_any (w0 := W0) (w := w) (L := [row 4 1 (some ⟨B, 0, none⟩) (ts.length + 1) (ts.length + 1) (bvs (Heap.outs ts.length A))]) (p := p) (N := ts.length) (A := A) hA
            obtain ⟨_, f2, f3, _⟩ := Hc.facts hr.pick2
            cases A with
            | nil =>
              have HPO := Lib.hid hpo; clear hpo
              have HL := Lib.hid hlen; clear hlen
              have HOF := Lib.hid hof; clear hof hbe f2 f3
              go_wp2_with (first
                | (go_at_call 14; refine HPO.out.mono ?_; rintro e w5 ⟨rfl, hD⟩)
                | (go_at_call 15; refine (HL.out _ hD).mono ?_; rintro e w7 ⟨rfl, rfl⟩))
              go_returns
              exact ⟨rfl, HW.out ▸ hD.below⟩
            | cons t r =>
              obtain ⟨t0, t1, t2⟩ := t
              obtain ⟨h1, h2, h3, h4⟩ := hof.all (t0, t1, t2) (by simp)
              have hb0 := hbe (t0, t1, t2) (by simp)
              simp only at h1 h2 h3 h4 hb0
              subst h3
              obtain ⟨q, rfl⟩ : ∃ q : Nat, t2 = q := ⟨t2.toNat, by omega⟩
              have hq1 : 1 ≤ q := by omega
              have hq2 : q < ts.length + 1 := by omega
              have ht0 := wf_i64 (HWF.out _ (List.mem_of_getElem? h4))
              rw [Heap.pop_due (t := (t0, (q : Int), (q : Int))) (by simp only; omega)] at hpo
              obtain ⟨g, off, rfl, hc⟩ := hrt0.some_ (by simp; omega)
              have k0 := hc (q - 1) (.int .i64 t0) (by rw [List.getElem?_map, show (q - 1) = ((q : Int) - 1).toNat by omega, h4]; rfl)
              clear hc
              have hh : Heap.hasT (q : Int) ((t0, (q : Int), (q : Int)) :: r) = true := by simp [Heap.hasT]
              have hcan := Heap.cancel_first (t := (t0, (q : Int), (q : Int))) f2
              have hset := bvs_set ts.length ((t0, (q : Int), (q : Int)) :: r) q hq1
              simp only at hcan
              rw [hcan] at hset
              have hbg := bvs_get ts.length ((t0, (q : Int), (q : Int)) :: r) q hq2
              rw [hh, decide_eq_true hq1] at hbg
              have hof2 : Heap.Of ts r := ⟨fun t ht => hof.all t (by simp [ht])⟩
              have hbe2 : Heap.Behind t0 (q : Int) r := fun t ht => (List.pairwise_cons.1 f3).1 t ht
              have hrl : r.length ≤ ts.length := by simp at hAt; omega
              have hl1 : ((((t0, (q : Int), (q : Int)) :: r : List (Th Int)).length : Nat) : Int) - 1 = (r.length : Int) := by simp
              obtain ⟨A, hAe⟩ : ∃ A, A = (t0, (q : Int), (q : Int)) :: r := ⟨_, rfl⟩
              rw [← hAe] at hr hpo hAt hl1 hset hbg ⊢
              have i1 : decide ((q : Int) < 1) = false := decide_eq_false (by omega)
              have i2 : decide ((ts.length : Int) < (q : Int)) = false := decide_eq_false (by omega)
              have i3 : (q : Int) < (ts.length : Int) + 1 := by omega
              have i4 : 0 ≤ (q : Int) := by omega
              have i5 : 0 ≤ (q : Int) - 1 := by omega
              have i6 : (q : Int) - 1 < (ts.length : Int) := by omega
              have i7 : ((q : Int) - 1).toNat = q - 1 := by omega
              have i8 : IntKind.i64.wrap ((q : Int) - 1) = (q : Int) - 1 := IntWalk.i64_in _ (by omega)
              have i9 : decide (q < 1) = false := decide_eq_false (by omega)
              have i10 : decide (ts.length < q) = false := decide_eq_false (by omega)
              have i11 : decide (t0 < a) = false := decide_eq_false (by omega)
              have i12 : (t0 == a) = false ∨ ((t0 == a) = true ∧ decide ((q : Int) ≤ b) = false) := by
                rcases hb0 with h | h
                · left; simp; omega
                · right; refine ⟨by simp; omega, decide_eq_false (by omega)⟩
              have hAl : A.length = r.length + 1 := by rw [hAe]; rfl
              have HAL := Lib.hid hAl; clear hAl
              have HPO := Lib.hid hpo; clear hpo
              have HSET := Lib.hid hset; clear hset
              have HBG := Lib.hid hbg; clear hbg
              have HOF := Lib.hid hof2; clear hof2 hof
              have HBE := Lib.hid hbe2; clear hbe2 hbe hlen f2 f3 hh hcan hAe hb0 ht0 h4
              rcases i12 with i12 | ⟨i12, i13⟩
              all_goals
                go_wp2_with (go_at_call 14; refine HPO.out.mono ?_; rintro e w5 ⟨rfl, hD⟩; have c5 := hD.pick2.rd.at_ q _ HBG.out; have c6 := hD.pick2.row_free q; have c7 := hD.oldCell k0; rw [Nat.zero_add] at c5)
                have hE := hD.pick2.row_set q (by rw [bvs_len]; omega) (.bool true)
                rw [Nat.zero_add, HSET.out] at hE
                go_roundw
                case rel => exact ⟨r, t0, q, rfl, hrl, rfl, rfl, HBE.out, HOF.out, hE⟩
                case measure => simp [intOf, HAL.out]
theorem kI64s_len2 (l : List Int) : l.length ≤ kI64s.wt l := by
  have : (l.map (fun _ => 1)).sum = l.length := by
    induction l with
    | nil => rfl
    | cons x r ih => simp only [List.map_cons, List.sum_cons, List.length_cons, ih]; omega
  show l.length ≤ (l.map (fun _ => 1)).sum + 1
  omega
theorem kInts_len (l : List Int) : l.length ≤ kInts.wt l := by
  have : (l.map (fun _ => 1)).sum = l.length := by
    induction l with
    | nil => rfl
    | cons x r ih => simp only [List.map_cons, List.sum_cons, List.length_cons, ih]; omega
  show l.length ≤ (l.map (fun _ => 1)).sum + 1
  omega
namespace heapOrder
theorem heapOrder_walk (W : World) (ts : List Int) (v : Value) (hR : kI64s.R W ts [v]) (cs : List Int) (u : Value) (hC : kInts.R W cs [u]) (hk : (kI64s).wt ts + (kInts).wt cs ≤ 1048576) :
    Calls Try.prog 3 #[v, u] W fun e w' => e = .returned (.bool true) ∧ Below W.heap.size W w' := by
  obtain ⟨ao, cap, hv, h1, h2, h3, hi⟩ := hR
  obtain ⟨ac, cc, hu, c1, c2, c3, hc⟩ := hC
  injection hv with hv _
  injection hu with hu _
  subst hv hu
  have := kI64s_len2 ts
  have := kInts_len cs
  exact heapOrder_any ts cs ao ac cap cc (by omega) (by omega) (wf_of_at _ hi) W (rd_of_at _ hi) (rd_of_at _ hc)
end heapOrder
end Go.Proofs.Ytfooejfnlggncaa
