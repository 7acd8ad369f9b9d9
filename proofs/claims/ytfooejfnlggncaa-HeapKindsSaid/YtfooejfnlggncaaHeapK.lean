/-
  The law HeapKinds.
-/
import Derived.Test.YtfooejfnlggncaaHeapT
import Derived.Test.YtfooejfnlggncaaHeapSD
namespace Go.Proofs.Ytfooejfnlggncaa
open Go.RowKit HP
open Heap (Th)
open HI (Hc)

namespace Heap
/-- the text of a number -/
def bx (x : Int) : UInt8 := UInt8.ofNat (x % 256).toNat
theorem bx_nat (x : Int) : ((bx x).toNat : Int) = x % 256 := by
  unfold bx
  rw [UInt8.toNat_ofNat']
  omega
def tx (t : Th Int) : Th (List UInt8) := (t.1, t.2.1, [bx t.2.2])
abbrev txs (A : List (Th Int)) : List (Th (List UInt8)) := A.map tx
theorem txs_ins (t : Th Int) : ∀ A : List (Th Int), txs (ins t A) = ins (tx t) (txs A)
  | [] => rfl
  | u :: r => by
    simp only [ins, txs, List.map_cons]
    have : lt (tx t) (tx u) ↔ lt t u := Iff.rfl
    by_cases h : lt t u
    · rw [if_pos h, if_pos (this.2 h)]; rfl
    · rw [if_neg h, if_neg (fun h' => h (this.1 h'))]
      have := txs_ins t r
      unfold txs at this
      rw [List.map_cons, this]
theorem txs_cancel (k : Int) (A : List (Th Int)) : txs (cancel k A) = cancel k (txs A) := by
  unfold txs cancel
  rw [List.filter_map]
  rfl
theorem txs_has (k : Int) (A : List (Th Int)) : hasT k (txs A) = hasT k A := by
  unfold hasT txs
  rw [List.map_map]
  rfl
theorem txs_next (A : List (Th Int)) : next (txs A) = next A := by
  cases A <;> rfl
end Heap
theorem Heap.txs_pop (now : Int) (A : List (Th Int)) : (Heap.pop now A = ((0, 0, false), A) ∧ Heap.pop now (Heap.txs A) = (([], 0, false), Heap.txs A)) ∨
    ∃ t r, A = t :: r ∧ Heap.pop now A = ((t.2.2, t.1, true), r) ∧ Heap.pop now (Heap.txs A) = (([Heap.bx t.2.2], t.1, true), Heap.txs r) := by
  cases A with
  | nil => exact .inl ⟨rfl, rfl⟩
  | cons t r =>
    by_cases h : t.1 ≤ now
    · exact .inr ⟨t, r, rfl, Heap.pop_due h, Heap.pop_due (t := Heap.tx t) h⟩
    · exact .inl ⟨Heap.pop_late h, Heap.pop_late (t := Heap.tx t) h⟩
theorem cv (w : World) (y : Int) : (convert 43 9 (.slice (some ⟨w.heap.size, 0, none⟩) 1 1)).run Try.prog (w.alloc (.cells #[.int .u8 (y % 256)] 5)) = .ok (.string (str [Heap.bx y])) (w.alloc (.cells #[.int .u8 (y % 256)] 5)) := by
  have h := Rd.one w (.int .u8 (y % 256)) 5
  have := run_string_of (P := Try.prog) (w := w.alloc (.cells #[.int .u8 (y % 256)] 5)) (ao := some ⟨w.heap.size, 0, none⟩) (c := 1) 43 5 Try.underlying43 Try.underlying5 9 Try.underlying9 [Heap.bx y] (by simpa [Heap.bx_nat] using h) (fun h => by cases h)
  exact this

theorem str_nil : (str []).toList = [] := by kernel_rfl
def KiRel (w0 : World) (p q len : Nat) (i : Value) (wr : World) : Prop :=
  ∃ (k N : Nat) (A : List (Th Int)), i = .int .i64 k ∧ k ≤ len ∧ N ≤ k ∧ At w0 wr [Hc p N A, HS.Hc q N (Heap.txs A)]

set_option maxHeartbeats 16000000 in
set_option maxRecDepth 100000 in
theorem heapKinds_any (l : List OpD) (ao : Option Addr) (cap : Nat) (hc : l.length ≤ cap) (hm : cap ≤ maxLen) (h0 : ao = none → cap = 0) (w : World) (hrd : Kn.At_ kOp w ao l) :
    Calls Try.prog 5 #[.slice ao l.length cap] w fun e w' => e = .returned (.bool true) ∧ Below w.heap.size w w' := by
  obtain ⟨W0, hW⟩ : ∃ W0, W0 = w := ⟨_, rfl⟩
  have hA : At W0 w [] := hW ▸ At.start w
  have hrd0 : Kn.At_ kOp W0 ao l := hW ▸ hrd
  clear hrd
  have HW := Lib.hid hW; clear hW
  have hea := fun w => early_any ao l.length cap hc hm h0 w
  obtain ⟨m, hmm⟩ : ∃ m, m = min l.length 3000 := ⟨_, rfl⟩
  rw [← hmm] at hea
  have hm3 : m ≤ 3000 := by omega
  have hml : m ≤ l.length := by omega
  have HEA := Lib.hid hea; clear hea hmm
  unfold maxLen at hm
  clear h0
  go_enter Try.func5, Try.ntmps5
  go_wp2_with (first
    | (go_at_call 10; refine (lives_any hA).mono ?_; rintro e w1 ⟨rfl, hA1⟩)
    | (go_at_call 17; refine (HEA.out _).mono ?_; rintro e w2 ⟨rfl, rfl⟩)
    | (go_at_call 11; refine (HI.new_any hA1).mono ?_; rintro e w2 ⟨p, rfl, hA2⟩)
    | (go_at_call 18; refine (HS.new_any hA2).mono ?_; rintro e w3 ⟨q, rfl, hA3⟩))
  go_loopw [5] (fun i wr => KiRel W0 p q m i wr) (fun i _ => m - (intOf i).toNat)
  case atStart => exact ⟨0, 0, [], rfl, by omega, by omega, hA3.pick2⟩
  case round =>
    clear hA3
    obtain ⟨k, N, A, rfl, hk, hN, hr⟩ := hrel
    by_cases hlt : k < m
    · obtain ⟨g, off, rfl, k0, k1, k2, hkd⟩ := op_at hrd0 k (by omega)
      have hks : k < l.length := by omega
      generalize l[k] = o at *
      obtain ⟨kd, tk, x, _⟩ := o
      simp only at k0 k1 k2 hkd
      have d0 := hr.oldCell k0
      have d1 := hr.oldCell k1
      have d2 := hr.oldCell k2
      have hB := hr.alloc (.cells #[.int .i64 kd, .int .i64 tk, .int .i64 x] 42)
      have hC := hB.alloc (.cells #[.int .u8 (x % 256)] 5)
      have hcv := cv (wr.alloc (.cells #[.int .i64 kd, .int .i64 tk, .int .i64 x] 42)) x
      rw [World.size_alloc] at hcv hC
      obtain ⟨qq, hq⟩ : ∃ q, q = kd % 4 := ⟨_, rfl⟩
      have hki := kind_any kd tk x qq hq.symm hC
      have HKI := Lib.hid hki; clear hki
      have hq4 := kind4 kd
      rw [← hq] at hq4
      clear hq hkd
      obtain ⟨bop, hbo⟩ : ∃ b : HP, b = HP.one wr.heap.size (.cells #[.int .i64 kd, .int .i64 tk, .int .i64 x] 42 (0, 0)) := ⟨_, rfl⟩
      rcases hq4 with rfl | rfl | rfl | rfl
      · as_aux_lemma =>
          have hpa := fun w L hA => HI.put_any (w0 := W0) (w := w) (L := L) (p := p) (N := N) (A := A) tk x (by omega) hA
          have hpb := fun w L hA => HS.put_any (w0 := W0) (w := w) (L := L) (p := q) (N := N) (A := Heap.txs A) tk [Heap.bx x] (by omega) hA
          have hti := Heap.txs_ins (tk, (N : Int) + 1, x) A
          have htx : Heap.tx (tk, (N : Int) + 1, x) = (tk, (N : Int) + 1, [Heap.bx x]) := rfl
          rw [htx] at hti
          rw [← hti] at hpb
          generalize Heap.ins (tk, (N : Int) + 1, x) A = C at *
          have hla := fun w L hA => HI.len_any (w0 := W0) (w := w) (L := L) (p := p) (N := N + 1) (A := C) hA
          have hlb := fun w L hA => HS.len_any (w0 := W0) (w := w) (L := L) (p := q) (N := N + 1) (A := Heap.txs C) hA
          rw [List.length_map] at hlb
          have HPA := Lib.hid hpa; clear hpa
          have HPB := Lib.hid hpb; clear hpb
          have HLA := Lib.hid hla; clear hla
          have HLB := Lib.hid hlb; clear hlb hti htx hbo
          go_wp2_with (first
            | (go_at_call 19; refine HKI.out.mono ?_; rintro e w4 ⟨rfl, hD0⟩; have hD := hD0.drop; have o1 := hD.cell 1; have o2 := hD.cell 2))
          go_region_held3 (fun w' => w'.cell? ⟨wr.heap.size, 1, none⟩ = some (.int .i64 tk) ∧ w'.cell? ⟨wr.heap.size, 2, none⟩ = some (.int .i64 x)) (first | exact ⟨o1, o2⟩ | exact ⟨a1, a2⟩ | exact ⟨b1, b2⟩)
            (first
              | (go_at_call 12; refine (HPA.out _ _ hD.drew.pick2).mono ?_; rintro e w5 ⟨rfl, hE⟩; have a1 := hE.pick2.cell 1; have a2 := hE.pick2.cell 2)
              | (go_at_call 20; refine (HPB.out _ _ hE.pick3).mono ?_; rintro e w6 ⟨rfl, hF⟩; have b1 := hF.pick3.cell 1; have b2 := hF.pick3.cell 2))
          go_wp2_with (first
            | (go_at_call 15; refine (HLA.out _ _ hF.pick2).mono ?_; rintro e w7 ⟨rfl, rfl⟩)
            | (go_at_call 24; refine (HLB.out _ _ hF).mono ?_; rintro e w7 ⟨rfl, rfl⟩))
          go_roundw
          case rel => exact ⟨k + 1, N + 1, C, by go_num, by omega, by omega, hF.pick3.drop.pick2⟩
          case measure => simp [intOf]; omega
      · as_aux_lemma =>
          have hpa := fun w L hA => HI.cancel_any (w0 := W0) (w := w) (L := L) (p := p) (N := N) (A := A) x (by omega) hA
          have hpb := fun w L hA => HS.cancel_any (w0 := W0) (w := w) (L := L) (p := q) (N := N) (A := Heap.txs A) x (by omega) hA
          rw [← Heap.txs_cancel, Heap.txs_has] at hpb
          generalize Heap.cancel x A = C at *
          generalize Heap.hasT x A = bb at *
          have hla := fun w L hA => HI.len_any (w0 := W0) (w := w) (L := L) (p := p) (N := N) (A := C) hA
          have hlb := fun w L hA => HS.len_any (w0 := W0) (w := w) (L := L) (p := q) (N := N) (A := Heap.txs C) hA
          rw [List.length_map] at hlb
          have HPA := Lib.hid hpa; clear hpa
          have HPB := Lib.hid hpb; clear hpb
          have HLA := Lib.hid hla; clear hla
          have HLB := Lib.hid hlb; clear hlb hbo
          go_wp2_with (first
            | (go_at_call 19; refine HKI.out.mono ?_; rintro e w4 ⟨rfl, hD0⟩; have hD := hD0.drop; have o1 := hD.cell 1; have o2 := hD.cell 2))
          go_region_held3 (fun w' => w'.cell? ⟨wr.heap.size, 2, none⟩ = some (.int .i64 x)) (first | exact o2 | exact a2 | exact b2)
            (first
              | (go_at_call 13; refine (HPA.out _ _ hD.drew.pick2).mono ?_; rintro e w5 ⟨rfl, hE⟩; have a2 := hE.pick2.cell 2)
              | (go_at_call 21; refine (HPB.out _ _ hE.pick3).mono ?_; rintro e w6 ⟨rfl, hF⟩; have b2 := hF.pick3.cell 2))
          go_wp2_with (first
            | (go_at_call 15; refine (HLA.out _ _ hF.pick2).mono ?_; rintro e w7 ⟨rfl, rfl⟩)
            | (go_at_call 24; refine (HLB.out _ _ hF).mono ?_; rintro e w7 ⟨rfl, rfl⟩))
          go_roundw
          case rel => exact ⟨k + 1, N, C, by go_num, by omega, by omega, hF.pick3.drop.pick2⟩
          case measure => simp [intOf]; omega
      · as_aux_lemma =>
          have hpa := fun w L hA => HI.pop_any (w0 := W0) (w := w) (L := L) (p := p) (N := N) (A := A) tk (by omega) hA
          have hpb := fun w L hA => HS.pop_any (w0 := W0) (w := w) (L := L) (p := q) (N := N) (A := Heap.txs A) tk (by omega) hA
          rcases Heap.txs_pop tk A with ⟨h1, h2⟩ | ⟨⟨t0, t1, t2⟩, r, rfl, h1, h2⟩
          · rw [h1] at hpa
            rw [h2] at hpb
            have hla := fun w L hA => HI.len_any (w0 := W0) (w := w) (L := L) (p := p) (N := N) (A := A) hA
            have hlb := fun w L hA => HS.len_any (w0 := W0) (w := w) (L := L) (p := q) (N := N) (A := Heap.txs A) hA
            rw [List.length_map] at hlb
            have HPA := Lib.hid hpa; clear hpa
            have HPB := Lib.hid hpb; clear hpb
            have HLA := Lib.hid hla; clear hla
            have HLB := Lib.hid hlb; clear hlb hbo h1 h2
            have hs0 := str_nil
            go_wp2_with (first
              | (go_at_call 19; refine HKI.out.mono ?_; rintro e w4 ⟨rfl, hD0⟩; have hD := hD0.drop; have o1 := hD.cell 1)
              | (go_at_call 14; refine (HPA.out _ _ hD.pick2).mono ?_; rintro e w5 ⟨rfl, hE⟩; have a1 := hE.pick2.cell 1)
              | (go_at_call 22; refine (HPB.out _ _ hE.pick3).mono ?_; rintro e w6 ⟨rfl, hF⟩)
              | (go_at_call 15; refine (HLA.out _ _ hF.pick2).mono ?_; rintro e w7 ⟨rfl, rfl⟩)
              | (go_at_call 24; refine (HLB.out _ _ hF).mono ?_; rintro e w7 ⟨rfl, rfl⟩))
            go_roundw
            case rel => exact ⟨k + 1, N, A, by go_num, by omega, by omega, hF.pick3.drop.pick2⟩
            case measure => simp [intOf]; omega
          · rw [h1] at hpa
            rw [h2] at hpb
            have hla := fun w L hA => HI.len_any (w0 := W0) (w := w) (L := L) (p := p) (N := N) (A := r) hA
            have hlb := fun w L hA => HS.len_any (w0 := W0) (w := w) (L := L) (p := q) (N := N) (A := Heap.txs r) hA
            rw [List.length_map] at hlb
            have HPA := Lib.hid hpa; clear hpa
            have HPB := Lib.hid hpb; clear hpb
            have HLA := Lib.hid hla; clear hla
            have HLB := Lib.hid hlb; clear hlb hbo h1 h2
            go_wp2_with (first
              | (go_at_call 19; refine HKI.out.mono ?_; rintro e w4 ⟨rfl, hD0⟩; have hD := hD0.drop; have o1 := hD.cell 1)
              | (go_at_call 14; refine (HPA.out _ _ hD.pick2).mono ?_; rintro e w5 ⟨rfl, hE⟩; have a1 := hE.pick2.cell 1)
              | (go_at_call 22; refine (HPB.out _ _ hE.pick3).mono ?_; rintro e w6 ⟨rfl, hF⟩; have hcv2 := cv w6 t2; have hG := hF.alloc (.cells #[.int .u8 (t2 % 256)] 5))
              | (go_at_call 15; refine (HLA.out _ _ hG.pick3).mono ?_; rintro e w7 ⟨rfl, rfl⟩)
              | (go_at_call 24; refine (HLB.out _ _ hG.pick2).mono ?_; rintro e w7 ⟨rfl, rfl⟩))
            go_roundw
            case rel => exact ⟨k + 1, N, r, by go_num, by omega, by omega, hG.drop.pick3.drop.pick2⟩
            case measure => simp [intOf]; omega
      · as_aux_lemma =>
          have hpa := fun w L hA => HI.next_any (w0 := W0) (w := w) (L := L) (p := p) (N := N) (A := A) hA
          have hpb := fun w L hA => HS.next_any (w0 := W0) (w := w) (L := L) (p := q) (N := N) (A := Heap.txs A) hA
          have hnx : Heap.next (Heap.txs A) = Heap.next A := Heap.txs_next A
          rw [hnx] at hpb
          generalize Heap.next A = nx at *
          obtain ⟨n1, n2⟩ := nx
          have hla := fun w L hA => HI.len_any (w0 := W0) (w := w) (L := L) (p := p) (N := N) (A := A) hA
          have hlb := fun w L hA => HS.len_any (w0 := W0) (w := w) (L := L) (p := q) (N := N) (A := Heap.txs A) hA
          rw [List.length_map] at hlb
          have HPA := Lib.hid hpa; clear hpa
          have HPB := Lib.hid hpb; clear hpb
          have HLA := Lib.hid hla; clear hla
          have HLB := Lib.hid hlb; clear hlb hbo hnx
          go_wp2_with (first
            | (go_at_call 19; refine HKI.out.mono ?_; rintro e w4 ⟨rfl, hD0⟩; have hD := hD0.drop)
            | (go_at_call 16; refine (HPA.out _ _ hD.pick2).mono ?_; rintro e w5 ⟨rfl, rfl⟩)
            | (go_at_call 23; refine (HPB.out _ _ hD.pick3).mono ?_; rintro e w6 ⟨rfl, rfl⟩)
            | (go_at_call 15; refine (HLA.out _ _ hD.pick2).mono ?_; rintro e w7 ⟨rfl, rfl⟩)
            | (go_at_call 24; refine (HLB.out _ _ hD.pick3).mono ?_; rintro e w7 ⟨rfl, rfl⟩))
          go_roundw
          case rel => exact ⟨k + 1, N, A, by go_num, by omega, by omega, hD.drop⟩
          case measure => simp [intOf]; omega
    · go_wp2
      go_returns
      exact ⟨rfl, HW.out ▸ hr.below⟩
namespace heapKinds
theorem heapKinds_walk (W : World) (l : List OpD) (v : Value) (hR : kOps.R W l [v]) :
    Calls Try.prog 5 #[v] W fun e w' => e = .returned (.bool true) ∧ Below W.heap.size W w' := by
  obtain ⟨ao, cap, hv, h1, h2, h3, hi⟩ := hR
  injection hv with hv _
  subst hv
  exact heapKinds_any l ao cap h1 h2 h3 W hi
end heapKinds
end Go.Proofs.Ytfooejfnlggncaa
