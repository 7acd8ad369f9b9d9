/-
  The law HeapPlays.
-/
import Derived.Test.YtfooejfnlggncaaHeapJ
import Derived.Test.YtfooejfnlggncaaHeapR2
import Derived.Test.YtfooejfnlggncaaHeapT
namespace Go.Proofs.Ytfooejfnlggncaa
open Go.RowKit HP
open Heap (Th)
open HI (Hc enc)

def PlRel (w0 : World) (p r len : Nat) (i : Value) (wr : World) : Prop :=
  ∃ (k N : Nat) (A : List (Th Int)), i = .int .i64 k ∧ k ≤ len ∧ N ≤ k ∧ A.length ≤ k ∧ At w0 wr [Hc p N A, RHc r N A]
theorem At.bot {w0 w : World} {A B C : HP} (h : At w0 w [A, B, C]) : At w0 w [C, A, B] := h.pick3

set_option maxHeartbeats 16000000 in
set_option maxRecDepth 100000 in
theorem heapPlays_any (l : List OpD) (ao : Option Addr) (cap : Nat) (hc : l.length ≤ cap) (hm : cap ≤ maxLen) (h0 : ao = none → cap = 0) (w : World) (hrd : Kn.At_ kOp w ao l) :
    Calls Try.prog 7 #[.slice ao l.length cap] w fun e w' => e = .returned (.bool true) ∧ Below w.heap.size w w' := by
  obtain ⟨W0, hW⟩ : ∃ W0, W0 = w := ⟨_, rfl⟩
  have hA : At W0 w [] := hW ▸ At.start w
  have hrd0 : Kn.At_ kOp W0 ao l := hW ▸ hrd
  clear hrd
  have HW := Lib.hid hW; clear hW
  have hea := fun w => early_any ao l.length cap hc hm h0 w
  obtain ⟨m, hmm⟩ : ∃ m, m = min l.length 3000 := ⟨_, rfl⟩
  rw [← hmm] at hea
  have hm3 : m ≤ 3000 := by omega
  have hml : m ≤ l.length := by omega
  have HEA := Lib.hid hea; clear hea hmm
  unfold maxLen at hm
  clear h0
  go_enter Try.func7, Try.ntmps7
  go_wp2_with (first
    | (go_at_call 10; refine (lives_any hA).mono ?_; rintro e w1 ⟨rfl, hA1⟩)
    | (go_at_call 17; refine (HEA.out _).mono ?_; rintro e w2 ⟨rfl, rfl⟩)
    | (go_at_call 11; refine (HI.new_any hA1).mono ?_; rintro e w2 ⟨p, rfl, hA2⟩))
  have hA3 := hA2.alloc (.cells #[.slice none 0 0, .int .i64 0] 51)
  have hA4 : At W0 _ [RHc w2.heap.size 0 [], Hc p 0 []] := RHc.cl Heap.Rl.nil (RRaw.cl (R := []) rfl (hA3.pick2' fun h => h.row_nil 74 3))
  obtain ⟨rb, hrb⟩ : ∃ rb, rb = w2.heap.size := ⟨_, rfl⟩
  rw [← hrb] at hA4 ⊢
  clear hrb
  go_loopw [5] (fun i wr => PlRel W0 p rb m i wr) (fun i _ => m - (intOf i).toNat)
  case atStart => exact ⟨0, 0, [], rfl, by omega, by omega, by simp, hA4.pick2⟩
  case round =>
    clear hA4 hA3 hA2 hA1 hA
    obtain ⟨k, N, A, rfl, hk, hN, hAk, hr⟩ := hrel
    by_cases hlt : k < m
    · obtain ⟨g, off, rfl, k0, k1, k2, hkd⟩ := op_at hrd0 k (by omega)
      have hks : k < l.length := by omega
      generalize l[k] = o at *
      obtain ⟨kd, tk, x, _⟩ := o
      simp only at k0 k1 k2 hkd
      have d0 := hr.oldCell k0
      have d1 := hr.oldCell k1
      have d2 := hr.oldCell k2
      have hB := hr.alloc (.cells #[.int .i64 kd, .int .i64 tk, .int .i64 x] 42)
      obtain ⟨qq, hq⟩ : ∃ q, q = kd % 4 := ⟨_, rfl⟩
      have hki := kind_any kd tk x qq hq.symm hB
      have HKI := Lib.hid hki; clear hki
      have hq4 := kind4 kd
      rw [← hq] at hq4
      clear hq hkd
      rcases hq4 with rfl | rfl | rfl | rfl
      · as_aux_lemma =>
          have hpa := fun w L hA => HI.put_any (w0 := W0) (w := w) (L := L) (p := p) (N := N) (A := A) tk x (by omega) hA
          have hpb := fun w L hA => rput_any (w0 := W0) (w := w) (L := L) (r := rb) (N := N) (A := A) tk x (by omega) (by omega) hA
          have hil := Heap.ins_len (tk, (N : Int) + 1, x) A
          generalize Heap.ins (tk, (N : Int) + 1, x) A = C at *
          have hla := fun w L hA => HI.len_any (w0 := W0) (w := w) (L := L) (p := p) (N := N + 1) (A := C) hA
          have hlc : C.length ≤ k + 1 := by omega
          have HPA := Lib.hid hpa; clear hpa
          have HPB := Lib.hid hpb; clear hpb
          have HLA := Lib.hid hla; clear hla hil
          go_wp2_with (first
            | (go_at_call 19; refine HKI.out.mono ?_; rintro e w4 ⟨rfl, hD⟩; have o1 := hD.cell 1; have o2 := hD.cell 2))
          go_region_held3 (fun w' => w'.cell? ⟨wr.heap.size, 1, none⟩ = some (.int .i64 tk) ∧ w'.cell? ⟨wr.heap.size, 2, none⟩ = some (.int .i64 x)) (first | exact ⟨o1, o2⟩ | exact ⟨a1, a2⟩ | exact ⟨b1, b2⟩)
            (first
              | (go_at_call 12; refine (HPA.out _ _ hD.drew.pick2).mono ?_; rintro e w5 ⟨rfl, hE⟩; have a1 := hE.pick2.cell 1; have a2 := hE.pick2.cell 2)
              | (go_at_call 25; refine (HPB.out _ _ hE.pick3).mono ?_; rintro e w6 ⟨rfl, hF⟩; have b1 := hF.pick3.cell 1; have b2 := hF.pick3.cell 2; obtain ⟨ao7, cap7, c7⟩ := RHc.cell hF))
          go_wp2
          go_quiet (first | (go_at_call 15; exact Calls.quiet_of_same ((HLA.out _ _ (by first | exact hF.pick2 | exact hF.pick2.drew | exact (hF.pick2.drewN _))).mono fun _ _ h => ⟨h.1, h.2.symm⟩)))
          go_wp2
          go_roundw
          case rel => exact ⟨k + 1, N + 1, C, by go_num, by omega, by omega, hlc, (hF.drewN _).pick3.drop.pick2⟩
          case measure => simp [intOf]; omega
      · as_aux_lemma =>
          have hpa := fun w L hA => HI.cancel_any (w0 := W0) (w := w) (L := L) (p := p) (N := N) (A := A) x (by omega) hA
          have hpb := fun w L hA => rcancel_any (w0 := W0) (w := w) (L := L) (r := rb) (N := N) (A := A) x (by omega) hA
          have hcl : (Heap.cancel x A).length ≤ A.length := List.length_filter_le _ _
          generalize Heap.cancel x A = C at *
          generalize Heap.hasT x A = bb at *
          have hla := fun w L hA => HI.len_any (w0 := W0) (w := w) (L := L) (p := p) (N := N) (A := C) hA
          have HPA := Lib.hid hpa; clear hpa
          have HPB := Lib.hid hpb; clear hpb
          have HLA := Lib.hid hla; clear hla
          go_wp2_with (first
            | (go_at_call 19; refine HKI.out.mono ?_; rintro e w4 ⟨rfl, hD⟩; have o2 := hD.cell 2))
          go_region_held3 (fun w' => w'.cell? ⟨wr.heap.size, 2, none⟩ = some (.int .i64 x)) (first | exact o2 | exact a2 | exact b2)
            (first
              | (go_at_call 13; refine (HPA.out _ _ hD.drew.pick2).mono ?_; rintro e w5 ⟨rfl, hE⟩; have a2 := hE.pick2.cell 2)
              | (go_at_call 26; refine (HPB.out _ _ hE.pick3).mono ?_; rintro e w6 ⟨rfl, hF⟩; have b2 := hF.pick3.cell 2; obtain ⟨ao7, cap7, c7⟩ := RHc.cell hF))
          go_wp2
          go_quiet (first | (go_at_call 15; exact Calls.quiet_of_same ((HLA.out _ _ (by first | exact hF.pick2 | exact hF.pick2.drew | exact (hF.pick2.drewN _))).mono fun _ _ h => ⟨h.1, h.2.symm⟩)))
          go_wp2
          go_roundw
          case rel => exact ⟨k + 1, N, C, by go_num, by omega, by omega, by omega, (hF.drewN _).pick3.drop.pick2⟩
          case measure => simp [intOf]; omega
      · as_aux_lemma =>
          have hpa := fun w L hA => HI.pop_any (w0 := W0) (w := w) (L := L) (p := p) (N := N) (A := A) tk (by omega) hA
          have hpb := fun w L hA => rpop_any (w0 := W0) (w := w) (L := L) (r := rb) (N := N) (A := A) tk (by omega) hA
          have hpl : (Heap.pop tk A).2.length ≤ A.length := by
            rcases Heap.pop_cases tk A with h | ⟨t, r, h1, _, h⟩
            · rw [h]; exact Nat.le_refl _
            · rw [h, h1]; simp
          generalize Heap.pop tk A = pp at *
          obtain ⟨⟨p1, p2, p3⟩, C⟩ := pp
          simp only at hpa hpb hpl
          have hla := fun w L hA => HI.len_any (w0 := W0) (w := w) (L := L) (p := p) (N := N) (A := C) hA
          have HPA := Lib.hid hpa; clear hpa
          have HPB := Lib.hid hpb; clear hpb
          have HLA := Lib.hid hla; clear hla
          go_wp2_with (first
            | (go_at_call 19; refine HKI.out.mono ?_; rintro e w4 ⟨rfl, hD⟩; have o1 := hD.cell 1)
            | (go_at_call 14; refine (HPA.out _ _ hD.pick2).mono ?_; rintro e w5 ⟨rfl, hE⟩; have a1 := hE.pick2.cell 1)
            | (go_at_call 27; refine (HPB.out _ _ hE.pick3).mono ?_; rintro e w6 ⟨rfl, hF⟩; obtain ⟨ao7, cap7, c7⟩ := RHc.cell hF))
          go_quiet (first | (go_at_call 15; exact Calls.quiet_of_same ((HLA.out _ _ (by first | exact hF.pick2 | exact hF.pick2.drew | exact (hF.pick2.drewN _))).mono fun _ _ h => ⟨h.1, h.2.symm⟩)))
          go_wp2
          go_roundw
          case rel => exact ⟨k + 1, N, C, by go_num, by omega, by omega, by omega, (hF.drewN _).pick3.drop.pick2⟩
          case measure => simp [intOf]; omega
      · as_aux_lemma =>
          have hpa := fun w L hA => HI.next_any (w0 := W0) (w := w) (L := L) (p := p) (N := N) (A := A) hA
          have hpb := fun w L hA => rnext_any (w0 := W0) (w := w) (L := L) (r := rb) (N := N) (A := A) (by omega) hA
          generalize Heap.next A = nx at *
          obtain ⟨n1, n2⟩ := nx
          simp only at hpa hpb
          have hla := fun w L hA => HI.len_any (w0 := W0) (w := w) (L := L) (p := p) (N := N) (A := A) hA
          have HPA := Lib.hid hpa; clear hpa
          have HPB := Lib.hid hpb; clear hpb
          have HLA := Lib.hid hla; clear hla
          go_wp2_with (first
            | (go_at_call 19; refine HKI.out.mono ?_; rintro e w4 ⟨rfl, hD⟩)
            | (go_at_call 16; refine (HPA.out _ _ hD.pick2).mono ?_; rintro e w5 ⟨rfl, rfl⟩)
            | (go_at_call 28; refine (HPB.out _ _ hD.pick3).mono ?_; rintro e w6 ⟨rfl, hF⟩; obtain ⟨ao7, cap7, c7⟩ := RHc.cell hF))
          go_quiet (first | (go_at_call 15; exact Calls.quiet_of_same ((HLA.out _ _ (by first | exact hF.pick3 | exact hF.pick3.drew | exact (hF.pick3.drewN _))).mono fun _ _ h => ⟨h.1, h.2.symm⟩)))
          go_wp2
          go_roundw
          case rel => exact ⟨k + 1, N, A, by go_num, by omega, by omega, by omega, (hF.drewN _).pick2.drop.pick2⟩
          case measure => simp [intOf]; omega
    · have hra := rall_any (by omega : A.length ≤ 1099511627776) hr.pick2
      have hAb : A.length ≤ 1099511627776 := by omega
      have HRA := Lib.hid hra; clear hra
      go_wp2_with (first
        | (go_at_call 30; refine HRA.out.mono ?_; rintro e w5 ⟨ao5, cap5, rfl, hE⟩)
        | (go_at_call 29; refine (given_any A (some ⟨p, 0, none⟩) (HpAt.of (by omega) hE.pick3) A ao5 cap5 hAb hE.rd rfl hE).mono ?_; rintro e w6 ⟨rfl, hF⟩))
      go_returns
      exact ⟨rfl, HW.out ▸ hF.below⟩
namespace heapPlays
theorem heapPlays_walk (W : World) (l : List OpD) (v : Value) (hR : kOps.R W l [v]) :
    Calls Try.prog 7 #[v] W fun e w' => e = .returned (.bool true) ∧ Below W.heap.size W w' := by
  obtain ⟨ao, cap, hv, h1, h2, h3, hi⟩ := hR
  injection hv with hv _
  subst hv
  exact heapPlays_any l ao cap h1 h2 h3 W hi
end heapPlays
end Go.Proofs.Ytfooejfnlggncaa
