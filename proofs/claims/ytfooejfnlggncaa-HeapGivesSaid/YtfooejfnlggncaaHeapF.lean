/-
  The heap's iterator: what is not there is struck out of the copy.
-/
import Derived.Test.YtfooejfnlggncaaHeapE
namespace Go.Proofs.Ytfooejfnlggncaa
open Go.RowKit HP Go.MapKept
open Heap (Th)
open HI (Hc enc)

namespace Heap
theorem live_succ (S : List Int) (l : List (Th Int)) (j : Nat) (hj : j < l.length) : live S (l.take (j + 1)) = live S (l.take j) ++ (if l[j].2.1 ∈ S then [l[j]] else []) := by
  rw [List.take_succ_eq_append_getElem hj]
  simp only [live, List.filter_append]
  congr 1
  by_cases h : l[j].2.1 ∈ S <;> simp [h]
theorem take_set_succ {α : Type} (l : List α) (c : Nat) (t : α) (h : c < l.length) : (l.set c t).take (c + 1) = l.take c ++ [t] := by
  rw [List.take_succ_eq_append_getElem (by simpa using h), List.take_set_of_le (Nat.le_refl c)]
  simp
end Heap

def zs3 (m : Nat) : List Value := (Builtin.zeroCells #[Value.int .i64 0, Value.int .i64 0, Value.int .i64 0] m).toList
theorem zs3_len (m : Nat) : (zs3 m).length = m * 3 := by simp [zs3, size_zeroCells]
theorem zs3_one : ∀ m, ∀ v ∈ (Builtin.zeroCells (Value.agg #[.int .i64 0, .int .i64 0, .int .i64 0]).cells m).toList, v.oneCell' = true := by
  intro m v hv
  simp only [Builtin.zeroCells, Value.cells, Array.toList_map, List.mem_map] at hv
  obtain ⟨i, _, rfl⟩ := hv
  have : i % 3 < 3 := Nat.mod_lt _ (by omega)
  rcases (show i % 3 = 0 ∨ i % 3 = 1 ∨ i % 3 = 2 by omega) with h | h | h <;> simp [h] <;> rfl
theorem zero_th : ∀ w, (zeroValue 64).run Try.prog w = .ok (.agg #[.int .i64 0, .int .i64 0, .int .i64 0]) w := fun w => by kernel_rfl

section
variable {w0 w : World} {L : List HP} {p mb : Nat} {l : List (Th Int)} {S : List Int} {ao : Option Addr} {cap : Nat}
def DelRel (w0 : World) (L : List HP) (S : List Int) (g off n c2 : Nat) (l2 : List (Th Int)) (i j : Value) (wr : World) : Prop :=
  ∃ (c k : Nat) (l3 : List (Th Int)), i = .int .i64 c ∧ j = .int .i64 k ∧ c < k ∧ k ≤ n ∧ l3.length = n ∧ l3.take c = Heap.live S (l2.take k) ∧ l3.drop k = l2.drop k ∧ At w0 wr (row 64 3 (some ⟨g, off, none⟩) n c2 (tvs enc l3) :: L)

set_option maxHeartbeats 4000000 in
set_option maxRecDepth 100000 in
/-- slices.DeleteFunc -/
theorem del_any {Bb : Nat} {l2 : List (Th Int)} {a2 : Option Addr} {n c2 : Nat} (hn : l2.length = n) (hm : n ≤ 1099511627777) (h : HpS w0 p mb l S ao cap) (hB : w0.cell? ⟨Bb, 0, none⟩ = some (.pointer (some ⟨p, 0, none⟩)))
    (hA : At w0 w (row 64 3 a2 n c2 (tvs enc l2) :: L)) :
    Calls Try.prog 39 #[.slice a2 n c2, .func (.func 41) #[] #[.pointer (some ⟨Bb, 0, none⟩)]] w fun e w' =>
      e = .returned (.slice a2 (Heap.live S l2).length c2) ∧ At w0 w' (row 64 3 a2 (Heap.live S l2).length c2 (tvs enc (Heap.live S l2)) :: L) := by
  have hix := index_any hn hm h hB hA
  rcases Heap.nox_cases S l2 0 with ⟨h1, h2⟩ | ⟨k, h1, h2, h3⟩
  · rw [h1] at hix
    rw [h2, hn]
    have HIX := Lib.hid hix; clear hix h1 h2 h
    go_enter Try.func39, Try.ntmps39
    go_wp2_with (go_at_call 46; refine HIX.out.mono ?_; rintro e w' ⟨rfl, hV⟩)
    go_returns
    exact ⟨rfl, hV⟩
  · rw [h2, Nat.zero_add] at hix
    have hkn : k < n := by omega
    obtain ⟨g, off, rfl⟩ := hA.row_some (by rw [tvs_len]; omega)
    have hcap := hA.row_len.2.1
    have hcm := hA.row_len.2.2
    unfold maxLen at hcm
    have hp := fun t w L hA => pred_any (w := w) (L := L) h hB t hA
    have HPR := Lib.hid hp; clear hp h hB
    have HIX := Lib.hid hix; clear hix
    have HN := Lib.hid hn; clear hn
    have H3 := Lib.hid h3; clear h3 h1 h2
    obtain ⟨M, hM⟩ : ∃ M, M = Heap.live S l2 := ⟨_, rfl⟩
    rw [← hM]
    have HM := Lib.hid hM; clear hM
    have ne : ((k : Int) == -1) = false := by rw [beq_eq_false_iff_ne]; omega
    clear hA
    go_enter Try.func39, Try.ntmps39
    go_wp2_with (go_at_call 46; refine HIX.out.mono ?_; rintro e w' ⟨rfl, hV⟩)
    go_loopw [5, 6] (fun i j wr => DelRel w0 L S g off n c2 l2 i j wr) (fun _ j _ => n - (intOf j).toNat)
    case atStart => exact ⟨k, k + 1, l2, rfl, by go_num, by omega, by omega, HN.out, H3.out.symm, rfl, hV⟩
    case round =>
      clear hV ne
      obtain ⟨c, j, l3, rfl, rfl, hcj, hjn, hln, htk, hdr, hr⟩ := hrel
      have HLN := Lib.hid hln; clear hln
      have HTK := Lib.hid htk; clear htk
      have HDR := Lib.hid hdr; clear hdr
      by_cases hlt : j < n
      · have hj2 : j < l2.length := by rw [HN.out]; exact hlt
        have hj3 : j < l3.length := by rw [HLN.out]; exact hlt
        have hge : l3[j]? = l2[j]? := by
          have := congrArg (fun x => x[0]?) HDR.out
          simpa using this
        have hls := Heap.live_succ S l2 j hj2
        rw [List.getElem?_eq_getElem hj2] at hge
        generalize l2[j] = t at *
        obtain ⟨b0, b1, b2⟩ := t
        obtain ⟨u0, u1, u2⟩ := hr.tv_at j _ _ _ hge
        have HDR2 := Lib.hid (show l3.drop (j + 1) = l2.drop (j + 1) by rw [← List.drop_drop, HDR.out, List.drop_drop])
        have hal := hr.alloc (.cells #[.int .i64 b0, .int .i64 b1, enc b2] 64)
        have hcl := HPR.out (b0, b1, b2) _ _ hal
        clear hge
        by_cases he : b1 ∈ S
        · rw [show decide ((b0, b1, b2).2.1 ∉ S) = false by simp [he]] at hcl
          rw [if_pos he] at hls
          have HC := Lib.hid hcl; clear hcl
          have HLS := Lib.hid hls; clear hls
          have hc3 : c < l3.length := by rw [HLN.out]; omega
          have HTS := Lib.hid (Heap.take_set_succ l3 c (b0, b1, b2) hc3)
          have i1 : (0 : Int) ≤ (c : Int) := by omega
          have i2 : (c : Int) < (n : Int) := by omega
          have i3 : c < n := by omega
          have hex := fun w' (hV : At w0 w' (HP.one wr.heap.size (.cells #[.int .i64 b0, .int .i64 b1, enc b2] 64 (0, 0)) :: row 64 3 (some ⟨g, off, none⟩) n c2 (tvs enc l3) :: L)) => hV.pick2.tv_get c hc3
          clear he
          go_wp2_with (go_at_call 41; refine HC.out.mono ?_; rintro e w' ⟨rfl, hV⟩; have m0 := hV.cell 0; have m1 := hV.cell 1; have m2 := hV.cell 2; obtain ⟨e0, e1, e2⟩ := hex _ hV; have fz := hV.pick2.row_free)
          have hW := hV.pick2.tv_set c hc3 (b0, b1, b2)
          go_roundw
          case rel =>
            refine ⟨c + 1, j + 1, l3.set c (b0, b1, b2), by go_num, by go_num, by omega, by omega, by rw [List.length_set]; exact HLN.out, ?_, ?_, hW.pick2.drop⟩
            · rw [HTS.out, HTK.out, HLS.out]
            · rw [List.drop_set_of_lt (by omega)]; exact HDR2.out
          case measure => simp [intOf]; omega
        · rw [show decide ((b0, b1, b2).2.1 ∉ S) = true by simp [he]] at hcl
          rw [if_neg he, List.append_nil] at hls
          have HC := Lib.hid hcl; clear hcl
          have HLS := Lib.hid hls; clear hls he
          go_wp2_with (go_at_call 41; refine HC.out.mono ?_; rintro e w' ⟨rfl, hV⟩)
          go_roundw
          case rel => exact ⟨c, j + 1, l3, rfl, by go_num, by omega, by omega, HLN.out, by rw [HTK.out, HLS.out], HDR2.out, hV.drop⟩
          case measure => simp [intOf]; omega
      · obtain rfl : j = n := by omega
        have hML : l3.take c = M := by rw [HTK.out, HM.out, List.take_of_length_le (by rw [HN.out]; exact Nat.le_refl _)]
        have hMl : M.length = c := by rw [← hML, List.length_take, HLN.out]; omega
        have HMLL := Lib.hid hML; clear hML
        have HMN := Lib.hid hMl; clear hMl
        have hrow := hr.row_new
        have hcl := run_clear_many (P := Try.prog) (w := wr) 60 64 0 (.agg #[.int .i64 0, .int .i64 0, .int .i64 0]) HI.under_ths zero_th zs3_one g (off + c * 3) (j - c) (c2 - c) (by omega)
          (fun i hi => by have hi' : i < (j - c) * 3 := hi; rw [Nat.add_assoc]; exact hr.row_room _ (by omega)) (fun i _ => hr.row_free _)
        have hsp := (hr.tv_take c (by omega)).row_spare c (zs3 (j - c)) (Nat.le_refl _) (by rw [zs3_len]; omega)
        rw [HMLL.out] at hsp
        have i1 : (c : Int) ≤ (j : Int) := by omega
        have i2 : (j : Int) ≤ (c2 : Int) := by omega
        have i3 : (0 : Int) ≤ (c : Int) := by omega
        have i4 : (c : Int) ≤ (c2 : Int) := by omega
        have i5 : ¬ c2 = c := by omega
        go_wp2
        go_returns
        refine ⟨?_, by rw [HMN.out]; exact hsp⟩
        show Ending.returned (.slice (some ⟨g, off, none⟩) c c2) = _
        rw [HMN.out]
end
end Go.Proofs.Ytfooejfnlggncaa
