/-
  The heap's iterator: what it reads; the copy of the array, what is struck out of it.
-/
import Derived.Test.YtfooejfnlggncaaHeapL
namespace Go.Proofs.Ytfooejfnlggncaa
open Go.RowKit HP Go.MapKept
open Heap (Th)
open HI (Hc enc)

/-- The heap's memory as a later call reads it. -/
structure HpS (w : World) (p mb : Nat) (l : List (Th Int)) (S : List Int) (ao : Option Addr) (cap : Nat) : Prop where
  c0 : w.cell? ⟨p, 0, none⟩ = some (.slice ao l.length cap)
  c1 : w.cell? ⟨p, 1, none⟩ = some (.map (some mb))
  rd : Rd w ao (tvs enc l)
  nn : ao = none → l = []
  lc : l.length ≤ cap
  cm : cap ≤ maxLen
  set : ∃ es clock, w.heap[mb]? = some (.map es clock) ∧ SetIs es clock S
theorem rd_below {w W : World} {ao : Option Addr} {xs : List Value} (h : Rd w ao xs) (hb : Below w.heap.size w W) : Rd W ao xs := h.old (L := []) ⟨hb, fun _ => none, fun _ => rfl, fun _ _ h => by cases h⟩
section
variable {w W : World} {p mb : Nat} {l : List (Th Int)} {S : List Int} {ao : Option Addr} {cap : Nat}
theorem HpS.below (h : HpS w p mb l S ao cap) (hb : Below w.heap.size w W) : HpS W p mb l S ao cap where
  c0 := (hb.cell (World.block_lt_of_cell? w _ h.c0)).trans h.c0
  c1 := (hb.cell (World.block_lt_of_cell? w _ h.c1)).trans h.c1
  rd := rd_below h.rd hb
  nn := h.nn
  lc := h.lc
  cm := h.cm
  set := by
    obtain ⟨es, clock, h1, h2⟩ := h.set
    exact ⟨es, clock, (hb.block mb (Array.getElem?_eq_some_iff.1 h1).1).trans h1, h2⟩
theorem HpS.look (h : HpS w p mb l S ao cap) (x : Int) : (Instr.lookup 59 (.map (some mb)) (.int .i64 x) false).run Try.prog w = .ok (.int .i64 (if x ∈ S then 1 else 0)) w := by
  obtain ⟨es, clock, hb, pS⟩ := h.set
  have hk := Try.underlying3
  have ht := Try.underlying59
  have hc := fun em => run_checkKey (P := Try.prog) (w := w) hk (k := .int .i64 x) rfl em 9999
  rcases pS.find x with ⟨h1, h2, _⟩ | ⟨j, e, h1, h2, h3, h4, _⟩
  · rw [if_neg h1]
    simp [Instr.lookup, run_underlying ht, MapKept.run_getObj_map hb, hc, run_findKey hk h2, Result.andThen]
  · rw [if_pos h1]
    simp [Instr.lookup, run_underlying ht, MapKept.run_getObj_map hb, hc, run_findKey hk h2, Result.andThen]
end
/-- nil, or the things A in their order -/
def HpAt (w : World) (A : List (Th Int)) (pv : Value) : Prop :=
  (pv = .pointer none ∧ A = []) ∨ ∃ p mb l S ao cap N, pv = .pointer (some ⟨p, 0, none⟩) ∧ l.length ≤ 1099511627777 ∧ Heap.Inv l S N A ∧ HpS w p mb l S ao cap
theorem HpAt.below {w W : World} {A : List (Th Int)} {pv : Value} (h : HpAt w A pv) (hb : Below w.heap.size w W) : HpAt W A pv := by
  rcases h with h | ⟨p, mb, l, S, ao, cap, N, h1, h2, h3, h4⟩
  · exact .inl h
  · exact .inr ⟨p, mb, l, S, ao, cap, N, h1, h2, h3, h4.below hb⟩
theorem HpAt.of {w0 w : World} {L : List HP} {p N : Nat} {A : List (Th Int)} (hN : N ≤ 1099511627777) (hA : At w0 w (Hc p N A :: L)) : HpAt w A (.pointer (some ⟨p, 0, none⟩)) := by
  obtain ⟨l, S, hi, hl, h⟩ := HI.Hc.op hA
  obtain ⟨ao, cap, mb, hO⟩ := HI.Raw.op h
  obtain ⟨h1, h2, h3⟩ := hO.pick2.row_len
  have hnn : ao = none → l = [] := fun e => by
    have := (hO.pick2.row_none e).1
    exact List.eq_nil_of_length_eq_zero this
  obtain ⟨es, clock, pS, hs⟩ := hO.pick3.set_op
  exact .inr ⟨p, mb, l, S, ao, cap, N, rfl, by omega, hi, ⟨hO.cell 0, hO.cell 1, hO.pick2.rd, hnn, h2, h3, es, clock, hs.blk, pS⟩⟩

section
variable {w0 w : World} {L : List HP}
theorem hall_any (pv : Value) (w : World) (hp : ∃ p, pv = .pointer p) :
    Calls Try.prog 31 #[pv] w fun e w' => e = .returned (.func (.func 38) #[] #[.pointer (some ⟨w.heap.size, 0, none⟩)]) ∧ w' = w.alloc (.cells #[pv] 25) := by
  obtain ⟨p, rfl⟩ := hp
  go_enter Try.func31, Try.ntmps31
  go_wp2
  go_returns
  exact ⟨rfl, rfl⟩

variable {p mb : Nat} {l : List (Th Int)} {S : List Int} {ao : Option Addr} {cap : Nat}
set_option maxRecDepth 100000 in
/-- slices.Clone -/
theorem clone_any (hl : l.length ≤ 1099511627777) (h : HpS w0 p mb l S ao cap) (hA : At w0 w L) :
    Calls Try.prog 40 #[.slice ao l.length cap] w fun e w' => ∃ ao' cap', e = .returned (.slice ao' l.length cap') ∧ At w0 w' (row 64 3 ao' l.length cap' (tvs enc l) :: L) := by
  have hrd := h.rd
  cases ao with
  | none =>
    obtain rfl := h.nn rfl
    have hc := h.lc
    have hnil := fun w => Lib.run_eql_slice_nil (P := Try.prog) w 60 64 none 0 cap 0 0 HI.under_ths
    go_enter Try.func40, Try.ntmps40
    go_wp2
    go_returns
    exact ⟨none, 0, rfl, hA.row_nil 64 3⟩
  | some a =>
    have hnil := fun w => Lib.run_eql_slice_nil (P := Try.prog) w 60 64 (some a) l.length cap 0 0 HI.under_ths
    have hB := (hA.alloc (.cells #[] 64)).row_of_one (e := 64) (size := 3) 0 0 (Nat.le_refl _) (by simp [maxLen]) rfl
    go_enter Try.func40, Try.ntmps40
    go_wp2_with (at_builtin; refine wpList_append_row rfl (.tmp 5) (.tmp 6) 60 rfl (.agg #[.int .i64 0, .int .i64 0, .int .i64 0]) 24 HI.under_ths HI.info_th rfl (by decide) hB (by rfl) (some a) l.length cap (tvs enc l) (by rfl) (tvs_len enc l) (hrd.old hB) (HI.one l) (by unfold maxLen; omega) (by omega) ?_; intro ao' cap' w1 hF)
    go_returns
    refine ⟨ao', cap', rfl, ?_⟩
    simpa using hF

/-- the closure that tells what is struck: all that is not there -/
theorem pred_any {Bb : Nat} (h : HpS w0 p mb l S ao cap) (hB : w0.cell? ⟨Bb, 0, none⟩ = some (.pointer (some ⟨p, 0, none⟩))) (t : Th Int) (hA : At w0 w L) :
    Calls Try.prog 41 #[.agg #[.int .i64 t.1, .int .i64 t.2.1, enc t.2.2], .pointer (some ⟨Bb, 0, none⟩)] w fun e w' => e = .returned (.bool (decide (t.2.1 ∉ S))) ∧ At w0 w' L := by
  obtain ⟨b0, b1, b2⟩ := t
  have hB1 := hA.alloc (.cells #[.int .i64 b0, .int .i64 b1, enc b2] 64)
  have hlk := fun q => (h.below ((hB1.drewN q).below)).look b1
  have c1 := hB1.oldCell h.c1
  have cB := hB1.oldCell hB
  have m1 := hB1.cell 1
  clear h hB
  by_cases hin : b1 ∈ S
  · rw [if_pos hin] at hlk
    rw [show decide (b1 ∉ S) = false by simp [hin]]
    clear hin
    go_enter Try.func41, Try.ntmps41
    go_wp2
    go_quiet (fail)
    go_wp2
    go_returns
    exact ⟨rfl, (hB1.drewN _).drop⟩
  · rw [if_neg hin] at hlk
    rw [show decide (b1 ∉ S) = true by simp [hin]]
    clear hin
    go_enter Try.func41, Try.ntmps41
    go_wp2
    go_quiet (fail)
    go_wp2
    go_returns
    exact ⟨rfl, (hB1.drewN _).drop⟩
end

namespace Heap
/-- where the first stands that is not there; -1: nowhere -/
def nox (S : List Int) : List (Th Int) → Nat → Int
  | [], _ => -1
  | t :: r, i => if t.2.1 ∈ S then nox S r (i + 1) else (i : Int)
theorem nox_cases (S : List Int) : ∀ (l : List (Th Int)) (i : Nat), (nox S l i = -1 ∧ live S l = l) ∨ ∃ k, k < l.length ∧ nox S l i = ((i + k : Nat) : Int) ∧ live S (l.take (k + 1)) = l.take k
  | [], i => .inl ⟨rfl, rfl⟩
  | t :: r, i => by
    by_cases h : t.2.1 ∈ S
    · rcases nox_cases S r (i + 1) with ⟨h1, h2⟩ | ⟨k, h1, h2, h3⟩
      · left
        refine ⟨by rw [nox, if_pos h, h1], ?_⟩
        simp only [live] at h2 ⊢
        rw [List.filter_cons, if_pos (by simpa using h), h2]
      · right
        refine ⟨k + 1, by simp; omega, by rw [nox, if_pos h, h2]; push_cast; omega, ?_⟩
        simp only [live] at h3 ⊢
        rw [List.take_succ_cons, List.filter_cons, if_pos (by simpa using h), h3]; rfl
    · right
      refine ⟨0, by simp, by rw [nox, if_neg h]; simp, ?_⟩
      simp [live, h]
end Heap

section
variable {w0 w : World} {L : List HP} {p mb : Nat} {l : List (Th Int)} {S : List Int} {ao : Option Addr} {cap : Nat}
def IdxRel (w0 : World) (L : List HP) (S : List Int) (a2 : Option Addr) (n c2 : Nat) (l2 : List (Th Int)) (i : Value) (wr : World) : Prop :=
  ∃ k : Nat, i = .int .i64 k ∧ k ≤ n ∧ Heap.nox S l2 0 = Heap.nox S (l2.drop k) k ∧ At w0 wr (row 64 3 a2 n c2 (tvs enc l2) :: L)
/-- slices.IndexFunc -/
theorem index_any {Bb : Nat} {l2 : List (Th Int)} {a2 : Option Addr} {n c2 : Nat} (hn : l2.length = n) (hm : n ≤ 1099511627777) (h : HpS w0 p mb l S ao cap) (hB : w0.cell? ⟨Bb, 0, none⟩ = some (.pointer (some ⟨p, 0, none⟩)))
    (hA : At w0 w (row 64 3 a2 n c2 (tvs enc l2) :: L)) :
    Calls Try.prog 46 #[.slice a2 n c2, .func (.func 41) #[] #[.pointer (some ⟨Bb, 0, none⟩)]] w fun e w' =>
      e = .returned (.int .i64 (Heap.nox S l2 0)) ∧ At w0 w' (row 64 3 a2 n c2 (tvs enc l2) :: L) := by
  have HN := Lib.hid hn; clear hn
  have hp := fun t w hA => pred_any (w := w) (L := row 64 3 a2 n c2 (tvs enc l2) :: L) h hB t hA
  have HPR := Lib.hid hp; clear hp h hB
  go_enter Try.func46, Try.ntmps46
  go_wp2
  go_loopw [8] (fun i wr => IdxRel w0 L S a2 n c2 l2 i wr) (fun i _ => n - (intOf i).toNat)
  case atStart => exact ⟨0, rfl, by omega, rfl, hA⟩
  case round =>
    clear hA
    obtain ⟨k, rfl, hk, hx, hr⟩ := hrel
    have HX := Lib.hid hx; clear hx
    by_cases hlt : k < n
    · have hlt1 : k < l2.length := by rw [HN.out]; exact hlt
      have HD := Lib.hid (show l2.drop k = l2[k] :: l2.drop (k + 1) from List.drop_eq_getElem_cons hlt1)
      have hg := List.getElem?_eq_getElem hlt1
      generalize l2[k] = t at *
      obtain ⟨b0, b1, b2⟩ := t
      obtain ⟨g, off, rfl⟩ := hr.row_some (by rw [tvs_len]; omega)
      obtain ⟨u0, u1, u2⟩ := hr.tv_at k _ _ _ hg
      clear hg
      have hcl := HPR.out (b0, b1, b2) _ hr
      by_cases he : b1 ∈ S
      · rw [show decide ((b0, b1, b2).2.1 ∉ S) = false by simp [he]] at hcl
        have HC := Lib.hid hcl; clear hcl
        have HE := Lib.hid he; clear he
        go_wp2_with (go_at_call 41; refine HC.out.mono ?_; rintro e w' ⟨rfl, hV⟩)
        go_roundw
        case rel => exact ⟨k + 1, by go_num, by omega, by rw [HX.out, HD.out, Heap.nox, if_pos HE.out], hV⟩
        case measure => simp [intOf]; omega
      · rw [show decide ((b0, b1, b2).2.1 ∉ S) = true by simp [he]] at hcl
        have HC := Lib.hid hcl; clear hcl
        have HE := Lib.hid he; clear he
        go_wp2_with (go_at_call 41; refine HC.out.mono ?_; rintro e w' ⟨rfl, hV⟩)
        go_returns
        exact ⟨ret_int (by rw [HX.out, HD.out, Heap.nox, if_neg HE.out]), hV⟩
    · have hkl : k = n := by omega
      have hnil : l2.drop k = [] := List.drop_of_length_le (by rw [HN.out]; omega)
      have HL := Lib.hid hnil; clear hnil
      subst hkl
      go_wp2
      go_returns
      exact ⟨ret_int (by rw [HX.out, HL.out]; simp [Heap.nox]), hr⟩

theorem run_clear_many {P : Program} {w : World} (t e ty : TypeId) (z : Value) (ht : P.underlying t = some (.slice e)) (hv : ∀ w, (zeroValue e).run P w = .ok z w) (h1 : ∀ m, ∀ v ∈ (Builtin.zeroCells z.cells m).toList, v.oneCell' = true) (b o m c : Nat) (hm : 0 < m)
    (hc : ∀ j, j < m * z.cells.size → (w.cell? ⟨b, o + j, none⟩).isSome = true) (hf : ∀ j, j < m * z.cells.size → w.frozen? ⟨b, o + j, none⟩ = false) :
    (Builtin.clear_ #[t] ty #[.slice (some ⟨b, o, none⟩) m c]).run P w = .ok (.tuple #[]) (w.setCells b o (Builtin.zeroCells z.cells m).toList) := by
  have hst := run_storeCells_cells (P := P) b o (Builtin.zeroCells z.cells m).toList 0 w (by simpa [size_zeroCells] using hc) (by simpa [size_zeroCells] using hf) (h1 m)
  simp only [Nat.add_zero] at hst
  obtain ⟨m', rfl⟩ : ∃ m', m = m' + 1 := ⟨m - 1, by omega⟩
  simp [Builtin.clear_, run_underlying ht, hv, hst]
end
end Go.Proofs.Ytfooejfnlggncaa
