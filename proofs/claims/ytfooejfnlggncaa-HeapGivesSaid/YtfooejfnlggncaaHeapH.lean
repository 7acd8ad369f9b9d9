/-
  The heap's iterator: its contract.
-/
import Derived.Test.YtfooejfnlggncaaHeapG
import Derived.Test.YtfooejfnlggncaaLib3
import Derived.RangeFuncNested
import Derived.RangeFuncBound
import Derived.RangeFuncCalls
import Derived.RangeFuncLeaves
import Derived.RangeFuncBox
import Derived.Shelf.Abstract
import Derived.Shelf.RegionOpen
import Derived.OwnWalkIn
import Derived.TacticsInMore
import Derived.LoopNIn
import Derived.LoopIn
namespace Go.Proofs.Ytfooejfnlggncaa
open Go.RowKit HP
open Heap (Th)
open HI (Hc enc)
attribute [local go_sem] Oper.semAt_some

/-- what a round that goes on keeps: what lay when the call began, and each block of things -/
def KpT (n₀ : Nat) (W W' : World) : Prop := Below n₀ W W' ∧ ∀ (k : Nat) (cs : Array Value) (f : Nat × Nat), W.heap[k]? = some (.cells cs 64 f) → W'.heap[k]? = some (.cells cs 64 f)
theorem KpT.t {n₀ : Nat} {A B C : World} (h : KpT n₀ A B) (k : KpT n₀ B C) : KpT n₀ A C := ⟨h.1.trans k.1, fun i c f e => k.2 i c f (h.2 i c f e)⟩
theorem KpT.b {n₀ : Nat} {w : World} (hn : n₀ ≤ w.heap.size) (W : World) (l : Nat) (o o' : Obj) (hl : w.heap.size ≤ l) (h : W.heap[l]? = some o) (h1 : o.isCells = false) (h2 : o.isWalk = false) : KpT n₀ W (W.putObj l o') :=
  ⟨belowK_b hn W l o o' hl h h1 h2, fun k c f e => (World.putObj_heap_other (by
    rintro rfl
    rw [h] at e; cases e; cases h1)).trans e⟩
/-- what comes, and with which tick -/
abbrev come (A : List (Th Int)) : List (Int × Int) := A.map fun t => (t.1, t.2.2)
abbrev hencs (x : Int × Int) : Array Value := #[.int .i64 x.1, .int .i64 x.2]

theorem At.row_kept {w0 w W : World} {L : List HP} {ao : Option Addr} {n cap : Nat} {xs : List Value} (h : At w0 w (row 64 3 ao n cap xs :: L))
    (hk : ∀ (k : Nat) (cs : Array Value) (f : Nat × Nat), w.heap[k]? = some (.cells cs 64 f) → W.heap[k]? = some (.cells cs 64 f)) : Rd W ao xs := by
  have hrd := h.rd
  obtain ⟨f, ⟨h1, h2, h3, h4⟩, hh⟩ := h.piece
  rcases h4 with ⟨rfl, rfl, _⟩ | ⟨g, off, cur, rfl, ⟨hg, _⟩, _⟩
  · obtain rfl : n = 0 := by omega
    exact .inl (List.eq_nil_of_length_eq_zero (by simpa using h1))
  · rcases hrd with e | ⟨b, o, e, hc⟩
    · exact .inl e
    · refine .inr ⟨b, o, e, fun j u hj => ?_⟩
      injection e with e; injection e with e1 e2; subst e1; subst e2
      have hw := (hh g _ hg).2
      have := hc j u hj
      simp only [World.cell?, hw] at this
      simp only [World.cell?, hk g _ _ hw]
      exact this
theorem below_grown {w W : World} (h : Below w.heap.size w W) : w.grownBy W none :=
  ⟨h.os, h.tape, h.output, h.size, fun k hk _ => h.block k hk⟩
theorem come_succ (A : List (Th Int)) (k : Nat) (h : k < A.length) : come (A.take (k + 1)) = come (A.take k) ++ [(A[k].1, A[k].2.2)] := by
  rw [List.take_succ_eq_append_getElem h]
  show (A.take k ++ [A[k]]).map _ = _
  rw [List.map_append]; rfl

set_option maxRecDepth 100000 in
set_option maxHeartbeats 4000000 in
theorem hall1_in (n : Nat) (hn : 1 ≤ n) (lp Bb : Nat) (w : World) (A : List (Th Int)) (pv : Value) (hbox : HpAt w A pv) (J Jx : List (Int × Int) → World → Prop)
    (hY : ∀ pre x W, J pre W → pre.length < A.length → YieldAt Fence.wide (n - 1) Try.prog lp (hencs x) W fun e W' =>
      (e = .returned (.bool true) ∧ J (pre ++ [x]) W' ∧ KpT w.heap.size W W') ∨ (e = .returned (.bool false) ∧ Jx (pre ++ [x]) W'))
    (W : World) (hJ : AbidesFrom W.heap.size J) (hb : Below w.heap.size w W) (hB : W.heap[Bb]? = some (.cells #[pv] 25 (0, 0))) (h0 : J [] W) :
    CallsIn Fence.wide n Try.prog 38 #[.func (.yield lp) #[] #[], .pointer (some ⟨Bb, 0, none⟩)] W fun e W' => (∃ v, e = .returned v) ∧
      ((∃ ys, ys = come A ∧ J ys W') ∨ (∃ pre, pre <+: come A ∧ Jx pre W')) := by
  have hcB : W.cell? ⟨Bb, 0, none⟩ = some pv := by simp [World.cell?, hB]
  rcases hbox.below hb with ⟨rfl, rfl⟩ | ⟨p, mb, l, S, ao, cap, N, rfl, hl, hi, hS⟩
  · refine callsIn_of_wp Try.func38 rfl trivial ?_ rfl
    simp only [Try.ntmps38, List.size_toArray, List.length_cons, List.length_nil, Nat.reduceAdd, Nat.reduceSub, Array.replicate_succ, Array.replicate_zero, List.push_toArray, List.append_toArray, List.nil_append, List.cons_append]
    gi_wp2
    refine bodyPost_ret (results_none rfl _ _ _) rfl ?_
    exact ⟨⟨_, rfl⟩, .inl ⟨_, rfl, h0⟩⟩
  · have hc0 := hS.c0
    have hcl := clone_any hl hS (At.start W)
    have hdl := fun w ao cap hA => del_any (w := w) (w0 := W) (L := []) (Bb := Bb) (l2 := l) (a2 := ao) (n := l.length) (c2 := cap) rfl hl hS hcB hA
    have hprm := hi.prm
    have hnd : ((Heap.live S l).map fun t => t.2.1).Nodup := List.Nodup.sublist ((List.filter_sublist).map _) hi.nd
    have hml : (Heap.live S l).length = A.length := hprm.length_eq.symm
    have hAl : A.length ≤ 1099511627777 := by
      have := List.length_filter_le (fun t : Th Int => decide (t.2.1 ∈ S)) l
      unfold Heap.live at hml; omega
    have hso := fun w ao cap hA => sort_any (w := w) (w0 := W) (L := []) (l := Heap.live S l) (n := (Heap.live S l).length) (ao := ao) (cap := cap) A rfl (by omega) hprm hi.srt hnd hA
    rw [hml] at hdl hso
    generalize Heap.live S l = M at *
    have HC := Lib.hid hcl; clear hcl
    have HD := Lib.hid hdl; clear hdl
    have HSO := Lib.hid hso; clear hso
    clear hprm hnd hml hi hl
    obtain ⟨m, hm⟩ : ∃ m, m = A.length := ⟨_, rfl⟩
    rw [← hm] at HD HSO hAl
    have HM := Lib.hid hm; clear hm
    refine callsIn_of_wp Try.func38 rfl trivial ?_ rfl
    simp only [Try.ntmps38, List.size_toArray, List.length_cons, List.length_nil, Nat.reduceAdd, Nat.reduceSub, Array.replicate_succ, Array.replicate_zero, List.push_toArray, List.append_toArray, List.nil_append, List.cons_append]
    gi_wp2_with (first
      | (refine ⟨trivial, ?_⟩; gi_at_call 40; refine (callsIn_wide.2 HC.out).mono ?_; rintro e w1 ⟨ao1, cap1, rfl, hA1⟩)
      | (refine ⟨trivial, ?_⟩; gi_at_call 39; refine (callsIn_wide.2 (HD.out _ _ _ hA1)).mono ?_; rintro e w2 ⟨rfl, hA2⟩)
      | (refine ⟨trivial, ?_⟩; gi_at_call 42; refine (callsIn_wide.2 (HSO.out _ _ _ hA2)).mono ?_; rintro e w3 ⟨rfl, hA3⟩))
    have hJ0 := hJ [] W w3 none h0 (below_grown hA3.below) (fun r e => by cases e)
    gi_loopw [19] (fun i wr => ∃ k : Nat, k ≤ m ∧ i = .int .i64 k ∧ J (come (A.take k)) wr ∧ KpT w.heap.size w3 wr ∧ W.heap.size ≤ wr.heap.size) (fun i _ => m - (intOf i).toNat)
    case atStart => exact ⟨0, Nat.zero_le _, rfl, by simpa [come] using hJ0, ⟨Below.refl _ _, fun _ _ _ h => h⟩, hA3.below.size⟩
    case round =>
      obtain ⟨k, hk, rfl, hJs, hkp, hsz⟩ := hrel
      by_cases hlt : k < m
      · have hrd := hA3.row_kept hkp.2
        have hkA : k < A.length := by rw [← HM.out]; exact hlt
        obtain ⟨g, off, rfl, hc⟩ := hrd.some_ (by rw [tvs_len]; omega)
        obtain ⟨v1, v2, v3⟩ := tvs_get enc A k hkA
        have d0 := hc _ _ v1
        have d1 := hc _ _ v2
        have d2 := hc _ _ v3
        rw [← Nat.add_assoc] at d1 d2
        have hsu := come_succ A k hkA
        generalize A[k] = t at *
        obtain ⟨t0, t1, t2⟩ := t
        simp only at d0 d1 d2 hsu
        have HSU := Lib.hid hsu; clear hsu v1 v2 v3 hc
        have hJa := hJ _ wr (wr.alloc (.cells #[.int .i64 t0, .int .i64 t1, enc t2] 64)) none hJs (World.grownBy_alloc wr _ none) (fun r e => by cases e)
        obtain ⟨fn, tmps, assign, body, hy, hR⟩ := hY _ (t0, t2) (wr.alloc (.cells #[.int .i64 t0, .int .i64 t1, enc t2] 64)) hJa (by simp [come]; omega)
        dsimp only [hencs] at hy
        gi_wp2
        refine hR.mono ?_
        rintro e W3 (⟨rfl, hJ3, hk3⟩ | ⟨rfl, hJx3⟩)
        · gi_wp2
          go_roundw
          case rel =>
            refine ⟨k + 1, by omega, by go_num, by rw [HSU.out]; exact hJ3, hkp.t (KpT.t ⟨(Below.refl _ _).alloc (by have := hb.size; omega) _, fun i c f e => (Below.heap_alloc wr _ i (Array.getElem?_eq_some_iff.1 e).1).trans e⟩ hk3), ?_⟩
            have := hk3.1.size
            simp at this; omega
          case measure => simp [intOf]; omega
        · gi_wp2
          refine bodyPost_ret (results_none rfl _ _ _) rfl ?_
          exact ⟨⟨_, rfl⟩, .inr ⟨_, ⟨come (A.drop (k + 1)), by rw [← HSU.out, ← List.map_append, List.take_append_drop]⟩, hJx3⟩⟩
      · have hkm : k = m := by omega
        have HAT := Lib.hid (show A.take k = A from List.take_of_length_le (by rw [← HM.out]; omega))
        gi_wp2
        go_end0
        exact ⟨⟨_, rfl⟩, .inl ⟨_, rfl, by rw [← HAT.out]; exact hJs⟩⟩

theorem hall_stops (n : Nat) (hn : 1 ≤ n) (Bb : Nat) (w : World) (A : List (Th Int)) (pv : Value) (hbox : HpAt w A pv) (w1 : World) (hb : Below w.heap.size w w1) (hB : w1.heap[Bb]? = some (.cells #[pv] 25 (0, 0))) :
    SeqStopsK Fence.wide n Try.prog 38 #[.pointer (some ⟨Bb, 0, none⟩)] hencs (KpT w.heap.size) (fun ys => ys = come A) (fun pre => pre <+: come A) A.length w1 := fun lp J Jx W hW hJ _ hY h0 =>
  hall1_in n hn lp Bb w A pv hbox J Jx hY W hJ (hb.trans (hW.mono hb.size)) (by rw [hW.block Bb (Array.getElem?_eq_some_iff.1 hB).1]; exact hB) h0
end Go.Proofs.Ytfooejfnlggncaa
