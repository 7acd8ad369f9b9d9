/-
  The contracts of the reference's heap: a list by tickets.
-/
import Derived.Test.YtfooejfnlggncaaHeapL
import Derived.Deep.DeepCutAuto
namespace Go.Proofs.Ytfooejfnlggncaa
open Go.RowKit HP
open Heap (Th)
open HI (enc)

theorem info_rth : (Try.prog.info? 74).map (fun i => (i.zero, i.size, i.bytes)) = some (some (.agg #[.int .i64 0, .int .i64 0, .int .i64 0]), 3, 24) := by kernel_rfl
theorem under_rths : Try.prog.underlying 49 = some (.slice 74) := by kernel_rfl

namespace Heap
/-- where the least stands among the first i -/
def lea (R : List (Th Int)) : Nat → Int
  | 0 => -1
  | i + 1 => if lea R i < 0 ∨ (g R i).1 < (g R (lea R i).toNat).1 then (i : Int) else lea R i
theorem lea_spec (R : List (Th Int)) : ∀ i : Nat, 0 < i → ∃ m : Nat, m < i ∧ lea R i = (m : Int) ∧ (∀ j, j < i → (g R m).1 ≤ (g R j).1) ∧ ∀ j, j < m → (g R m).1 < (g R j).1
  | 0, h => absurd h (by omega)
  | 1, _ => by
    refine ⟨0, by omega, by simp [lea], fun j hj => ?_, fun j hj => by omega⟩
    obtain rfl : j = 0 := by omega
    exact Int.le_refl _
  | i + 2, _ => by
    obtain ⟨m, h1, h2, h3, h4⟩ := lea_spec R (i + 1) (by omega)
    rw [lea, h2]
    by_cases hc : (g R (i + 1)).1 < (g R m).1
    · rw [if_pos (.inr (by simpa using hc))]
      refine ⟨i + 1, by omega, rfl, fun j hj => ?_, fun j hj => ?_⟩
      · by_cases e : j = i + 1
        · subst e; exact Int.le_refl _
        · have := h3 j (by omega); omega
      · have := h3 j (by omega); omega
    · rw [if_neg (by simp only [Int.toNat_natCast]; omega)]
      refine ⟨m, by omega, rfl, fun j hj => ?_, h4⟩
      by_cases e : j = i + 1
      · subst e; omega
      · exact h3 j (by omega)
/-- a list by tickets, and the same in its order -/
structure Rl (R : List (Th Int)) (N : Nat) (A : List (Th Int)) : Prop where
  prm : A.Perm R
  srt : A.Pairwise lt
  tks : R.Pairwise fun t u => t.2.1 < u.2.1
  top : ∀ t ∈ R, t.2.1 ≤ N
theorem Rl.nil : Rl [] 0 [] := ⟨.refl _, by simp, by simp, by simp⟩
variable {R A : List (Th Int)} {N : Nat}
theorem Rl.len (h : Rl R N A) : R.length = A.length := h.prm.length_eq.symm
theorem Rl.put (h : Rl R N A) (k x : Int) : Rl (R ++ [(k, (N : Int) + 1, x)]) (N + 1) (ins (k, (N : Int) + 1, x) A) := by
  refine ⟨?_, ins_sorted _ A h.srt (fun u hu => ?_), ?_, fun t ht => ?_⟩
  · exact (ins_perm _ A).trans ((h.prm.cons _).trans (List.perm_append_singleton _ _).symm)
  · have := h.top u (h.prm.mem_iff.1 hu); show u.2.1 ≠ (N : Int) + 1; omega
  · refine List.pairwise_append.2 ⟨h.tks, by simp, fun a ha b hb => ?_⟩
    simp at hb; subst hb
    have := h.top a ha; show a.2.1 < (N : Int) + 1; omega
  · rcases List.mem_append.1 ht with ht | ht
    · have := h.top t ht; push_cast; omega
    · simp at ht; subst ht; show (N : Int) + 1 ≤ ((N + 1 : Nat) : Int); push_cast; omega
theorem Rl.sub (h : Rl R N A) {R' A' : List (Th Int)} (h1 : R'.Sublist R) (h2 : A'.Sublist A) (h3 : A'.Perm R') : Rl R' N A' :=
  ⟨h3, h.srt.sublist h2, h.tks.sublist h1, fun t ht => h.top t (h1.subset ht)⟩
theorem Rl.cancel (h : Rl R N A) (k : Int) : Rl (cancel k R) N (cancel k A) := h.sub List.filter_sublist List.filter_sublist (h.prm.filter _)
theorem Rl.has (h : Rl R N A) (k : Int) : hasT k R = hasT k A := by
  unfold hasT; rw [decide_eq_decide]; exact (h.prm.symm.map _).mem_iff
theorem tick_ne (h : R.Pairwise fun t u => t.2.1 < u.2.1) {i j : Nat} (hi : i < R.length) (hj : j < R.length) (hij : i < j) : R[i].2.1 < R[j].2.1 := List.pairwise_iff_getElem.1 h i j hi hj hij
/-- a ticket's place cut out -/
theorem cancel_erase : ∀ {R : List (Th Int)} (_ : R.Pairwise fun t u => t.2.1 < u.2.1) (i : Nat) (hi : i < R.length), cancel R[i].2.1 R = R.eraseIdx i
  | t :: r, h, 0, _ => by
    obtain ⟨h1, h2⟩ := List.pairwise_cons.1 h
    show cancel t.2.1 (t :: r) = r
    rw [Heap.cancel, List.filter_cons]
    simp only [ne_eq, not_true, decide_false, if_false, Bool.false_eq_true]
    rw [List.filter_eq_self]
    intro u hu
    have := h1 u hu
    simp only [decide_eq_true_eq]; omega
  | t :: r, h, i + 1, hi => by
    obtain ⟨h1, h2⟩ := List.pairwise_cons.1 h
    have hi' : i < r.length := by simpa using hi
    have := h1 r[i] (List.getElem_mem hi')
    show cancel r[i].2.1 (t :: r) = t :: r.eraseIdx i
    rw [Heap.cancel, List.filter_cons, if_pos (by simp only [decide_eq_true_eq]; omega)]
    have ih := cancel_erase h2 i hi'
    rw [Heap.cancel] at ih
    rw [ih]
/-- what stands first is the least -/
theorem Rl.least (h : Rl R N A) (hne : R ≠ []) : ∃ (m : Nat) (hm : m < R.length) (r : List (Th Int)), lea R R.length = (m : Int) ∧ A = R[m] :: r ∧ Rl (R.eraseIdx m) N r := by
  obtain ⟨m, h1, h2, h3, h4⟩ := lea_spec R R.length (List.length_pos_iff.2 hne)
  have hlt : ∀ j (hj : j < R.length), j ≠ m → lt R[m] R[j] := fun j hj hjm => by
    have a := h3 j hj
    rw [g_get R m h1, g_get R j hj] at a
    by_cases hlt : j < m
    · have := h4 j hlt
      rw [g_get R m h1, g_get R j hj] at this
      exact .inl this
    · have := tick_ne h.tks h1 hj (by omega)
      unfold Heap.lt; omega
  cases hA : A with
  | nil => have := h.len; rw [hA] at this; simp at this; exact absurd this hne
  | cons t r =>
    have ht : t = R[m] := by
      have hs := h.srt
      rw [hA] at hs
      have ht : t ∈ R := h.prm.mem_iff.1 (by rw [hA]; simp)
      have hm' : R[m] ∈ t :: r := by rw [← hA]; exact h.prm.mem_iff.2 (List.getElem_mem h1)
      rcases List.mem_cons.1 hm' with e | hmr
      · exact e.symm
      · have hl := (List.pairwise_cons.1 hs).1 _ hmr
        obtain ⟨j, hj, rfl⟩ := List.getElem_of_mem ht
        by_cases e : j = m
        · subst e; rfl
        · exact absurd hl (lt_asymm (hlt j hj e))
    refine ⟨m, h1, r, h2, by rw [ht], ?_⟩
    have hc := h.cancel R[m].2.1
    rw [cancel_erase h.tks m h1, hA, ht] at hc
    have hnd : ((R[m] :: r).map fun t => t.2.1).Nodup := by
      rw [← ht, ← hA, (h.prm.map _).nodup_iff]
      exact List.pairwise_map.2 (h.tks.imp fun h => by omega)
    rw [cancel_first (t := R[m]) hnd] at hc
    exact hc
end Heap

section
variable {w0 w : World} {L : List HP} {r N : Nat} {R A : List (Th Int)}
/-- The reference's heap in memory. -/
def RRaw (r : Nat) (R : List (Th Int)) (N : Nat) : HP := ex fun ao => ex fun cap =>
  sep [HP.one r (.cells #[.slice ao R.length cap, .int .i64 N] 51 (0, 0)), row 74 3 ao R.length cap (tvs enc R)]
theorem RRaw.op (h : At w0 w (RRaw r R N :: L)) : ∃ ao cap, At w0 w (HP.one r (.cells #[.slice ao R.length cap, .int .i64 N] 51 (0, 0)) :: row 74 3 ao R.length cap (tvs enc R) :: L) := by
  obtain ⟨ao, h⟩ := h.ex
  obtain ⟨cap, h⟩ := h.ex
  exact ⟨ao, cap, h.sep⟩
theorem RRaw.cl {ao : Option Addr} {n cap : Nat} (hn : R.length = n) (h : At w0 w (HP.one r (.cells #[.slice ao n cap, .int .i64 N] 51 (0, 0)) :: row 74 3 ao n cap (tvs enc R) :: L)) : At w0 w (RRaw r R N :: L) := by
  subst hn
  exact At.ex_mk ao (At.ex_mk cap (At.sep_mk h))

def RPutCut (w0 : World) (L : List HP) (r : Nat) (R : List (Th Int)) (N : Nat) (wx : World) : Prop := At w0 wx (RRaw r R N :: L)
set_option maxHeartbeats 4000000 in
set_option maxRecDepth 100000 in
theorem rput_raw (k x : Int) (hl : R.length ≤ 1099511627776) (hN : N ≤ 1099511627776) (hA : At w0 w (RRaw r R N :: L)) :
    Calls Try.prog 25 #[.pointer (some ⟨r, 0, none⟩), .int .i64 k, .int .i64 x] w fun e w' => e = .returned (.int .i64 ((N : Int) + 1)) ∧ At w0 w' (RRaw r (R ++ [(k, (N : Int) + 1, x)]) (N + 1) :: L) := by
  obtain ⟨ao, cap, hO⟩ := RRaw.op hA
  have c1 := hO.cell 1
  have f1 := hO.free 1
  have h1 : At w0 (w.setCell ⟨r, 1, none⟩ (.int .i64 ((N : Int) + 1))) (HP.one r (.cells #[.slice ao R.length cap, .int .i64 ((N : Int) + 1)] 51 (0, 0)) :: row 74 3 ao R.length cap (tvs enc R) :: L) := hO.setCell 1 (.int .i64 ((N : Int) + 1))
  have e0 := h1.cell 0
  have e1 := h1.cell 1
  have h4 := (h1.alloc (.cells #[.int .i64 k, .int .i64 ((N : Int) + 1), .int .i64 x] 74)).drew
  have x0 := h4.pick2.cell 0
  have x1 := h4.pick2.cell 1
  have hrd := h4.rdN
  rw [show (w.setCell ⟨r, 1, none⟩ (.int .i64 ((N : Int) + 1))).heap.size = w.heap.size by simp] at h4 hrd
  have h5 := h4.pick3
  go_enter Try.func25, Try.ntmps25
  go_wp2
  go_upto_region 2 with (fail)
  go_cut [] (fun wx => RPutCut w0 L r (R ++ [(k, (N : Int) + 1, x)]) (N + 1) wx)
  case first =>
    go_region_law (refine step_append_row rfl (.tmp 18) (.tmp 26) 49 rfl (.agg #[.int .i64 0, .int .i64 0, .int .i64 0]) 24 under_rths info_rth rfl (by decide) h5 (by simp [Act.eval]) (some ⟨w.heap.size, 0, none⟩) 1 1 [.int .i64 k, .int .i64 ((N : Int) + 1), .int .i64 x] (by simp [Act.eval]) rfl hrd (HI.one [(k, (N : Int) + 1, x)]) (by unfold maxLen; omega) (by omega) ?_; intro ao' cap' w3 hF; have hG := hF.pick3; have g0 := hG.cell 0; have g1 := hG.free 0)
    all_goals
      go_wp2
      go_meet
      have hH := hG.setCell 0 (.slice ao' (R.length + 1) cap')
      exact RRaw.cl (n := R.length + 1) (ao := ao') (cap := cap') (by simp) (by rw [tvs_append]; push_cast; exact hH.pick3.drop)
  case rest =>
    have hH : At w0 wc (RRaw r (R ++ [(k, (N : Int) + 1, x)]) (N + 1) :: L) := hcut
    obtain ⟨ao2, cap2, hO2⟩ := RRaw.op hH
    have z1 := hO2.cell 1
    clear hcut
    go_wp2
    go_returns
    exact ⟨ret_int (by push_cast; rfl), hH⟩
end
end Go.Proofs.Ytfooejfnlggncaa
