/-
  The heap's iterator: the copy is sorted.
-/
import Derived.Test.YtfooejfnlggncaaHeapF
import Derived.Test.YtfooejfnlggncaaHeapShelf
namespace Go.Proofs.Ytfooejfnlggncaa
open Go.RowKit HP Go.MapKept
open Heap (Th)
open HI (Hc enc)

abbrev tvE (t : Th Int) : List Value := tv enc t
/-- what the sort is told -/
def cmpI (t u : Th Int) : Int := if Heap.lt t u then -1 else 1
theorem ltOf_cmp (t u : Th Int) : Go.Proofs.ltOf cmpI t u = decide (Heap.lt t u) := by
  unfold Go.Proofs.ltOf cmpI
  by_cases h : Heap.lt t u <;> simp [h]
theorem swo_cmp : Sort.SWO (Go.Proofs.ltOf cmpI) where
  irrefl := fun x => by rw [ltOf_cmp, decide_eq_false_iff_not]; exact fun h => Heap.lt_asymm h h
  trans := fun x y z h1 h2 => by
    rw [ltOf_cmp, decide_eq_true_eq] at *
    exact Heap.lt_trans h1 h2
  ntrans := fun x y z h1 h2 => by
    rw [ltOf_cmp, decide_eq_false_iff_not] at *
    exact Heap.le_trans h1 h2

theorem ahead_exact (t u : Th Int) (w : World) :
    Calls Try.prog 32 #[.agg #[.int .i64 t.1, .int .i64 t.2.1, enc t.2.2], .agg #[.int .i64 u.1, .int .i64 u.2.1, enc u.2.2]] w fun e w' => e = .returned (.bool (decide (Heap.lt t u))) ∧
      (w.alloc (.cells #[.int .i64 t.1, .int .i64 t.2.1, enc t.2.2] 64)).alloc (.cells #[.int .i64 u.1, .int .i64 u.2.1, enc u.2.2] 64) = w' := by
  obtain ⟨t1, t2, t3⟩ := t
  obtain ⟨u1, u2, u3⟩ := u
  by_cases he : t1 = u1
  · subst he
    have hd : decide (Heap.lt (t1, t2, t3) (t1, u2, u3)) = decide (t2 < u2) := by rw [decide_eq_decide]; simp [Heap.lt]
    rw [hd]
    clear hd
    go_enter Try.func32, Try.ntmps32
    go_wp2
    go_returns
    exact ⟨rfl, rfl⟩
  · have e1 : (t1 != u1) = true := by simp [he]
    have hd : decide (Heap.lt (t1, t2, t3) (u1, u2, u3)) = decide (t1 < u1) := by rw [decide_eq_decide]; simp [Heap.lt, he]
    rw [hd]
    clear hd
    have HE := Lib.hid he; clear he
    go_enter Try.func32, Try.ntmps32
    go_wp2
    go_returns
    exact ⟨rfl, rfl⟩

theorem cmp_any (t u : Th Int) (W : World) :
    Calls Try.prog 43 #[.agg #[.int .i64 t.1, .int .i64 t.2.1, enc t.2.2], .agg #[.int .i64 u.1, .int .i64 u.2.1, enc u.2.2]] W fun e w' => e = .returned (.int .i64 (cmpI t u)) ∧ ∃ q os', w' = Sort.grow (W.drewN q) os' := by
  have ha := fun w => ahead_exact t u w
  by_cases hlt : Heap.lt t u
  · rw [decide_eq_true hlt] at ha
    rw [show cmpI t u = -1 from if_pos hlt]
    clear hlt
    obtain ⟨t1, t2, t3⟩ := t
    obtain ⟨u1, u2, u3⟩ := u
    simp only at ha ⊢
    have HA := Lib.hid ha; clear ha
    go_enter Try.func43, Try.ntmps43
    go_wp2_with (go_at_call 32; refine (HA.out _).mono ?_; rintro e w' ⟨rfl, rfl⟩)
    go_returns
    exact ⟨rfl, 0, _, by rw [Sort.alloc_eq_grow, Sort.alloc_eq_grow, Sort.alloc_eq_grow, Sort.alloc_eq_grow, Sort.grow_grow, Sort.grow_grow, Sort.grow_grow]; rfl⟩
  · rw [decide_eq_false hlt] at ha
    rw [show cmpI t u = 1 from if_neg hlt]
    clear hlt
    obtain ⟨t1, t2, t3⟩ := t
    obtain ⟨u1, u2, u3⟩ := u
    simp only at ha ⊢
    have HA := Lib.hid ha; clear ha
    go_enter Try.func43, Try.ntmps43
    go_wp2_with (go_at_call 32; refine (HA.out _).mono ?_; rintro e w' ⟨rfl, rfl⟩)
    go_returns
    exact ⟨rfl, 0, _, by rw [Sort.alloc_eq_grow, Sort.alloc_eq_grow, Sort.alloc_eq_grow, Sort.alloc_eq_grow, Sort.grow_grow, Sort.grow_grow, Sort.grow_grow]; rfl⟩

theorem flat_tvs (l : List (Th Int)) : (Sort.flatK tvE 3 l.toArray).toList = tvs enc l := by
  apply List.ext_getElem?
  intro j
  have hs : (Sort.flatK tvE 3 l.toArray).size = l.length * 3 := by simp
  by_cases hj : j < l.length * 3
  · have hk : j / 3 < l.length := by omega
    have h1 := Sort.get_flatK tvE 3 l.toArray j (by simpa using hj)
    rw [getElem!_pos _ j (by rw [hs]; exact hj)] at h1
    rw [Array.getElem?_toList, Array.getElem?_eq_getElem (by rw [hs]; exact hj), h1]
    obtain ⟨v0, v1, v2⟩ := tvs_get enc l (j / 3) hk
    have e : l.toArray[j / 3]! = l[j / 3] := by simp [hk]
    rw [e]
    rcases (show j % 3 = 0 ∨ j % 3 = 1 ∨ j % 3 = 2 by omega) with hm | hm | hm
    · rw [hm]; rw [show j / 3 * 3 = j by omega] at v0; rw [v0]; rfl
    · rw [hm]; rw [show j / 3 * 3 + 1 = j by omega] at v1; rw [v1]; rfl
    · rw [hm]; rw [show j / 3 * 3 + 2 = j by omega] at v2; rw [v2]; rfl
  · rw [List.getElem?_eq_none (by rw [Array.length_toList, hs]; omega), List.getElem?_eq_none (by rw [tvs_len]; omega)]

section
variable {w0 w : World} {L : List HP} {g off n cap : Nat} {l : List (Th Int)}
theorem holds_of_row (h : At w0 w (row 64 3 (some ⟨g, off, none⟩) n cap (tvs enc l) :: L)) : Sort.HoldsK tvE 3 w g off l.toArray := by
  intro j hj
  rw [Sort.size_flatK] at hj
  have hj' : j < l.length * 3 := by simpa using hj
  refine ⟨?_, h.row_free _⟩
  have := congrArg (fun x => x[j]?) (flat_tvs l)
  simp only [Array.getElem?_toList] at this
  rw [Array.getElem?_eq_getElem (by simpa using hj')] at this
  rw [getElem!_pos _ j (by simpa using hj')]
  exact h.rd.at_ j _ this.symm
theorem At.grow (h : At w0 w L) (os : Array Obj) : At w0 (Sort.grow w os) L := by
  obtain ⟨h1, f, h2, h3⟩ := h
  have hb : Below w0.heap.size w (Sort.grow w os) := ⟨rfl, rfl, rfl, by simp [Sort.grow], fun k hk => by
    have := h1.size
    simp only [Sort.grow]
    rw [Array.getElem?_append_left (by omega)]⟩
  refine ⟨h1.trans hb, f, h2, fun k o e => ?_⟩
  obtain ⟨g1, g2⟩ := h3 k o e
  refine ⟨g1, ?_⟩
  simp only [Sort.grow]
  rw [Array.getElem?_append_left (Array.getElem?_eq_some_iff.1 g2).1]
  exact g2
/-- the row laid anew -/
theorem At.put_row (h : At w0 w (row 64 3 (some ⟨g, off, none⟩) n cap (tvs enc l) :: L)) (l2 : List (Th Int)) (hl : l2.length = l.length) :
    At w0 (Sort.putRowK tvE 3 w g off l2.toArray) (row 64 3 (some ⟨g, off, none⟩) n cap (tvs enc l2) :: L) := by
  have hnew := h.row_new
  have hlen := h.row_len
  rw [tvs_len] at hlen
  have hother : ∀ k, k ≠ g → (Sort.putRowK tvE 3 w g off l2.toArray).heap[k]? = w.heap[k]? := fun k hk => by
    simp only [Sort.putRowK, Sort.putRow, Sort.mapBlock]
    rw [Array.getElem?_modify, if_neg (Ne.symm hk)]
  refine h.step ⟨rfl, rfl, rfl, by simp [Sort.putRowK, Sort.putRow, Sort.mapBlock], fun k hk => hother k (by omega)⟩ fun h1 h2 p _ d hh1 hh2 => ?_
  obtain ⟨p1, p2, p3, p4⟩ := p
  rcases p4 with ⟨z, _⟩ | ⟨b, o, cur, hb, ⟨hg1, hg2⟩, hsz, htk⟩
  · cases z
  injection hb with hb; injection hb with e1 e2; subst e1; subst e2
  have hgw := (hh1 g _ hg1).2
  have hblk : (Sort.putRowK tvE 3 w g off l2.toArray).heap[g]? = some (.cells (Sort.putCells id off (Sort.flatK tvE 3 l2.toArray) cur) 64 (0, 0)) := by
    simp only [Sort.putRowK, Sort.putRow, Sort.mapBlock]
    rw [Array.getElem?_modify, if_pos rfl, hgw]
    rfl
  refine ⟨fun k => if k = g then some (.cells (Sort.putCells id off (Sort.flatK tvE 3 l2.toArray) cur) 64 (0, 0)) else none, ⟨by rw [tvs_len]; omega, p2, p3, .inr ⟨g, off, Sort.putCells id off (Sort.flatK tvE 3 l2.toArray) cur, rfl, ⟨by simp, fun k hk => by simp [hk]⟩, ?_, ?_⟩⟩, fun k o' e' => ?_, fun k => ?_, fun k o' e' => ?_⟩
  · simpa [Sort.putCells] using hsz
  · have hsc : n * 3 ≤ cap * 3 := Nat.mul_le_mul_right _ p2
    apply List.ext_getElem?
    intro j
    rw [List.getElem?_take]
    by_cases hj : j < n * 3
    · rw [if_pos hj, List.getElem?_drop, Array.getElem?_toList]
      simp only [Sort.putCells, Array.getElem?_mapIdx]
      rw [Array.getElem?_eq_getElem (by omega), Option.map_some, if_pos ⟨by omega, by simp; omega⟩, Nat.add_sub_cancel_left, ← flat_tvs l2, Array.getElem?_toList, Array.getElem?_eq_getElem (by simp; omega), getElem!_pos _ j (by simp; omega)]
      rfl
    · rw [if_neg hj, List.getElem?_eq_none (by rw [tvs_len]; omega)]
  · by_cases hkg : k = g
    · subst hkg; simp at e'; subst e'; exact ⟨(hh1 k _ hg1).1, hblk⟩
    · simp [hkg] at e'
  · by_cases hkg : k = g
    · subst hkg
      rcases d k with z | z
      · rw [hg1] at z; cases z
      · exact .inr z
    · simp [hkg]
  · have hkg : k ≠ g := by
      rintro rfl
      rcases d k with z | z
      · rw [hg1] at z; cases z
      · rw [z] at e'; cases e'
    rw [hother k hkg]; exact (hh2 k o' e').2

/-- slices.SortFunc: the things in their order -/
theorem sort_any {ao : Option Addr} (A : List (Th Int)) (hn : l.length = n) (hm : n ≤ 1099511627777) (hp : A.Perm l) (hs : A.Pairwise Heap.lt) (hd : (l.map fun t => t.2.1).Nodup)
    (hA : At w0 w (row 64 3 ao n cap (tvs enc l) :: L)) :
    Calls Try.prog 42 #[.slice ao n cap, .func (.func 43) #[] #[]] w fun e w' =>
      e = .returned (.tuple #[]) ∧ At w0 w' (row 64 3 ao n cap (tvs enc A) :: L) := by
  by_cases h0 : n = 0
  · subst h0
    obtain rfl := List.eq_nil_of_length_eq_zero hn
    obtain rfl := hp.eq_nil
    exact (Go.Proofs.AnyF.slices_SortFunc_none Try.sortL ao cap _ w).mono fun e w' ⟨he, hw⟩ => ⟨he, by rw [hw]; exact hA⟩
  · obtain ⟨g, off, rfl⟩ := hA.row_some (by rw [tvs_len]; omega)
    have hnew := hA.row_new
    have hcmp : Go.Proofs.CmpLays Try.prog 43 #[] tvE 3 cmpI g off l.toArray.size w := fun m os dk _ x y => cmp_any x y _
    have hc := Go.Proofs.AnyQ.slices_SortFunc Try.sortL 3 Try.isAgg64 Try.sizeOf64 tvE (fun _ => rfl) (fun x v hv => HI.one [x] v (by simpa [tvs] using hv)) cmpI swo_cmp 43 #[] g off cap l.toArray w
      (enters_of Try.func43 (by kernel_rfl) rfl) hcmp (holds_of_row hA) hnew.2 (by simp; omega)
    have hsz : l.toArray.size = n := by simpa using hn
    rw [hsz] at hc
    refine hc.mono ?_
    rintro e w' ⟨he, d', m, os, ⟨q1, q2, q3⟩, hsrt, hw⟩
    refine ⟨he, ?_⟩
    have hd1 : d'.size = n := by rw [q1]; exact hsz
    have hperm : d'.toList.Perm l := by
      have e1 : (d'.extract 0 n).toList = d'.toList := by rw [← hd1]; simp
      have e2 : (l.toArray.extract 0 n).toList = l := by rw [← hn]; simp
      rw [e1, e2] at q3
      exact q3
    have hnd : (d'.toList.map fun t => t.2.1).Nodup := ((hperm.map _).nodup_iff).2 hd
    have hpw : d'.toList.Pairwise Heap.lt := by
      rw [List.pairwise_iff_getElem]
      intro i j hi hj hij
      have hi' : i < d'.size := by simpa using hi
      have hj' : j < d'.size := by simpa using hj
      have := hsrt i j (by omega) hij (by omega)
      rw [getElem!_pos d' j hj', getElem!_pos d' i hi', ltOf_cmp, decide_eq_false_iff_not] at this
      have hne : d'[i].2.1 ≠ d'[j].2.1 := by
        have h3 := List.pairwise_iff_getElem.1 hnd i j (by simpa using hi') (by simpa using hj') hij
        simpa using h3
      simp only [Array.getElem_toList]
      unfold Heap.lt at *
      omega
    have hAe : d'.toList = A := Heap.sorted_eq (hperm.trans hp.symm) hpw hs
    have hput := At.grow (At.drewN (hA.put_row A hp.length_eq) m) os
    have hde : d' = A.toArray := by rw [← hAe]
    rw [hw, hde]
    exact hput
end
end Go.Proofs.Ytfooejfnlggncaa
