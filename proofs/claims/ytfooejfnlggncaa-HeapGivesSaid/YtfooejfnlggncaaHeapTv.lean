/-
  The cells of a list of things.
-/
import Derived.Test.YtfooejfnlggncaaLib2
import Derived.Test.YtfooejfnlggncaaHeapInv
namespace Go.Proofs.Ytfooejfnlggncaa
open Go.RowKit HP
open Heap (Th)

section
variable {α : Type} (enc : α → Value)
def tv (t : Th α) : List Value := [.int .i64 t.1, .int .i64 t.2.1, enc t.2.2]
def tvs (l : List (Th α)) : List Value := l.flatMap (tv enc)
theorem tvs_cons (t : Th α) (r : List (Th α)) : tvs enc (t :: r) = .int .i64 t.1 :: .int .i64 t.2.1 :: enc t.2.2 :: tvs enc r := rfl
theorem tvs_len (l : List (Th α)) : (tvs enc l).length = l.length * 3 := by
  induction l with
  | nil => rfl
  | cons m r ih => rw [tvs_cons]; simp only [List.length_cons, ih]; omega
theorem tvs_append (l l2 : List (Th α)) : tvs enc (l ++ l2) = tvs enc l ++ tvs enc l2 := by simp [tvs]
theorem tvs_one (he : ∀ x, (enc x).oneCell' = true) (l : List (Th α)) : ∀ u ∈ tvs enc l, u.oneCell' = true := by
  intro u hu
  simp only [tvs, List.mem_flatMap] at hu
  obtain ⟨m, _, hu⟩ := hu
  simp [tv] at hu
  rcases hu with rfl | rfl | rfl
  · rfl
  · rfl
  · exact he _
theorem tvs_get (l : List (Th α)) (k : Nat) (h : k < l.length) : (tvs enc l)[k * 3]? = some (.int .i64 l[k].1) ∧ (tvs enc l)[k * 3 + 1]? = some (.int .i64 l[k].2.1) ∧ (tvs enc l)[k * 3 + 2]? = some (enc l[k].2.2) := by
  induction l generalizing k with
  | nil => simp at h
  | cons m r ih =>
    cases k with
    | zero => exact ⟨rfl, rfl, rfl⟩
    | succ k =>
      have := ih k (by simpa using h)
      rw [tvs_cons, show (k + 1) * 3 = k * 3 + 1 + 1 + 1 by omega, show k * 3 + 1 + 1 + 1 + 1 = (k * 3 + 1) + 1 + 1 + 1 by omega, show k * 3 + 1 + 1 + 1 + 2 = (k * 3 + 2) + 1 + 1 + 1 by omega]
      simpa using this
theorem tvs_take (l : List (Th α)) (k : Nat) : (tvs enc l).take (k * 3) = tvs enc (l.take k) := by
  induction l generalizing k with
  | nil => simp [tvs]
  | cons m r ih =>
    cases k with
    | zero => simp [tvs]
    | succ k =>
      rw [tvs_cons, show (k + 1) * 3 = k * 3 + 1 + 1 + 1 by omega, List.take_succ_cons, List.take_succ_cons, List.take_succ_cons, ih, List.take_succ_cons, tvs_cons]
/-- a thing stored, cell by cell -/
theorem tvs_set (l : List (Th α)) (k : Nat) (t : Th α) : (((tvs enc l).set (k * 3) (.int .i64 t.1)).set (k * 3 + 1) (.int .i64 t.2.1)).set (k * 3 + 2) (enc t.2.2) = tvs enc (l.set k t) := by
  induction l generalizing k with
  | nil => simp [tvs]
  | cons m r ih =>
    cases k with
    | zero => rfl
    | succ k =>
      have := ih k
      rw [tvs_cons, show (k + 1) * 3 = k * 3 + 1 + 1 + 1 by omega, show k * 3 + 1 + 1 + 1 + 1 = (k * 3 + 1) + 1 + 1 + 1 by omega, show k * 3 + 1 + 1 + 1 + 2 = (k * 3 + 2) + 1 + 1 + 1 by omega]
      simp only [List.set_cons_succ, tvs_cons, this]
end

section
variable {α : Type} {enc : α → Value} {w0 w : World} {L : List HP} {e : TypeId} {g off n cap : Nat} {l : List (Th α)}
/-- 'xs[k] = t' -/
theorem At.tv_set (h : At w0 w (row e 3 (some ⟨g, off, none⟩) n cap (tvs enc l) :: L)) (k : Nat) (hk : k < l.length) (t : Th α) :
    At w0 (((w.setCell ⟨g, off + k * 3, none⟩ (.int .i64 t.1)).setCell ⟨g, off + k * 3 + 1, none⟩ (.int .i64 t.2.1)).setCell ⟨g, off + k * 3 + 2, none⟩ (enc t.2.2)) (row e 3 (some ⟨g, off, none⟩) n cap (tvs enc (l.set k t)) :: L) := by
  have hl := tvs_len enc l
  have h1 := h.row_set (k * 3) (by omega) (.int .i64 t.1)
  have h2 := h1.row_set (k * 3 + 1) (by rw [List.length_set]; omega) (.int .i64 t.2.1)
  have h3 := h2.row_set (k * 3 + 2) (by rw [List.length_set, List.length_set]; omega) (enc t.2.2)
  rw [tvs_set] at h3
  exact h3
/-- the cells of a thing -/
theorem At.tv_get (h : At w0 w (row e 3 (some ⟨g, off, none⟩) n cap (tvs enc l) :: L)) (k : Nat) (hk : k < l.length) :
    w.cell? ⟨g, off + k * 3, none⟩ = some (.int .i64 l[k].1) ∧ w.cell? ⟨g, off + k * 3 + 1, none⟩ = some (.int .i64 l[k].2.1) ∧ w.cell? ⟨g, off + k * 3 + 2, none⟩ = some (enc l[k].2.2) := by
  obtain ⟨v1, v2, v3⟩ := tvs_get enc l k hk
  have hr := h.rd
  exact ⟨hr.at_ _ _ v1, hr.at_ _ _ v2, hr.at_ _ _ v3⟩
theorem At.tv_at (h : At w0 w (row e 3 (some ⟨g, off, none⟩) n cap (tvs enc l) :: L)) (k : Nat) (a b : Int) (x : α) (hk : l[k]? = some (a, b, x)) :
    w.cell? ⟨g, off + k * 3, none⟩ = some (.int .i64 a) ∧ w.cell? ⟨g, off + k * 3 + 1, none⟩ = some (.int .i64 b) ∧ w.cell? ⟨g, off + k * 3 + 2, none⟩ = some (enc x) := by
  obtain ⟨hk1, hk2⟩ := List.getElem?_eq_some_iff.1 hk
  have := h.tv_get k hk1
  rwa [hk2] at this
/-- 'xs[:k]', what is left ahead -/
theorem At.tv_take (h : At w0 w (row e 3 (some ⟨g, off, none⟩) n cap (tvs enc l) :: L)) (k : Nat) (hk : k ≤ n) : At w0 w (row e 3 (some ⟨g, off, none⟩) k cap (tvs enc (l.take k)) :: L) := by
  have := h.row_take k hk
  rwa [tvs_take] at this
end
end Go.Proofs.Ytfooejfnlggncaa
