/-
  What a mailbox does, as plain functions on lists.
-/
namespace Go.Proofs.Ytpilkneicakohaa
namespace Mail
/-- a message: its tag, its number -/
abbrev M := Int × Int
def has (l : List Int) (n : Int) : Bool := decide (n ∈ l)
def find (tags : List Int) : List M → Nat → Int × Bool
  | [], _ => (0, false)
  | m :: r, i => if has tags m.1 then ((i : Int), true) else find tags r (i + 1)
def put (m : M) (l : List M) : Int × List M := if l.length = 16 then (7, l) else (0, l ++ [m])
def at_ (l : List M) (i : Int) : M × Bool := if 0 ≤ i ∧ i < l.length then (l.getD i.toNat (0, 0), true) else ((0, 0), false)
def take (l : List M) (i : Int) : List M := if 0 ≤ i ∧ i < l.length then l.take i.toNat ++ l.drop (i.toNat + 1) else l
theorem put_len (m : M) (l : List M) (h : l.length ≤ 16) : (put m l).2.length ≤ 16 := by
  unfold put; split
  · exact h
  · simp; omega
theorem take_len (l : List M) (i : Int) (h : l.length ≤ 16) : (take l i).length ≤ 16 := by
  unfold take; split
  · simp; omega
  · exact h
theorem find_lt (tags : List Int) : ∀ (l : List M) (i : Nat), (find tags l i).2 = true → ∃ k, k < l.length ∧ (find tags l i).1 = ((i + k : Nat) : Int) ∧ has tags (l.getD k (0, 0)).1 = true
  | [], i, h => by simp [find] at h
  | m :: r, i, h => by
    unfold find at h ⊢
    split at h
    · rename_i hm; rw [if_pos hm]; exact ⟨0, by simp, by simp, by simpa using hm⟩
    · rename_i hm; rw [if_neg hm]
      obtain ⟨k, h1, h2, h3⟩ := find_lt tags r (i + 1) h
      exact ⟨k + 1, by simp; omega, by rw [h2]; push_cast; omega, by simpa using h3⟩
theorem find_no (tags : List Int) : ∀ (l : List M) (i : Nat), (find tags l i).2 = false → (find tags l i).1 = 0
  | [], i, h => rfl
  | m :: r, i, h => by
    unfold find at h ⊢
    split at h
    · simp at h
    · rename_i hm; rw [if_neg hm]; exact find_no tags r (i + 1) h
/-- what a walk over a list without place k has collected behind j places -/
def wo (l : List M) (k j : Nat) : List M := if j ≤ k then l.take j else l.take k ++ (l.take j).drop (k + 1)
theorem wo_zero (l : List M) (k : Nat) : wo l k 0 = [] := by simp [wo]
theorem wo_all (l : List M) (k : Nat) : wo l k l.length = l.take k ++ l.drop (k + 1) := by
  unfold wo; split
  · rw [List.take_of_length_le (Nat.le_refl _), List.take_of_length_le (by omega), List.drop_of_length_le (by omega)]; simp
  · rw [List.take_of_length_le (Nat.le_refl _)]
theorem wo_skip (l : List M) (k : Nat) : wo l k (k + 1) = wo l k k := by
  unfold wo
  rw [if_neg (by omega), if_pos (Nat.le_refl _), List.drop_of_length_le (by simp; omega), List.append_nil]
theorem wo_step (l : List M) (k j : Nat) (hj : j < l.length) (h : j ≠ k) : wo l k (j + 1) = wo l k j ++ [l[j]] := by
  unfold wo
  by_cases hlt : j < k
  · rw [if_pos (by omega), if_pos (by omega), List.take_succ_eq_append_getElem hj]
  · rw [if_neg (by omega), if_neg (by omega), List.take_succ_eq_append_getElem hj, List.drop_append_of_le_length (by simp; omega), List.append_assoc]
theorem wo_len (l : List M) (k j : Nat) : (wo l k j).length ≤ l.length := by
  unfold wo; split
  · simp; omega
  · simp; omega
/-- where a number stands first; -1: nowhere -/
def idx (n : Int) : List Int → Nat → Int
  | [], _ => -1
  | x :: r, i => if x = n then (i : Int) else idx n r (i + 1)
theorem idx_has (n : Int) : ∀ (l : List Int) (i : Nat), decide (0 ≤ idx n l i) = has l n
  | [], i => by simp [idx, has]
  | x :: r, i => by
    unfold idx
    by_cases h : x = n
    · rw [if_pos h]; simp [has, h]
    · rw [if_neg h, idx_has n r (i + 1)]; simp [has]; exact fun e => absurd e.symm h
theorem has_cons (x n : Int) (r : List Int) : has (x :: r) n = (decide (x = n) || has r n) := by
  simp [has, eq_comm]
end Mail
end Go.Proofs.Ytpilkneicakohaa
