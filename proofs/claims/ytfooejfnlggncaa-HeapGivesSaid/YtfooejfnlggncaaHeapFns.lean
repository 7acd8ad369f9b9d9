/-
  What a heap of things by ticks does: the array's own functions (up, down, off, bury); what all of them come to: a list in its order.
-/
namespace Go.Proofs.Ytfooejfnlggncaa
namespace Heap
/-- a thing: its tick, its ticket, what it is -/
abbrev Th (α : Type) := Int × Int × α
section
variable {α : Type}
/-- comes out ahead -/
def lt (t u : Th α) : Prop := t.1 < u.1 ∨ (t.1 = u.1 ∧ t.2.1 < u.2.1)
instance (t u : Th α) : Decidable (lt t u) := by unfold lt; infer_instance
theorem lt_asymm {t u : Th α} (h : lt t u) : ¬ lt u t := by unfold lt at *; omega
theorem lt_trans {t u v : Th α} (h : lt t u) (h2 : lt u v) : lt t v := by unfold lt at *; omega
theorem le_trans {t u v : Th α} (h : ¬ lt t u) (h2 : ¬ lt u v) : ¬ lt t v := by unfold lt at *; omega
theorem le_lt {t u v : Th α} (h : ¬ lt t u) (h2 : lt v u) : ¬ lt t v := by unfold lt at *; omega
end
section
variable {α : Type} [Inhabited α]
def g (l : List (Th α)) (i : Nat) : Th α := l.getD i default
theorem g_get (l : List (Th α)) (i : Nat) (h : i < l.length) : g l i = l[i] := by simp [g, h]
def swap (l : List (Th α)) (i j : Nat) : List (Th α) := (l.set i (g l j)).set j (g l i)
theorem swap_len (l : List (Th α)) (i j : Nat) : (swap l i j).length = l.length := by simp [swap]
theorem g_swap (l : List (Th α)) (i j k : Nat) (hi : i < l.length) (hj : j < l.length) : g (swap l i j) k = if k = j then g l i else if k = i then g l j else g l k := by
  by_cases h1 : k = j
  · subst h1; simp [swap, g, hj]
  · by_cases h2 : k = i
    · subst h2
      simp [swap, g, h1, hi, Ne.symm h1]
    · simp [swap, g, h1, h2, Ne.symm h1, Ne.symm h2]
theorem swap_perm (l : List (Th α)) (i j : Nat) (hi : i < l.length) (hj : j < l.length) : (swap l i j).Perm l := by
  have := List.set_set_perm hi hj
  unfold swap
  rw [g_get l i hi, g_get l j hj]
  exact this
def up (l : List (Th α)) (i : Nat) : List (Th α) :=
  if i = 0 then l else if lt (g l i) (g l ((i - 1) / 2)) then up (swap l i ((i - 1) / 2)) ((i - 1) / 2) else l
termination_by i
decreasing_by omega
def least1 (l : List (Th α)) (i : Nat) : Nat := if 2 * i + 1 < l.length ∧ lt (g l (2 * i + 1)) (g l i) then 2 * i + 1 else i
def least (l : List (Th α)) (i : Nat) : Nat := if 2 * i + 2 < l.length ∧ lt (g l (2 * i + 2)) (g l (least1 l i)) then 2 * i + 2 else least1 l i
theorem least_cases (l : List (Th α)) (i : Nat) : least l i = i ∨ (least l i = 2 * i + 1 ∧ 2 * i + 1 < l.length) ∨ (least l i = 2 * i + 2 ∧ 2 * i + 2 < l.length) := by
  have h1 : least1 l i = i ∨ (least1 l i = 2 * i + 1 ∧ 2 * i + 1 < l.length) := by
    unfold least1
    split
    · rename_i h; exact .inr ⟨rfl, h.1⟩
    · exact .inl rfl
  unfold least
  split
  · rename_i h; exact .inr (.inr ⟨rfl, h.1⟩)
  · exact h1.imp id .inl
/-- the least so far, behind j children -/
def lst (l : List (Th α)) (i : Nat) : Nat → Nat
  | 0 => i
  | 1 => least1 l i
  | _ => least l i
theorem lst_yes (l : List (Th α)) (i j : Nat) (hj : j < 2) (h : 2 * i + 1 + j < l.length) (h2 : lt (g l (2 * i + 1 + j)) (g l (lst l i j))) : lst l i (j + 1) = 2 * i + 1 + j := by
  match j, hj with
  | 0, _ => exact if_pos ⟨h, h2⟩
  | 1, _ => exact if_pos ⟨h, h2⟩
theorem lst_no (l : List (Th α)) (i j : Nat) (hj : j < 2) (h2 : ¬ (2 * i + 1 + j < l.length ∧ lt (g l (2 * i + 1 + j)) (g l (lst l i j)))) : lst l i (j + 1) = lst l i j := by
  match j, hj with
  | 0, _ => exact if_neg h2
  | 1, _ => exact if_neg h2
theorem lst_lt (l : List (Th α)) (i j : Nat) (hi : i < l.length) (hj : j ≤ 2) : lst l i j < l.length := by
  match j, hj with
  | 0, _ => exact hi
  | 1, _ => show least1 l i < _; unfold least1; split <;> omega
  | 2, _ => show least l i < _; rcases least_cases l i with h | h | h <;> omega
def down (l : List (Th α)) (i : Nat) : List (Th α) :=
  if least l i = i then l else down (swap l i (least l i)) (least l i)
termination_by l.length - i
decreasing_by
  rw [swap_len]
  rcases least_cases l i with h | h | h <;> omega
def off (l : List (Th α)) : List (Th α) := down ((l.set 0 (g l (l.length - 1))).take (l.length - 1)) 0
theorem down_len (l : List (Th α)) (i : Nat) : (down l i).length = l.length := by
  rw [down]
  split
  · rfl
  · rw [down_len, swap_len]
termination_by l.length - i
decreasing_by
  rw [swap_len]
  rcases least_cases l i with h | h | h <;> omega
theorem off_len (l : List (Th α)) : (off l).length = l.length - 1 := by
  rw [off, down_len]; simp
def bury (S : List Int) (l : List (Th α)) : List (Th α) :=
  if l = [] then l else if (g l 0).2.1 ∈ S then l else bury S (off l)
termination_by l.length
decreasing_by
  rw [off_len]
  have : 0 < l.length := List.length_pos_iff.2 (by assumption)
  omega


/-- the array is a heap -/
def Hp (l : List (Th α)) : Prop := ∀ j, 0 < j → j < l.length → ¬ lt (g l j) (g l ((j - 1) / 2))
def HpUp (l : List (Th α)) (i : Nat) : Prop := (∀ j, 0 < j → j < l.length → j ≠ i → ¬ lt (g l j) (g l ((j - 1) / 2))) ∧ (0 < i → ∀ c, 0 < c → c < l.length → (c - 1) / 2 = i → ¬ lt (g l c) (g l ((i - 1) / 2)))
def HpDn (l : List (Th α)) (i : Nat) : Prop := (∀ j, 0 < j → j < l.length → (j - 1) / 2 ≠ i → ¬ lt (g l j) (g l ((j - 1) / 2))) ∧ (0 < i → ∀ c, 0 < c → c < l.length → (c - 1) / 2 = i → ¬ lt (g l c) (g l ((i - 1) / 2)))

theorem up_spec (l : List (Th α)) (i : Nat) (hi : i < l.length) (h : HpUp l i) : Hp (up l i) ∧ (up l i).Perm l := by
  rw [up]
  split
  · rename_i h0
    subst h0
    exact ⟨fun j h1 h2 => h.1 j h1 h2 (by omega), .refl _⟩
  · rename_i h0
    split
    · rename_i hlt
      have hp : (i - 1) / 2 < l.length := by omega
      have hg := fun k => g_swap l i ((i - 1) / 2) k hi hp
      have := up_spec (swap l i ((i - 1) / 2)) ((i - 1) / 2) (by rw [swap_len]; exact hp) (by
        refine ⟨fun j h1 h2 h3 => ?_, fun hpp c h1 h2 h3 => ?_⟩
        · rw [swap_len] at h2
          rw [hg, hg, if_neg h3]
          by_cases hji : j = i
          · subst hji
            rw [if_pos rfl, if_pos rfl]
            exact lt_asymm hlt
          · rw [if_neg hji]
            by_cases hpi : (j - 1) / 2 = i
            · rw [if_neg (by omega), if_pos hpi]
              exact h.2 (by omega) j h1 h2 hpi
            · by_cases hpj : (j - 1) / 2 = (i - 1) / 2
              · rw [if_pos hpj]
                have := h.1 j h1 h2 hji
                rw [hpj] at this
                exact le_lt this hlt
              · rw [if_neg hpj, if_neg hpi]
                exact h.1 j h1 h2 hji
        · rw [swap_len] at h2
          rw [hg, hg, if_neg (by omega : ¬ c = (i - 1) / 2), if_neg (by omega : ¬ ((i - 1) / 2 - 1) / 2 = (i - 1) / 2), if_neg (by omega : ¬ ((i - 1) / 2 - 1) / 2 = i)]
          have hpar := h.1 ((i - 1) / 2) hpp hp (by omega)
          by_cases hci : c = i
          · rw [if_pos hci]; exact hpar
          · rw [if_neg hci]
            have := h.1 c h1 h2 hci
            rw [h3] at this
            exact le_trans this hpar)
      exact ⟨this.1, this.2.trans (swap_perm l _ _ hi hp)⟩
    · rename_i hlt
      refine ⟨fun j h1 h2 => ?_, .refl _⟩
      by_cases hji : j = i
      · subst hji; exact hlt
      · exact h.1 j h1 h2 hji
termination_by i
decreasing_by omega

theorem least_min (l : List (Th α)) (i : Nat) : ¬ lt (g l i) (g l (least l i)) ∧ (2 * i + 1 < l.length → ¬ lt (g l (2 * i + 1)) (g l (least l i))) ∧ (2 * i + 2 < l.length → ¬ lt (g l (2 * i + 2)) (g l (least l i))) := by
  have irr : ∀ t : Th α, ¬ lt t t := fun t h => lt_asymm h h
  unfold least
  have h1 : ¬ lt (g l i) (g l (least1 l i)) ∧ (2 * i + 1 < l.length → ¬ lt (g l (2 * i + 1)) (g l (least1 l i))) := by
    unfold least1
    split
    · rename_i h; exact ⟨lt_asymm h.2, fun _ => irr _⟩
    · rename_i h; exact ⟨irr _, fun h' hl => h ⟨h', hl⟩⟩
  generalize least1 l i = m at h1
  split
  · rename_i h
    exact ⟨le_lt h1.1 h.2, fun h' => le_lt (h1.2 h') h.2, fun _ => irr _⟩
  · rename_i h
    exact ⟨h1.1, h1.2, fun h' hl => h ⟨h', hl⟩⟩
theorem least_lt (l : List (Th α)) (i : Nat) (h : least l i ≠ i) : lt (g l (least l i)) (g l i) := by
  have irr : ∀ t : Th α, ¬ lt t t := fun t h => lt_asymm h h
  unfold least at h ⊢
  have h1 : least1 l i = i ∨ lt (g l (least1 l i)) (g l i) := by
    unfold least1
    split
    · rename_i h; exact .inr h.2
    · exact .inl rfl
  generalize least1 l i = m at h h1 ⊢
  split
  · rename_i hh
    rcases h1 with rfl | h1
    · exact hh.2
    · exact lt_trans hh.2 h1
  · rename_i hh
    rw [if_neg hh] at h
    rcases h1 with h1 | h1
    · exact absurd h1 h
    · exact h1

theorem down_spec (l : List (Th α)) (i : Nat) (h : HpDn l i) : Hp (down l i) ∧ (down l i).Perm l := by
  rw [down]
  have hlm := least_min l i
  split
  · rename_i h0
    rw [h0] at hlm
    refine ⟨fun j h1 h2 => ?_, .refl _⟩
    by_cases hp : (j - 1) / 2 = i
    · rw [hp]
      rcases (show j = 2 * i + 1 ∨ j = 2 * i + 2 by omega) with rfl | rfl
      · exact hlm.2.1 h2
      · exact hlm.2.2 h2
    · exact h.1 j h1 h2 hp
  · rename_i h0
    have hll := least_lt l i h0
    have hc : (least l i = 2 * i + 1 ∨ least l i = 2 * i + 2) ∧ least l i < l.length := by
      rcases least_cases l i with h | h | h <;> omega
    have hi' : i < l.length := by omega
    generalize least l i = m at *
    have hg := fun k => g_swap l i m k hi' hc.2
    have := down_spec (swap l i m) m (by
      refine ⟨fun j h1 h2 h3 => ?_, fun hpp c h1 h2 h3 => ?_⟩
      · rw [swap_len] at h2
        rw [hg, hg, if_neg h3]
        by_cases hjm : j = m
        · rw [if_pos hjm, hjm, if_pos (by omega)]
          exact lt_asymm hll
        · rw [if_neg hjm]
          by_cases hpi : (j - 1) / 2 = i
          · rw [if_pos hpi, if_neg (by omega)]
            rcases (show j = 2 * i + 1 ∨ j = 2 * i + 2 by omega) with rfl | rfl
            · exact hlm.2.1 h2
            · exact hlm.2.2 h2
          · rw [if_neg hpi]
            by_cases hji : j = i
            · rw [if_pos hji, hji]
              exact h.2 (by omega) m (by omega) hc.2 (by omega)
            · rw [if_neg hji]
              exact h.1 j h1 h2 hpi
      · rw [swap_len] at h2
        rw [hg, hg, if_neg (by omega : ¬ c = m), if_neg (by omega : ¬ c = i), if_neg (by omega), if_pos (by omega)]
        have := h.1 c h1 h2 (by omega)
        rw [h3] at this
        exact this)
    exact ⟨this.1, this.2.trans (swap_perm l _ _ hi' hc.2)⟩
termination_by l.length - i
decreasing_by
  rw [swap_len]; omega

theorem top_min (l : List (Th α)) (h : Hp l) (j : Nat) (hj : j < l.length) : ¬ lt (g l j) (g l 0) := by
  by_cases h0 : j = 0
  · subst h0; exact fun h => lt_asymm h h
  · exact le_trans (h j (by omega) hj) (top_min l h ((j - 1) / 2) (by omega))
termination_by j
decreasing_by omega
theorem top_le (l : List (Th α)) (h : Hp l) (t : Th α) (ht : t ∈ l) : ¬ lt t (g l 0) := by
  obtain ⟨j, hj, rfl⟩ := List.getElem_of_mem ht
  rw [← g_get l j hj]
  exact top_min l h j hj

theorem off_spec (l : List (Th α)) (hl : l ≠ []) (h : Hp l) : Hp (off l) ∧ (g l 0 :: off l).Perm l := by
  have hp : 0 < l.length := List.length_pos_iff.2 hl
  have key : ∀ j, 0 < j → j < l.length - 1 → g ((l.set 0 (g l (l.length - 1))).take (l.length - 1)) j = g l j := by
    intro j h1 h2
    unfold g
    rw [List.getD_eq_getElem?_getD, List.getElem?_take, if_pos h2, List.getElem?_set_ne (by omega), ← List.getD_eq_getElem?_getD]
  have hlen : ((l.set 0 (g l (l.length - 1))).take (l.length - 1)).length = l.length - 1 := by simp
  have hperm : (g l 0 :: (l.set 0 (g l (l.length - 1))).take (l.length - 1)).Perm l := by
    cases l with
    | nil => exact absurd rfl hl
    | cons a r =>
      cases hr : r with
      | nil => simp [g]
      | cons b r' =>
        rw [← hr]
        have hrl : r ≠ [] := by rw [hr]; simp
        have e0 : g (a :: r) 0 = a := rfl
        have e1 : g (a :: r) ((a :: r).length - 1) = r.getLast hrl := by
          rw [g_get _ _ (by simp)]
          simp [List.getLast_eq_getElem, hr]
        rw [e0, e1, List.set_cons_zero]
        have e2 : (r.getLast hrl :: r).take ((a :: r).length - 1) = r.getLast hrl :: r.dropLast := by
          rw [show (a :: r).length - 1 = (r.length - 1) + 1 by rw [hr]; simp, List.take_succ_cons, List.dropLast_eq_take]
        rw [e2]
        refine List.Perm.cons a ?_
        have : (r.dropLast ++ [r.getLast hrl]).Perm r := by rw [List.dropLast_concat_getLast]
        exact (List.perm_append_singleton _ _).symm.trans this
  have := down_spec ((l.set 0 (g l (l.length - 1))).take (l.length - 1)) 0 ⟨fun j h1 h2 h3 => by
      rw [hlen] at h2
      rw [key j h1 h2, key _ (by omega) (by omega)]
      exact h j h1 (by omega), fun h => absurd h (by omega)⟩
  exact ⟨this.1, (this.2.cons _).trans hperm⟩
end
end Heap
end Go.Proofs.Ytfooejfnlggncaa
