/-
  The heap of things by ticks comes to a list in its order: what each call does to that list.
-/
import Derived.Test.YtfooejfnlggncaaHeapFns
namespace Go.Proofs.Ytfooejfnlggncaa
namespace Heap
section
variable {α : Type}
/-- into its place -/
def ins (t : Th α) : List (Th α) → List (Th α)
  | [] => [t]
  | u :: r => if lt t u then t :: u :: r else u :: ins t r
theorem ins_perm (t : Th α) : ∀ l : List (Th α), (ins t l).Perm (t :: l)
  | [] => .refl _
  | u :: r => by
    unfold ins; split
    · exact .refl _
    · exact ((ins_perm t r).cons u).trans (.swap _ _ _)
theorem ins_sorted (t : Th α) : ∀ l : List (Th α), l.Pairwise lt → (∀ u ∈ l, u.2.1 ≠ t.2.1) → (ins t l).Pairwise lt
  | [], _, _ => by simp [ins]
  | u :: r, h, hne => by
    obtain ⟨h1, h2⟩ := List.pairwise_cons.1 h
    unfold ins; split
    · rename_i hlt
      exact List.pairwise_cons.2 ⟨fun x hx => by
        rcases List.mem_cons.1 hx with rfl | hx
        · exact hlt
        · exact lt_trans hlt (h1 x hx), h⟩
    · rename_i hlt
      refine List.pairwise_cons.2 ⟨fun x hx => ?_, ins_sorted t r h2 fun x hx => hne x (by simp [hx])⟩
      rcases List.mem_cons.1 ((ins_perm t r).mem_iff.1 hx) with rfl | hx
      · have := hne u (by simp)
        unfold lt at *; omega
      · exact h1 x hx
theorem ins_len (t : Th α) (l : List (Th α)) : (ins t l).length = l.length + 1 := by
  rw [(ins_perm t l).length_eq]; rfl
def cancel (k : Int) (l : List (Th α)) : List (Th α) := l.filter fun t => t.2.1 ≠ k
def hasT (k : Int) (l : List (Th α)) : Bool := decide (k ∈ l.map fun t => t.2.1)
/-- two lists in their order that hold the same are one -/
theorem sorted_eq : ∀ {l l' : List (Th α)}, l.Perm l' → l.Pairwise lt → l'.Pairwise lt → l = l'
  | [], l', p, _, _ => (List.Perm.nil_eq p)
  | a :: r, [], p, _, _ => by have := p.length_eq; simp at this
  | a :: r, b :: r', p, h, h' => by
    obtain ⟨h1, h2⟩ := List.pairwise_cons.1 h
    obtain ⟨h3, h4⟩ := List.pairwise_cons.1 h'
    have e : a = b := by
      rcases List.mem_cons.1 (p.mem_iff.1 (List.mem_cons_self (a := a) (l := r))) with e | ha
      · exact e
      · rcases List.mem_cons.1 (p.mem_iff.2 (List.mem_cons_self (a := b) (l := r'))) with e | hb
        · exact e.symm
        · exact absurd (h1 b hb) (lt_asymm (h3 a ha))
    subst e
    rw [sorted_eq (List.Perm.cons_inv p) h2 h4]
end

section
variable {α : Type} [Inhabited α]
abbrev live (S : List Int) (l : List (Th α)) : List (Th α) := l.filter fun t => decide (t.2.1 ∈ S)
/-- the array l, the tickets S that are there, the last ticket n come to the list A -/
structure Inv (l : List (Th α)) (S : List Int) (n : Int) (A : List (Th α)) : Prop where
  hp : Hp l
  nd : (l.map fun t => t.2.1).Nodup
  rng : ∀ t ∈ l, 1 ≤ t.2.1 ∧ t.2.1 ≤ n
  srt : A.Pairwise lt
  prm : A.Perm (live S l)
  tks : S.Perm (A.map fun t => t.2.1)
  top : l ≠ [] → (g l 0).2.1 ∈ S

theorem Inv.nil : Inv ([] : List (Th α)) [] 0 [] where
  hp := fun j _ h => by simp at h
  nd := by simp
  rng := by simp
  srt := by simp
  prm := by simp
  tks := by simp
  top := fun h => absurd rfl h

variable {l : List (Th α)} {S : List Int} {n : Int} {A : List (Th α)}
theorem Inv.len (h : Inv l S n A) : S.length = A.length := by rw [h.tks.length_eq]; simp
theorem Inv.mem (h : Inv l S n A) (k : Int) : decide (k ∈ S) = hasT k A := by
  rw [hasT, decide_eq_decide]; exact h.tks.mem_iff
theorem Inv.sub (h : Inv l S n A) {t : Th α} (ht : t ∈ A) : t ∈ l := (List.mem_filter.1 (h.prm.mem_iff.1 ht)).1
theorem Inv.arng (h : Inv l S n A) {t : Th α} (ht : t ∈ A) : 1 ≤ t.2.1 ∧ t.2.1 ≤ n := h.rng t (h.sub ht)
theorem Inv.srng (h : Inv l S n A) {k : Int} (hk : k ∈ S) : 1 ≤ k ∧ k ≤ n := by
  obtain ⟨t, ht, rfl⟩ := List.mem_map.1 (h.tks.mem_iff.1 hk)
  exact h.arng ht
theorem Inv.and (h : Inv l S n A) : (A.map fun t => t.2.1).Nodup :=
  ((h.prm.map _).nodup_iff).2 (List.Nodup.sublist ((List.filter_sublist).map _) h.nd)
theorem Inv.snd (h : Inv l S n A) : S.Nodup := h.tks.nodup_iff.2 h.and
theorem nodup_card : ∀ (l : List Int) (N : Nat), l.Nodup → (∀ x ∈ l, 1 ≤ x ∧ x ≤ N) → l.length ≤ N
  | l, 0, _, h => by
    cases l with
    | nil => simp
    | cons x r => have := h x (by simp); omega
  | l, N + 1, hn, h => by
    have := nodup_card (l.erase ((N : Int) + 1)) N (hn.erase _) (fun x hx => by
      have h1 := h x (List.mem_of_mem_erase hx)
      have h2 : x ≠ (N : Int) + 1 := fun e => by
        rw [e, hn.mem_erase_iff] at hx; exact hx.1 rfl
      omega)
    rw [List.length_erase] at this
    split at this <;> omega
theorem Inv.llen (h : Inv l S n A) (N : Nat) (hN : n = N) : l.length ≤ N := by
  have := nodup_card (l.map fun t => t.2.1) N h.nd (fun x hx => by
    obtain ⟨t, ht, rfl⟩ := List.mem_map.1 hx
    have := h.rng t ht; omega)
  simpa using this

theorem Inv.put (h : Inv l S n A) (hn : 0 ≤ n) (k : Int) (x : α) :
    Inv (up (l ++ [(k, n + 1, x)]) l.length) (S ++ [n + 1]) (n + 1) (ins (k, n + 1, x) A) := by
  have hup := up_spec (l ++ [(k, n + 1, x)]) l.length (by simp) (by
    have key : ∀ j, j < l.length → g (l ++ [(k, n + 1, x)]) j = g l j := fun j hj => by simp [g, List.getElem?_append_left hj]
    refine ⟨fun j h1 h2 h3 => ?_, fun _ c h1 h2 h3 => ?_⟩
    · simp at h2
      rw [key j (by omega), key _ (by omega)]
      exact h.hp j h1 (by omega)
    · simp at h2; omega)
  have hpl := hup.2
  have hnn : ∀ t ∈ l, t.2.1 ≠ n + 1 := fun t ht => by have := h.rng t ht; omega
  have hlive : (live (S ++ [n + 1]) l) = live S l := List.filter_congr fun t ht => by
    rw [decide_eq_decide]; have := hnn t ht; simp [this]
  have hprm : (ins (k, n + 1, x) A).Perm (live (S ++ [n + 1]) (up (l ++ [(k, n + 1, x)]) l.length)) := by
    refine (ins_perm _ A).trans (List.Perm.symm ?_)
    refine (hpl.filter _).trans ?_
    rw [List.filter_append]
    show (live (S ++ [n + 1]) l ++ _).Perm _
    rw [hlive]
    have e : ([(k, n + 1, x)] : List (Th α)).filter (fun t => decide (t.2.1 ∈ S ++ [n + 1])) = [(k, n + 1, x)] := by simp
    rw [e]
    exact (List.perm_append_singleton _ _).trans (h.prm.symm.cons _)
  refine ⟨hup.1, ?_, fun t ht => ?_, ins_sorted _ A h.srt (fun u hu => by have := h.arng hu; show u.2.1 ≠ n + 1; omega), hprm, ?_, fun hne => ?_⟩
  · rw [(hpl.map _).nodup_iff]
    rw [List.map_append, List.nodup_append]
    refine ⟨h.nd, by simp, fun a ha b hb => ?_⟩
    obtain ⟨t, ht, rfl⟩ := List.mem_map.1 ha
    simp at hb; subst hb
    exact hnn t ht
  · rcases List.mem_append.1 (hpl.mem_iff.1 ht) with ht | ht
    · have := h.rng t ht; omega
    · simp at ht; subst ht; show 1 ≤ n + 1 ∧ n + 1 ≤ n + 1; omega
  · refine ((h.tks.append_right _).trans ?_).trans (((ins_perm (k, n + 1, x) A).map _).symm)
    exact List.perm_append_singleton _ _
  · have hpos : 0 < (up (l ++ [(k, n + 1, x)]) l.length).length := List.length_pos_iff.2 hne
    have hm : g (up (l ++ [(k, n + 1, x)]) l.length) 0 ∈ up (l ++ [(k, n + 1, x)]) l.length := by
      rw [g_get _ _ hpos]; exact List.getElem_mem hpos
    rcases List.mem_append.1 (hpl.mem_iff.1 hm) with hm2 | hm2
    · have hl : l ≠ [] := fun e => by rw [e] at hm2; simp at hm2
      have h1 := top_le l h.hp _ hm2
      have h0 : 0 < l.length := List.length_pos_iff.2 hl
      have h2 := top_le _ hup.1 (g l 0) (hpl.mem_iff.2 (List.mem_append_left _ (by rw [g_get _ _ h0]; exact List.getElem_mem h0)))
      have e : (g (up (l ++ [(k, n + 1, x)]) l.length) 0).2.1 = (g l 0).2.1 := by unfold lt at h1 h2; omega
      rw [e]
      exact List.mem_append_left _ (h.top hl)
    · simp at hm2
      rw [hm2]; simp

theorem bury_spec (S : List Int) (l : List (Th α)) (hh : Hp l) : Hp (bury S l) ∧ (∃ d : List (Th α), (d ++ bury S l).Perm l ∧ ∀ t ∈ d, t.2.1 ∉ S) ∧ (bury S l ≠ [] → (g (bury S l) 0).2.1 ∈ S) := by
  rw [bury]
  split
  · rename_i h0
    subst h0
    exact ⟨hh, ⟨[], by simp, by simp⟩, fun h => absurd rfl h⟩
  · rename_i h0
    split
    · rename_i h1
      exact ⟨hh, ⟨[], by simp, by simp⟩, fun _ => h1⟩
    · rename_i h1
      obtain ⟨o1, o2⟩ := off_spec l h0 hh
      obtain ⟨b1, ⟨d, b2, b3⟩, b4⟩ := bury_spec S (off l) o1
      refine ⟨b1, ⟨g l 0 :: d, (b2.cons _).trans o2, fun t ht => ?_⟩, b4⟩
      rcases List.mem_cons.1 ht with rfl | ht
      · exact h1
      · exact b3 t ht
termination_by l.length
decreasing_by
  rw [off_len]
  have : 0 < l.length := List.length_pos_iff.2 (by assumption)
  omega

/-- a ticket is struck, what lies buried on top is taken off -/
theorem Inv.cut (h : Inv l S n A) (k : Int) : Inv (bury (S.erase k) l) (S.erase k) n (cancel k A) := by
  obtain ⟨b1, ⟨d, b2, b3⟩, b4⟩ := bury_spec (S.erase k) l h.hp
  have hsub : ∀ t ∈ bury (S.erase k) l, t ∈ l := fun t ht => b2.mem_iff.1 (List.mem_append_right _ ht)
  have hlive : (live (S.erase k) (bury (S.erase k) l)).Perm (live (S.erase k) l) := by
    have e : live (S.erase k) d = [] := List.filter_eq_nil_iff.2 fun t ht => by simpa using b3 t ht
    have := b2.filter (fun t => decide (t.2.1 ∈ S.erase k))
    rw [List.filter_append] at this
    have h2 : live (S.erase k) d ++ live (S.erase k) (bury (S.erase k) l) = live (S.erase k) (bury (S.erase k) l) := by rw [e]; rfl
    exact (List.Perm.of_eq h2.symm).trans this
  refine ⟨b1, ?_, fun t ht => h.rng t (hsub t ht), h.srt.filter _, ?_, ?_, b4⟩
  · have := (b2.map fun t => t.2.1).nodup_iff.2 h.nd
    rw [List.map_append] at this
    exact (List.nodup_append.1 this).2.1
  · refine ((h.prm.filter _).trans (List.Perm.of_eq ?_)).trans hlive.symm
    rw [List.filter_filter]
    refine List.filter_congr fun t ht => ?_
    rw [Bool.eq_iff_iff]
    simp [h.snd.mem_erase_iff]
  · rw [h.snd.erase_eq_filter]
    refine (h.tks.filter _).trans (List.Perm.of_eq ?_)
    rw [cancel, List.filter_map]
    congr 1
    refine List.filter_congr fun t ht => ?_
    rw [Bool.eq_iff_iff]; simp
theorem Inv.nil_iff (h : Inv l S n A) : l = [] ↔ A = [] := by
  constructor
  · rintro rfl; exact List.Perm.eq_nil (by simpa [live] using h.prm)
  · intro e
    rcases Classical.em (l = []) with h0 | h0
    · exact h0
    · have := h.tks.mem_iff.1 (h.top h0)
      rw [e] at this; simp at this
/-- what stands on top is what stands first -/
theorem Inv.first (h : Inv l S n A) {t : Th α} {r : List (Th α)} (hA : A = t :: r) : g l 0 = t := by
  have hl : l ≠ [] := fun e => by have := h.nil_iff.1 e; rw [this] at hA; cases hA
  have h0 : 0 < l.length := List.length_pos_iff.2 hl
  have hm : g l 0 ∈ l := by rw [g_get _ _ h0]; exact List.getElem_mem h0
  have hin : g l 0 ∈ A := h.prm.mem_iff.2 (List.mem_filter.2 ⟨hm, by simpa using h.top hl⟩)
  rw [hA] at hin
  rcases List.mem_cons.1 hin with e | hin
  · exact e
  · have h1 := h.srt
    rw [hA] at h1
    have h2 := (List.pairwise_cons.1 h1).1 _ hin
    exact absurd h2 (top_le l h.hp t (h.sub (by rw [hA]; simp)))
end
section
variable {α : Type} {A : List (Th α)}
theorem cancel_first {t : Th α} {r : List (Th α)} (h : ((t :: r).map fun t => t.2.1).Nodup) : cancel t.2.1 (t :: r) = r := by
  rw [cancel, List.filter_cons]
  simp only [ne_eq, not_true, decide_false, if_false, Bool.false_eq_true]
  rw [List.filter_eq_self]
  intro u hu
  simp only [List.map_cons, List.nodup_cons] at h
  simp only [decide_eq_true_eq]
  exact fun e => h.1 (by rw [← e]; exact List.mem_map.2 ⟨u, hu, rfl⟩)
theorem cancel_no {k : Int} (h : hasT k A = false) : cancel k A = A := by
  rw [cancel, List.filter_eq_self]
  intro u hu
  simp only [hasT, decide_eq_false_iff_not] at h
  simp only [decide_eq_true_eq]
  exact fun e => h (by rw [← e]; exact List.mem_map.2 ⟨u, hu, rfl⟩)
theorem cancel_len {k : Int} (hn : (A.map fun t => t.2.1).Nodup) (h : hasT k A = true) : (cancel k A).length + 1 = A.length := by
  induction A with
  | nil => simp [hasT] at h
  | cons t r ih =>
    simp only [List.map_cons, List.nodup_cons] at hn
    by_cases e : t.2.1 = k
    · subst e
      rw [cancel_first (by simpa using hn)]; simp
    · rw [cancel, List.filter_cons, if_pos (by simpa using e), List.length_cons, List.length_cons]
      have h2 : hasT k r = true := by
        simp only [hasT, decide_eq_true_eq, List.map_cons, List.mem_cons] at h ⊢
        rcases h with h | h
        · exact absurd h.symm e
        · exact h
      have := ih hn.2 h2
      unfold cancel at this
      omega
end
section
variable {α : Type} [Inhabited α]
def next (A : List (Th α)) : Int × Bool := match A with | [] => (0, false) | t :: _ => (t.1, true)
def pop (now : Int) (A : List (Th α)) : (α × Int × Bool) × List (Th α) := match A with
  | [] => ((default, 0, false), [])
  | t :: r => if t.1 ≤ now then ((t.2.2, t.1, true), r) else ((default, 0, false), t :: r)
theorem pop_nil (now : Int) : pop now ([] : List (Th α)) = ((default, 0, false), []) := rfl
theorem pop_late {now : Int} {t : Th α} {r : List (Th α)} (h : ¬ t.1 ≤ now) : pop now (t :: r) = ((default, 0, false), t :: r) := if_neg h
theorem pop_due {now : Int} {t : Th α} {r : List (Th α)} (h : t.1 ≤ now) : pop now (t :: r) = ((t.2.2, t.1, true), r) := if_pos h
end
end Heap
end Go.Proofs.Ytfooejfnlggncaa
