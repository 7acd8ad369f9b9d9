/-
  The web of links: what holds of every web that was made by links; which pairs are linked.
-/
import Derived.Test.YtihpcaklknbjiaaLnkF
namespace Go.Proofs.Ytihpcaklknbjiaa
open Go.RowKit HP
open Go.Proofs.Ytihpcaklknbjiaa.Lnk

namespace Lnk
/-- a web's own law; U: all numbers that are linked -/
structure Ok (N : Int → List Int) (U : List Int) : Prop where
  nd : ∀ x, (N x).Nodup
  sy : ∀ x y, y ∈ N x → x ∈ N y
  ir : ∀ x, x ∉ N x
  le : ∀ x, (N x).length ≤ 8
  un : ∀ x, ∀ y ∈ N x, y ∈ U
section
variable {N M : Int → List Int} {U : List Int} {a b : Int}
theorem Ok.nil (U : List Int) : Ok (fun _ => []) U := ⟨by simp, by simp, by simp, by simp, by simp⟩
theorem Ok.sup (h : Ok N U) {V : List Int} (hV : ∀ x ∈ U, x ∈ V) : Ok N V := ⟨h.nd, h.sy, h.ir, h.le, fun x y hy => hV y (h.un x y hy)⟩
theorem Ok.fits (h : Ok N U) (hU : Fits U) (x : Int) : Fits (N x) := fun y hy => hU y (h.un x y hy)
theorem Ok.iff (h : Ok N U) (x y : Int) : y ∈ N x ↔ x ∈ N y := ⟨h.sy x y, h.sy y x⟩
theorem jn2 (hab : a ≠ b) (x : Int) : jn (jn N a b) b a x = if x = b then N b ++ [a] else if x = a then N a ++ [b] else N x := by
  unfold jn
  by_cases h1 : x = b
  · subst h1; simp [Ne.symm hab]
  · simp [h1]
theorem lk_cases (N : Int → List Int) (a b : Int) : (lk N a b = (0, N) ∧ (a = b ∨ b ∈ N a)) ∨ (lk N a b = (7, N) ∧ a ≠ b ∧ b ∉ N a ∧ ((N a).length = 8 ∨ (N b).length = 8)) ∨ (lk N a b = (0, jn (jn N a b) b a) ∧ a ≠ b ∧ b ∉ N a ∧ (N a).length ≠ 8 ∧ (N b).length ≠ 8) := by
  unfold lk
  by_cases h1 : a = b ∨ b ∈ N a
  · rw [if_pos h1]; exact .inl ⟨rfl, h1⟩
  · rw [if_neg h1]
    have e1 : a ≠ b := fun e => h1 (.inl e)
    have e2 : b ∉ N a := fun e => h1 (.inr e)
    by_cases h2 : (N a).length = 8 ∨ (N b).length = 8
    · rw [if_pos h2]; exact .inr (.inl ⟨rfl, e1, e2, h2⟩)
    · rw [if_neg h2]; exact .inr (.inr ⟨rfl, e1, e2, fun e => h2 (.inl e), fun e => h2 (.inr e)⟩)
theorem lk_code (N : Int → List Int) (a b : Int) : (lk N a b).1 = 0 ∨ (lk N a b).1 = 7 := by
  rcases lk_cases N a b with ⟨e, _⟩ | ⟨e, _⟩ | ⟨e, _⟩ <;> rw [e] <;> simp
theorem lk0_mem (h : Ok N U) (e : (lk N a b).1 = 0) (x y : Int) : y ∈ (lk N a b).2 x ↔ y ∈ N x ∨ (x ≠ y ∧ ((x = a ∧ y = b) ∨ (x = b ∧ y = a))) := by
  rcases lk_cases N a b with ⟨e1, h1⟩ | ⟨e1, _⟩ | ⟨e1, h1, h2, _⟩
  · rw [e1]
    constructor
    · exact .inl
    · rintro (h2 | ⟨h2, h3⟩)
      · exact h2
      · rcases h1 with h1 | h1
        · subst h1
          rcases h3 with ⟨rfl, rfl⟩ | ⟨rfl, rfl⟩ <;> exact absurd rfl h2
        · rcases h3 with ⟨rfl, rfl⟩ | ⟨rfl, rfl⟩
          · exact h1
          · exact h.sy _ _ h1
  · rw [e1] at e; cases e
  · rw [e1]
    simp only
    rw [jn2 h1]
    by_cases hb : x = b
    · subst hb
      rw [if_pos rfl, List.mem_append, List.mem_singleton]
      constructor
      · rintro (h3 | rfl)
        · exact .inl h3
        · exact .inr ⟨Ne.symm h1, .inr ⟨rfl, rfl⟩⟩
      · rintro (h3 | ⟨_, ⟨h4, _⟩ | ⟨_, h4⟩⟩)
        · exact .inl h3
        · exact absurd h4.symm h1
        · exact .inr h4
    · rw [if_neg hb]
      by_cases ha : x = a
      · subst ha
        rw [if_pos rfl, List.mem_append, List.mem_singleton]
        constructor
        · rintro (h3 | rfl)
          · exact .inl h3
          · exact .inr ⟨h1, .inl ⟨rfl, rfl⟩⟩
        · rintro (h3 | ⟨_, ⟨_, h4⟩ | ⟨h4, _⟩⟩)
          · exact .inl h3
          · exact .inr h4
          · exact absurd h4 hb
      · rw [if_neg ha]
        constructor
        · exact .inl
        · rintro (h3 | ⟨_, ⟨h4, _⟩ | ⟨h4, _⟩⟩)
          · exact h3
          · exact absurd h4 ha
          · exact absurd h4 hb
theorem Ok.lk (h : Ok N U) (ha : a ∈ U) (hb : b ∈ U) : Ok (Lnk.lk N a b).2 U := by
  rcases lk_cases N a b with ⟨e1, h1⟩ | ⟨e1, _⟩ | ⟨e1, h1, h2, h3, h4⟩
  · rw [e1]; exact h
  · rw [e1]; exact h
  · have hm := lk0_mem h (a := a) (b := b) (by rw [e1])
    rw [e1] at hm ⊢
    simp only at hm ⊢
    have h5 : a ∉ N b := fun e => h2 (h.sy _ _ e)
    refine ⟨fun x => ?_, fun x y hy => ?_, fun x hx => ?_, fun x => ?_, fun x y hy => ?_⟩
    · rw [jn2 h1]
      split
      · refine List.nodup_append.2 ⟨h.nd b, by simp, fun u hu v hv => ?_⟩
        simp at hv; subst hv; exact fun e => h5 (e ▸ hu)
      · split
        · refine List.nodup_append.2 ⟨h.nd a, by simp, fun u hu v hv => ?_⟩
          simp at hv; subst hv; exact fun e => h2 (e ▸ hu)
        · exact h.nd x
    · rw [hm] at hy ⊢
      rcases hy with hy | ⟨g1, g2⟩
      · exact .inl (h.sy _ _ hy)
      · refine .inr ⟨Ne.symm g1, ?_⟩
        rcases g2 with ⟨g2, g3⟩ | ⟨g2, g3⟩
        · exact .inr ⟨g3, g2⟩
        · exact .inl ⟨g3, g2⟩
    · rw [hm] at hx
      rcases hx with hx | ⟨g1, _⟩
      · exact h.ir _ hx
      · exact g1 rfl
    · have e2 := h.le a
      have e3 := h.le b
      rw [jn2 h1]
      split
      · rw [List.length_append]; simp; omega
      · split
        · rw [List.length_append]; simp; omega
        · exact h.le x
    · rw [hm] at hy
      rcases hy with hy | ⟨_, ⟨_, rfl⟩ | ⟨_, rfl⟩⟩
      · exact h.un _ _ hy
      · exact hb
      · exact ha
theorem ct_mem (x y : Int) : y ∈ ct N a x ↔ x ≠ a ∧ y ≠ a ∧ y ∈ N x := by
  unfold ct
  by_cases hx : x = a
  · subst hx; simp
  · rw [if_neg hx, List.mem_filter]; simp [hx]; exact And.comm
theorem Ok.ct (h : Ok N U) (a : Int) : Ok (Lnk.ct N a) U := by
  refine ⟨fun x => ?_, fun x y hy => ?_, fun x hx => ?_, fun x => ?_, fun x y hy => ?_⟩
  · unfold Lnk.ct; split
    · exact List.nodup_nil
    · exact (h.nd x).filter _
  · rw [ct_mem] at hy ⊢
    exact ⟨hy.2.1, hy.1, h.sy _ _ hy.2.2⟩
  · rw [ct_mem] at hx
    exact h.ir x hx.2.2
  · unfold Lnk.ct; split
    · exact Nat.zero_le _
    · exact Nat.le_trans (List.length_filter_le _ _) (h.le x)
  · rw [ct_mem] at hy
    exact h.un _ _ hy.2.2
/-- whose members are members of another web's is refused no link that the other has -/
theorem lk_sub (hM : Ok M U) (hN : Ok N U) (hs : ∀ x y, y ∈ M x → y ∈ N x) (hab : a ≠ b → b ∈ N a) : (Lnk.lk M a b).1 = 0 := by
  rcases lk_cases M a b with ⟨e1, h1⟩ | ⟨e1, h1, h2, h3⟩ | ⟨e1, _⟩
  · rw [e1]
  · exfalso
    have hb := hab h1
    rcases h3 with h3 | h3
    · have := nodup_le (l := b :: M a) (U := N a) (List.nodup_cons.2 ⟨h2, hM.nd a⟩) (fun x hx => by
        rcases List.mem_cons.1 hx with rfl | hx
        · exact hb
        · exact hs _ _ hx)
      have h4 := hN.le a
      simp at this; omega
    · have := nodup_le (l := a :: M b) (U := N b) (List.nodup_cons.2 ⟨fun e => h2 (hM.sy _ _ e), hM.nd b⟩) (fun x hx => by
        rcases List.mem_cons.1 hx with rfl | hx
        · exact hN.sy _ _ hb
        · exact hs _ _ hx)
      have h4 := hN.le b
      simp at this; omega
  · rw [e1]
/-- which pairs are linked -/
def Lk (l : List (Int × Int)) (x y : Int) : Prop := x ≠ y ∧ ((x, y) ∈ l ∨ (y, x) ∈ l)
def Is (N : Int → List Int) (l : List (Int × Int)) : Prop := ∀ x y, y ∈ N x ↔ Lk l x y
theorem Is.nil : Is (fun _ => []) [] := fun x y => by simp [Lk]
theorem st1 {T : List (Int × Int)} {k : Nat} (h : Is N (T.take k)) (hO : Ok N U) (hk : T[k]? = some (a, b)) (e : (lk N a b).1 = 0) : Is (lk N a b).2 (T.take (k + 1)) := by
  intro x y
  rw [lk0_mem hO e, h x y, List.take_add_one, hk]
  simp only [Lk, Option.toList_some, List.mem_append, List.mem_singleton, Prod.mk.injEq]
  constructor
  · rintro (⟨h1, h2 | h2⟩ | ⟨h1, h2 | h2⟩)
    · exact ⟨h1, .inl (.inl h2)⟩
    · exact ⟨h1, .inr (.inl h2)⟩
    · exact ⟨h1, .inl (.inr h2)⟩
    · exact ⟨h1, .inr (.inr ⟨h2.2, h2.1⟩)⟩
  · rintro ⟨h1, (h2 | h2) | (h2 | h2)⟩
    · exact .inl ⟨h1, .inl h2⟩
    · exact .inr ⟨h1, .inl h2⟩
    · exact .inl ⟨h1, .inr h2⟩
    · exact .inr ⟨h1, .inr ⟨h2.2, h2.1⟩⟩
theorem drop_at {T : List (Int × Int)} {k : Nat} {q : Int × Int} (hk : T[k]? = some q) : T.drop k = q :: T.drop (k + 1) := by
  obtain ⟨h1, h2⟩ := List.getElem?_eq_some_iff.1 hk
  rw [List.drop_eq_getElem_cons h1, h2]
theorem st2 {T : List (Int × Int)} {k : Nat} (h : Is M (T.drop (k + 1))) (hO : Ok M U) (hk : T[k]? = some (a, b)) (e : (lk M b a).1 = 0) : Is (lk M b a).2 (T.drop k) := by
  intro x y
  rw [lk0_mem hO e, h x y, drop_at hk]
  simp only [Lk, List.mem_cons, Prod.mk.injEq]
  constructor
  · rintro (⟨h1, h2 | h2⟩ | ⟨h1, h2 | h2⟩)
    · exact ⟨h1, .inl (.inr h2)⟩
    · exact ⟨h1, .inr (.inr h2)⟩
    · exact ⟨h1, .inr (.inl ⟨h2.2, h2.1⟩)⟩
    · exact ⟨h1, .inl (.inl ⟨h2.1, h2.2⟩)⟩
  · rintro ⟨h1, (h2 | h2) | (h2 | h2)⟩
    · exact .inr ⟨h1, .inr h2⟩
    · exact .inl ⟨h1, .inl h2⟩
    · exact .inr ⟨h1, .inl ⟨h2.2, h2.1⟩⟩
    · exact .inl ⟨h1, .inr h2⟩
theorem st2e {T : List (Int × Int)} {k : Nat} (hN : Is N T) (hON : Ok N U) (hM : Is M (T.drop (k + 1))) (hOM : Ok M U) (hk : T[k]? = some (a, b)) : (lk M b a).1 = 0 := by
  have hd := drop_at hk
  have hsub : ∀ q ∈ T.drop k, q ∈ T := fun q hq => List.mem_of_mem_drop hq
  refine lk_sub hOM hON (fun x y hy => ?_) (fun hne => ?_)
  · rw [hM] at hy
    rw [hN]
    refine ⟨hy.1, hy.2.imp (fun h => hsub _ ?_) (fun h => hsub _ ?_)⟩ <;> rw [hd] <;> exact List.mem_cons_of_mem _ h
  · rw [hN]
    exact ⟨hne, .inr (hsub _ (by rw [hd]; exact List.mem_cons_self))⟩
theorem Reach.congr (h : ∀ x y, y ∈ N x ↔ y ∈ M x) {x : Int} (hr : Reach N a x) : Reach M a x := fun P h1 h2 => hr P h1 fun y z hy hz => h2 y z hy ((h y z).1 hz)
theorem IsFall.congr (h : ∀ x y, y ∈ N x ↔ y ∈ M x) {l : List Int} (hl : IsFall N a l) : IsFall M a l :=
  ⟨hl.1, fun x => by rw [hl.2]; exact and_congr_right fun _ => ⟨Reach.congr h, Reach.congr fun x y => (h x y).symm⟩⟩
theorem sortI_congr (h1 : (N a).Nodup) (h2 : (M a).Nodup) (h : ∀ y, y ∈ N a ↔ y ∈ M a) : sortI (N a) = sortI (M a) :=
  rising_unique (sortI_rising h1) (sortI_rising h2) fun x => by rw [mem_sortI, mem_sortI, h]
end
end Lnk
end Go.Proofs.Ytihpcaklknbjiaa
