/-
  Memory that is given up but read on: a piece that says of any world what it holds; lists of data built by appends.
-/
import Derived.Test.YtebolbjbfnolpabLib3
import Derived.Test.YtebolbjbfnolpabOpen
namespace Go.Proofs.Ytebolbjbfnolpab
open Go.RowKit HP

/-- Whatever world holds the piece, of that R is true. -/
def HP.Own (R : World → Prop) : HP := fun h => ∀ w : World, (∀ k o, h k = some o → w.heap[k]? = some o) → R w
section
variable {w0 w : World} {L : List HP} {R R' : World → Prop}
theorem At.own (h : At w0 w (HP.Own R :: L)) : R w := by
  obtain ⟨g, p, hh⟩ := h.piece
  exact p w (fun k o e => (hh k o e).2)
theorem At.own_imp (h : At w0 w (HP.Own R :: L)) (hr : ∀ w, R w → R' w) : At w0 w (HP.Own R' :: L) := h.imp fun _ p w hw => hr w (p w hw)
theorem At.own_emp (h : At w0 w L) (hr : ∀ w, R w) : At w0 w (HP.Own R :: L) := h.emp_mk.imp fun _ _ w _ => hr w
theorem At.own_join (h : At w0 w (HP.Own R :: HP.Own R' :: L)) : At w0 w (HP.Own (fun w => R w ∧ R' w) :: L) := by
  obtain ⟨hb, g, ⟨h1, h2, p, ⟨h3, h4, q, r, d2, u2⟩, d, u⟩, hh⟩ := h
  refine ⟨hb, g, ⟨fun k => (h1 k).or (h3 k), h4, fun w hw => ⟨p w fun k o e => hw k o (by simp [e]), q w fun k o e => hw k o ?_⟩, r, fun k => ?_, fun k => ?_⟩, hh⟩
  · rcases d k with z | z
    · simp [z, e]
    · rw [u2 k, e] at z; simp at z
  · rcases d2 k with z | z
    · rcases d k with y | y
      · left; simp [y, z]
      · right; rw [u2 k, z] at y; simpa using y
    · exact .inr z
  · rw [u k, u2 k]
    show _ = ((h1 k).or (h3 k)).or (h4 k)
    rw [Option.or_assoc]
theorem At.frag {P : HP} {h : Frag} {w : World} (p : P h) (hw : ∀ k o, h k = some o → w.heap[k]? = some o) : At { w with heap := #[] } w [P] :=
  ⟨⟨rfl, rfl, rfl, Nat.zero_le _, fun k hk => absurd hk (by simp)⟩, h, ⟨h, fun _ => none, p, fun _ => rfl, fun _ => .inr rfl, fun k => by simp⟩, fun k o e => ⟨Nat.zero_le _, hw k o e⟩⟩
variable {e size : Nat} {ao : Option Addr} {n cap : Nat} {xs : List Value}
theorem At.row_own (h : At w0 w (HP.row e size ao n cap xs :: L)) : At w0 w (HP.Own (fun w => Rd w ao xs) :: L) := h.imp fun _ p _ hw => (At.frag p hw).rd
theorem At.row_none2 (h : At w0 w (HP.row e size ao n cap xs :: L)) (ha : ao = none) : cap = 0 := by
  obtain ⟨g, ⟨h1, h2, h3, h4⟩, hh⟩ := h.piece
  rcases h4 with ⟨_, rfl, _⟩ | ⟨b, off, cur, hb, _⟩
  · rfl
  · rw [ha] at hb; cases hb

/-- two lists of one length whose parts agree -/
def All2 {α β : Type} (R : α → β → Prop) (l : List α) (vs : List β) : Prop := l.length = vs.length ∧ ∀ (i : Nat) (a : α) (v : β), l[i]? = some a → vs[i]? = some v → R a v
theorem All2.nil {α β : Type} (R : α → β → Prop) : All2 R [] [] := ⟨rfl, fun i a v h => by simp at h⟩
theorem All2.snoc {α β : Type} {R : α → β → Prop} {l : List α} {vs : List β} {a : α} {v : β} (h : All2 R l vs) (hr : R a v) : All2 R (l ++ [a]) (vs ++ [v]) := by
  obtain ⟨h1, h2⟩ := h
  refine ⟨by simp [h1], fun i b u hb hu => ?_⟩
  by_cases hi : i < l.length
  · rw [List.getElem?_append_left hi] at hb
    rw [List.getElem?_append_left (by omega)] at hu
    exact h2 i b u hb hu
  · rw [List.getElem?_append_right (by omega)] at hb
    rw [List.getElem?_append_right (by omega)] at hu
    have e1 : i - l.length = 0 := by
      have := (List.getElem?_eq_some_iff.1 hb).1
      simp at this; omega
    rw [e1] at hb
    rw [show i - vs.length = 0 by omega] at hu
    simp at hb hu
    subst hb hu; exact hr
theorem flatten_get {s : Nat} : ∀ (vs : List (List Value)), (∀ v ∈ vs, v.length = s) → ∀ (i : Nat) (v : List Value), vs[i]? = some v → ∀ (j : Nat) (u : Value), v[j]? = some u → vs.flatten[i * s + j]? = some u
  | [], _, i, v, h, _, _, _ => by simp at h
  | x :: vs, hv, 0, v, h, j, u, hu => by
    simp at h; subst h
    rw [List.flatten_cons, List.getElem?_append_left (by have := (List.getElem?_eq_some_iff.1 hu).1; omega)]
    simpa using hu
  | x :: vs, hv, i + 1, v, h, j, u, hu => by
    have hx := hv x (by simp)
    rw [List.flatten_cons, List.getElem?_append_right (by rw [hx, Nat.add_mul]; omega)]
    rw [show (i + 1) * s + j - x.length = i * s + j by rw [hx, Nat.add_mul]; omega]
    exact flatten_get vs (fun v hv' => hv v (by simp [hv'])) i v (by simpa using h) j u hu
theorem flatten_len {s : Nat} : ∀ (vs : List (List Value)), (∀ v ∈ vs, v.length = s) → vs.flatten.length = vs.length * s
  | [], _ => by simp
  | x :: vs, hv => by
    rw [List.flatten_cons, List.length_append, flatten_len vs (fun v hv' => hv v (by simp [hv'])), hv x (by simp), List.length_cons, Nat.add_mul]; omega

/-- a slice of data -/
def KSl {P : Program} {t : TypeId} {α : Type} (K : Kn P t α) (w : World) (l : List α) (ao : Option Addr) (n cap : Nat) : Prop := n = l.length ∧ l.length ≤ cap ∧ cap ≤ maxLen ∧ (ao = none → cap = 0) ∧ Kn.At_ K w ao l

theorem At.row_kn {P : Program} {t : TypeId} {α : Type} (K : Kn P t α) (hs : 0 < K.sz) {l : List α} {vs : List (List Value)} (h : At w0 w (HP.row e K.sz ao n cap vs.flatten :: HP.Own (fun w => All2 (K.R w) l vs) :: L)) :
    At w0 w (HP.Own (fun w => KSl K w l ao n cap) :: L) := by
  obtain ⟨l1, l2, l3⟩ := h.row_len
  have h0 := h.row_none2
  obtain ⟨a1, a2⟩ := h.pick2.own
  have hv : ∀ v ∈ vs, v.length = K.sz := by
    intro v hv
    obtain ⟨i, hi, rfl⟩ := List.mem_iff_getElem.1 hv
    exact K.len _ _ _ (a2 i (l[i]'(by omega)) vs[i] (List.getElem?_eq_getElem _) (List.getElem?_eq_getElem hi))
  have hn : n = l.length := by
    have := flatten_len vs hv
    rw [l1, ← a1] at this
    exact Nat.eq_of_mul_eq_mul_right hs this
  refine h.row_own.own_join.own_imp fun w' ⟨hrd, b1, b2⟩ => ⟨hn, by omega, l3, h0, ?_⟩
  by_cases hl : l = []
  · exact .inl hl
  · right
    have hlp : 0 < l.length := List.length_pos_iff.2 hl
    have hfl : 0 < vs.flatten.length := by rw [flatten_len vs hv, ← b1]; exact Nat.mul_pos hlp hs
    obtain ⟨b, off, rfl, hc⟩ := hrd.some_ hfl
    refine ⟨b, off, rfl, fun i a hi => ?_⟩
    have hi2 : i < vs.length := by have := (List.getElem?_eq_some_iff.1 hi).1; omega
    refine ⟨vs[i], b2 i a vs[i] hi (List.getElem?_eq_getElem hi2), fun j u hu => ?_⟩
    exact hc _ _ (flatten_get vs hv i vs[i] (List.getElem?_eq_getElem hi2) j u hu)
/-- one more element -/
theorem At.own_snoc {P : Program} {t : TypeId} {α : Type} (K : Kn P t α) {l : List α} {vs : List (List Value)} {a : α} {v : List Value} (h : At w0 w (HP.Own (fun w => All2 (K.R w) l vs) :: HP.Own (fun w => K.R w a v) :: L)) :
    At w0 w (HP.Own (fun w => All2 (K.R w) (l ++ [a]) (vs ++ [v])) :: L) := h.own_join.own_imp fun _ h => h.1.snoc h.2
theorem At.own_snoc' {P : Program} {t : TypeId} {α : Type} (K : Kn P t α) {l : List α} {vs : List (List Value)} {a : α} {v : List Value} (h : At w0 w (HP.Own (fun w => All2 (K.R w) l vs) :: L)) (hr : ∀ w, K.R w a v) :
    At w0 w (HP.Own (fun w => All2 (K.R w) (l ++ [a]) (vs ++ [v])) :: L) := h.own_imp fun w h => h.snoc (hr w)
end
end Go.Proofs.Ytebolbjbfnolpab
