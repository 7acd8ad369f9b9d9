/-
  A small separation logic over the model's heap, for this seat's proofs: what memory the call itself has made is told as a list of pieces that lie apart; what was there before the call is as it was.
-/
import Derived.WalkKit
import Derived.WalkLawsBesides
import Derived.WalkSpells
import Derived.Outline
import Derived.Lib.Hide
import Derived.Deep.Draws
import Derived.ArgAppend
import Derived.Handy
import Derived.Deep.AppendSrc
namespace Go.Proofs.Ytihpcaklknbjiaa
open Go.RowKit

/-- a string of these bytes -/
def str (l : List UInt8) : ByteArray := ⟨l.toArray⟩
theorem str_size (l : List UInt8) : (str l).size = l.length := rfl
theorem str_of (s : ByteArray) : str s.data.toList = s := rfl

/-- A part of the heap. -/
abbrev Frag := Nat → Option Obj
/-- What may be said of a part of the heap. -/
def HP := Frag → Prop

theorem ret_int {k : IntKind} {a b : Int} (h : a = b) : Ending.returned (.int k a) = .returned (.int k b) := by rw [h]
theorem ret_int2 {k k2 : IntKind} {a b a2 b2 : Int} (h : a = b) (h2 : a2 = b2) : Ending.returned (.tuple #[.int k a, .int k2 a2]) = .returned (.tuple #[.int k b, .int k2 b2]) := by rw [h, h2]
theorem ret_int3 {k k2 k3 : IntKind} {a b a2 b2 a3 b3 : Int} (h : a = b) (h2 : a2 = b2) (h3 : a3 = b3) : Ending.returned (.tuple #[.int k a, .int k2 a2, .int k3 a3]) = .returned (.tuple #[.int k b, .int k2 b2, .int k3 b3]) := by rw [h, h2, h3]
theorem ret_bool {a b : Bool} (h : a = b) : Ending.returned (.bool a) = .returned (.bool b) := by rw [h]

namespace HP
def emp : HP := fun h => ∀ k, h k = none
def star (P Q : HP) : HP := fun h => ∃ h1 h2 : Frag, P h1 ∧ Q h2 ∧ (∀ k, h1 k = none ∨ h2 k = none) ∧ ∀ k, h k = (h1 k).or (h2 k)
def sep : List HP → HP
  | [] => emp
  | P :: L => star P (sep L)
def one (b : Nat) (o : Obj) : HP := fun h => h b = some o ∧ ∀ k, k ≠ b → h k = none
def ex {α : Sort _} (P : α → HP) : HP := fun h => ∃ x, P x h
def pr (p : Prop) (P : HP) : HP := fun h => p ∧ P h

theorem star_comm {P Q : HP} {h : Frag} (H : star P Q h) : star Q P h := by
  obtain ⟨h1, h2, p, q, d, u⟩ := H
  refine ⟨h2, h1, q, p, fun k => (d k).symm, fun k => ?_⟩
  rw [u k]
  rcases d k with e | e <;> simp [e]

theorem star_assoc {P Q R : HP} {h : Frag} (H : star P (star Q R) h) : star (star P Q) R h := by
  obtain ⟨h1, h23, p, ⟨h2, h3, q, r, d', u'⟩, d, u⟩ := H
  refine ⟨fun k => (h1 k).or (h2 k), h3, ⟨h1, h2, p, q, fun k => ?_, fun _ => rfl⟩, r, fun k => ?_, fun k => ?_⟩
  · rcases d k with e | e
    · exact .inl e
    · rw [u' k] at e; exact .inr (by cases hh : h2 k <;> simp_all)
  · rcases d' k with e | e
    · rcases d k with e' | e'
      · left; simp [e, e']
      · right; rw [u' k, e] at e'; simpa using e'
    · exact .inr e
  · rw [u k, u' k, Option.or_assoc]

theorem star_assoc' {P Q R : HP} {h : Frag} (H : star (star P Q) R h) : star P (star Q R) h :=
  star_comm (star_assoc (star_comm (star_assoc (star_comm H))))

theorem star_mono {P P' Q Q' : HP} {h : Frag} (H : star P Q h) (hp : ∀ h, P h → P' h) (hq : ∀ h, Q h → Q' h) : star P' Q' h :=
  let ⟨h1, h2, p, q, r⟩ := H; ⟨h1, h2, hp _ p, hq _ q, r⟩

theorem sep_perm {L L' : List HP} (p : L.Perm L') : ∀ h, sep L h → sep L' h := by
  induction p with
  | nil => exact fun _ h => h
  | cons x _ ih => exact fun h H => star_mono H (fun _ h => h) ih
  | swap x y l => exact fun h H => star_assoc' (star_mono (star_assoc H) (fun _ h => star_comm h) (fun _ h => h))
  | trans _ _ ih1 ih2 => exact fun h H => ih2 h (ih1 h H)

theorem emp_star {P : HP} {h : Frag} (H : star emp P h) : P h := by
  obtain ⟨h1, h2, p, q, d, u⟩ := H
  have : h = h2 := funext fun k => by rw [u k, p k]; simp
  rw [this]; exact q

theorem star_emp {P : HP} {h : Frag} (H : P h) : star emp P h :=
  ⟨fun _ => none, h, fun _ => rfl, H, fun _ => .inl rfl, fun k => by simp⟩

theorem sep_append {L : List HP} : ∀ {M : List HP} {h : Frag}, sep (M ++ L) h → star (sep M) (sep L) h
  | [], _, H => star_emp H
  | _ :: M, _, H => star_assoc (star_mono H (fun _ h => h) (fun _ h => sep_append (M := M) h))

theorem append_sep {L : List HP} : ∀ {M : List HP} {h : Frag}, star (sep M) (sep L) h → sep (M ++ L) h
  | [], _, H => emp_star H
  | _ :: M, _, H => star_mono (star_assoc' H) (fun _ h => h) (fun _ h => append_sep (M := M) h)
end HP
open HP

/-- The world w, come out of w0: all that lay in w0 lies as it lay; what has been made since holds the pieces of L, which lie apart. -/
structure At (w0 w : World) (L : List HP) : Prop where
  below : Below w0.heap.size w0 w
  held : ∃ h, sep L h ∧ ∀ k o, h k = some o → w0.heap.size ≤ k ∧ w.heap[k]? = some o

section
variable {w0 w : World} {L : List HP} {P Q : HP}

theorem At.start (w : World) : At w w [] := ⟨Below.refl _ _, fun _ => none, fun _ => rfl, fun _ _ h => by cases h⟩
theorem At.mono {L' : List HP} (h : At w0 w L) (hl : ∀ h, sep L h → sep L' h) : At w0 w L' :=
  ⟨h.below, let ⟨g, hg, hh⟩ := h.held; ⟨g, hl g hg, hh⟩⟩
theorem At.perm {L' : List HP} (h : At w0 w L) (p : L.Perm L') : At w0 w L' := h.mono (sep_perm p)
theorem At.drop (h : At w0 w (P :: L)) : At w0 w L := by
  obtain ⟨hb, g, ⟨h1, h2, _, q, d, u⟩, hh⟩ := h
  refine ⟨hb, h2, q, fun k o e => hh k o ?_⟩
  rw [u k]
  rcases d k with z | z
  · simp [z, e]
  · rw [z] at e; cases e
theorem At.imp {P' : HP} (h : At w0 w (P :: L)) (hp : ∀ h, P h → P' h) : At w0 w (P' :: L) := h.mono fun _ H => star_mono H hp (fun _ h => h)
theorem At.ex {α : Sort _} {P : α → HP} (h : At w0 w (HP.ex P :: L)) : ∃ x, At w0 w (P x :: L) := by
  obtain ⟨hb, g, ⟨h1, h2, ⟨x, p⟩, r⟩, hh⟩ := h
  exact ⟨x, hb, g, ⟨h1, h2, p, r⟩, hh⟩
theorem At.ex_mk {α : Sort _} {P : α → HP} (x : α) (h : At w0 w (P x :: L)) : At w0 w (HP.ex P :: L) := h.imp fun _ p => ⟨x, p⟩
theorem At.pr {p : Prop} (h : At w0 w (HP.pr p P :: L)) : p ∧ At w0 w (P :: L) := by
  obtain ⟨hb, g, ⟨h1, h2, ⟨x, p⟩, r⟩, hh⟩ := h
  exact ⟨x, hb, g, ⟨h1, h2, p, r⟩, hh⟩
theorem At.pr_mk {p : Prop} (hp : p) (h : At w0 w (P :: L)) : At w0 w (HP.pr p P :: L) := h.imp fun _ h => ⟨hp, h⟩
theorem At.sep {M : List HP} (h : At w0 w (HP.sep M :: L)) : At w0 w (M ++ L) := h.mono fun _ H => append_sep H
theorem At.sep_mk {M : List HP} (h : At w0 w (M ++ L)) : At w0 w (HP.sep M :: L) := h.mono fun _ H => sep_append H
/-- what a piece says of the world -/
theorem At.piece (h : At w0 w (P :: L)) : ∃ g, P g ∧ ∀ k o, g k = some o → w0.heap.size ≤ k ∧ w.heap[k]? = some o := by
  obtain ⟨hb, g, ⟨h1, h2, p, _, d, u⟩, hh⟩ := h
  exact ⟨h1, p, fun k o e => hh k o (by rw [u k, e]; simp)⟩
theorem At.blk {b : Nat} {o : Obj} (h : At w0 w (HP.one b o :: L)) : w.heap[b]? = some o := by
  obtain ⟨g, ⟨p, _⟩, hh⟩ := h.piece
  exact (hh b o p).2
theorem At.new {b : Nat} {o : Obj} (h : At w0 w (HP.one b o :: L)) : w0.heap.size ≤ b := by
  obtain ⟨g, ⟨p, _⟩, hh⟩ := h.piece
  exact (hh b o p).1
theorem At.lt {b : Nat} {o : Obj} (h : At w0 w (HP.one b o :: L)) : b < w.heap.size := (Array.getElem?_eq_some_iff.1 h.blk).1
theorem At.ne {b b' : Nat} {o o' : Obj} (h : At w0 w (HP.one b o :: HP.one b' o' :: L)) : b ≠ b' := by
  obtain ⟨hb, g, ⟨h1, h2, ⟨p, _⟩, ⟨h3, h4, ⟨p', _⟩, _, d', u'⟩, d, u⟩, hh⟩ := h
  rintro rfl
  rcases d b with e | e
  · rw [p] at e; cases e
  · rw [u' b, p'] at e; cases e

/-- THE STEP: one piece becomes another one; what the others hold stays. -/
theorem At.step {P' : HP} {w' : World} (h : At w0 w (P :: L)) (hb : Below w0.heap.size w w')
    (hk : ∀ h1 h2 : Frag, P h1 → HP.sep L h2 → (∀ k, h1 k = none ∨ h2 k = none) → (∀ k o, h1 k = some o → w0.heap.size ≤ k ∧ w.heap[k]? = some o) → (∀ k o, h2 k = some o → w0.heap.size ≤ k ∧ w.heap[k]? = some o) →
      ∃ h1' : Frag, P' h1' ∧ (∀ k o, h1' k = some o → w0.heap.size ≤ k ∧ w'.heap[k]? = some o) ∧ (∀ k, h1' k = none ∨ h2 k = none) ∧ ∀ k o, h2 k = some o → w'.heap[k]? = some o) : At w0 w' (P' :: L) := by
  obtain ⟨hb0, g, ⟨h1, h2, p, q, d, u⟩, hh⟩ := h
  have hh1 : ∀ k o, h1 k = some o → w0.heap.size ≤ k ∧ w.heap[k]? = some o := fun k o e => hh k o (by rw [u k, e]; simp)
  have hh2 : ∀ k o, h2 k = some o → w0.heap.size ≤ k ∧ w.heap[k]? = some o := fun k o e => hh k o (by
    rw [u k]
    rcases d k with z | z
    · simp [z, e]
    · rw [z] at e; cases e)
  obtain ⟨h1', p', a, d', c⟩ := hk h1 h2 p q d hh1 hh2
  refine ⟨hb0.trans hb, fun k => (h1' k).or (h2 k), ⟨h1', h2, p', q, d', fun _ => rfl⟩, fun k o e => ?_⟩
  cases z : h1' k with
  | some o' => simp [z] at e; subst e; exact a k _ z
  | none => simp [z] at e; exact ⟨(hh2 k o e).1, c k o e⟩

theorem At.emp_mk (h : At w0 w L) : At w0 w (HP.emp :: L) := h.mono fun _ H => star_emp H

/-- A new block. -/
theorem At.alloc (h : At w0 w L) (o : Obj) : At w0 (w.alloc o) (HP.one w.heap.size o :: L) := by
  refine h.emp_mk.step ((Below.refl _ _).alloc h.below.size o) fun h1 h2 _ _ _ _ hh2 => ?_
  have hlt : ∀ k o, h2 k = some o → k < w.heap.size := fun k o e => (Array.getElem?_eq_some_iff.1 (hh2 k o e).2).1
  refine ⟨fun k => if k = w.heap.size then some o else none, ⟨by simp, fun k hk => by simp [hk]⟩, fun k o' e => ?_, fun k => ?_, fun k o' e => ?_⟩
  · by_cases hk : k = w.heap.size
    · subst hk
      simp at e; subst e
      exact ⟨h.below.size, heap_alloc_new w o⟩
    · simp [hk] at e
  · by_cases hk : k = w.heap.size
    · right
      cases z : h2 k with
      | none => rfl
      | some o' => have := hlt k o' z; omega
    · simp [hk]
  · rw [Below.heap_alloc w o k (hlt k o' e)]; exact (hh2 k o' e).2

theorem At.drew (h : At w0 w L) : At w0 w.drew L := ⟨h.below.drew, h.held⟩
theorem At.drewN (h : At w0 w L) (n : Nat) : At w0 (w.drewN n) L := ⟨⟨h.below.os, h.below.tape, h.below.output, h.below.size, h.below.block⟩, h.held⟩

/-- A block of the call's own is changed, whatever becomes of it. -/
theorem At.put {b : Nat} {o o' : Obj} {w' : World} (h : At w0 w (HP.one b o :: L)) (hos : w'.os = w.os) (ht : w'.tape = w.tape) (hout : w'.output = w.output) (hsz : w.heap.size ≤ w'.heap.size)
    (hb : w'.heap[b]? = some o') (hk : ∀ k, k ≠ b → k < w.heap.size → w'.heap[k]? = w.heap[k]?) : At w0 w' (HP.one b o' :: L) := by
  have hnew := h.new
  refine h.step ⟨hos, ht, hout, hsz, fun k hk' => hk k (by omega) (by have := h.below.size; omega)⟩ fun h1 h2 p _ d hh1 hh2 => ?_
  refine ⟨fun k => if k = b then some o' else none, ⟨by simp, fun k hk => by simp [hk]⟩, fun k x e => ?_, fun k => ?_, fun k x e => ?_⟩
  · by_cases hkb : k = b
    · subst hkb; simp at e; subst e; exact ⟨hnew, hb⟩
    · simp [hkb] at e
  · by_cases hkb : k = b
    · subst hkb
      rcases d k with e | e
      · rw [p.1] at e; cases e
      · exact .inr e
    · simp [hkb]
  · have hne : k ≠ b := by
      rintro rfl
      rcases d k with z | z
      · rw [p.1] at z; cases z
      · rw [z] at e; cases e
    rw [hk k hne (Array.getElem?_eq_some_iff.1 (hh2 k x e).2).1]
    exact (hh2 k x e).2

theorem At.setCell {b : Nat} {cs : Array Value} {T : TypeId} (h : At w0 w (HP.one b (.cells cs T (0, 0)) :: L)) (i : Nat) (v : Value) :
    At w0 (w.setCell ⟨b, i, none⟩ v) (HP.one b (.cells (cs.setIfInBounds i v) T (0, 0)) :: L) := by
  refine h.put rfl rfl rfl (by simp) ?_ fun k hk _ => Below.heap_setCell w _ v k hk
  have := h.blk
  simp [World.setCell, Array.getElem?_modify, this]

theorem At.cell {b : Nat} {cs : Array Value} {T : TypeId} (h : At w0 w (HP.one b (.cells cs T (0, 0)) :: L)) (i : Nat) : w.cell? ⟨b, i, none⟩ = cs[i]? := by
  simp [World.cell?, h.blk]
theorem At.free {b : Nat} {cs : Array Value} {T : TypeId} (h : At w0 w (HP.one b (.cells cs T (0, 0)) :: L)) (i : Nat) : w.frozen? ⟨b, i, none⟩ = false := by
  simp [World.frozen?, h.blk]

/-- what lay before -/
theorem At.oldCell (h : At w0 w L) {a : Addr} {v : Value} (hc : w0.cell? a = some v) : w.cell? a = some v :=
  (h.below.cell (World.block_lt_of_cell? w0 a hc)).trans hc
theorem At.pick2 {A B : HP} (h : At w0 w (A :: B :: L)) : At w0 w (B :: A :: L) := h.perm (.swap _ _ _)
theorem At.pick2' {A B : HP} (h : At w0 w (A :: L)) (f : At w0 w (A :: L) → At w0 w (B :: A :: L)) : At w0 w (A :: B :: L) := (f h).pick2
theorem At.pick3 {A B C : HP} (h : At w0 w (A :: B :: C :: L)) : At w0 w (C :: A :: B :: L) :=
  h.perm ((List.Perm.cons A (.swap _ _ _)).trans (.swap _ _ _))
theorem At.unpick3 {A B C : HP} (h : At w0 w (C :: A :: B :: L)) : At w0 w (A :: B :: C :: L) :=
  h.perm ((List.Perm.swap _ _ _).trans (List.Perm.cons A (.swap _ _ _)))
end

/-- A slice's cells can be read. -/
def Rd (w : World) (ao : Option Addr) (xs : List Value) : Prop := xs = [] ∨ ∃ b off, ao = some ⟨b, off, none⟩ ∧ ∀ j u, xs[j]? = some u → w.cell? ⟨b, off + j, none⟩ = some u
theorem Rd.nil (w : World) (ao : Option Addr) : Rd w ao [] := .inl rfl
theorem Rd.some_ {w : World} {ao : Option Addr} {xs : List Value} (h : Rd w ao xs) (h0 : 0 < xs.length) : ∃ b off, ao = some ⟨b, off, none⟩ ∧ ∀ j u, xs[j]? = some u → w.cell? ⟨b, off + j, none⟩ = some u := by
  rcases h with rfl | h
  · simp at h0
  · exact h
theorem Rd.at_ {w : World} {b off : Nat} {xs : List Value} (h : Rd w (some ⟨b, off, none⟩) xs) (j : Nat) (u : Value) (hj : xs[j]? = some u) : w.cell? ⟨b, off + j, none⟩ = some u := by
  rcases h with rfl | ⟨b', off', e, h⟩
  · simp at hj
  · cases e; exact h j u hj
theorem Rd.add_ {w : World} {ad : Addr} {xs : List Value} (h : Rd w (some ad) xs) (j : Nat) (u : Value) (hj : xs[j]? = some u) : w.cell? (ad.add j) = some u := by
  rcases h with rfl | ⟨b', off', e, h⟩
  · simp at hj
  · cases e; rw [Addr.add_lit]; exact h j u hj
theorem Rd.old {w0 w : World} {L : List HP} {ao : Option Addr} {xs : List Value} (h : Rd w0 ao xs) (hA : At w0 w L) : Rd w ao xs := by
  rcases h with rfl | ⟨b, off, e, h⟩
  · exact .inl rfl
  · exact .inr ⟨b, off, e, fun j u hj => hA.oldCell (h j u hj)⟩
theorem Rd.one (w : World) (v : Value) (T : TypeId) : Rd (w.alloc (.cells #[v] T)) (some ⟨w.heap.size, 0, none⟩) [v] := by
  refine .inr ⟨_, _, rfl, fun j u hj => ?_⟩
  match j, hj with
  | 0, hj => simp at hj; subst hj; simp
/-- a new block whose cells are written out -/
theorem Rd.new (w : World) (vs : Array Value) (T : TypeId) : Rd (w.alloc (.cells vs T)) (some ⟨w.heap.size, 0, none⟩) vs.toList := by
  refine .inr ⟨_, _, rfl, fun j u hj => ?_⟩
  simpa using hj

namespace HP
/-- A slice of the call's own: n elements of 'size' cells each of type e, whose cells are xs; room for cap. -/
def row (e : TypeId) (size : Nat) (ao : Option Addr) (n cap : Nat) (xs : List Value) : HP := fun h =>
  xs.length = n * size ∧ n ≤ cap ∧ cap ≤ maxLen ∧
    ((ao = none ∧ cap = 0 ∧ HP.emp h) ∨
      ∃ g off cur, ao = some ⟨g, off, none⟩ ∧ HP.one g (.cells cur e (0, 0)) h ∧ off + cap * size ≤ cur.size ∧ (cur.toList.drop off).take (n * size) = xs)
end HP

section
variable {w0 w : World} {L : List HP} {e size : Nat} {ao : Option Addr} {n cap : Nat} {xs : List Value}

theorem At.row_len (h : At w0 w (HP.row e size ao n cap xs :: L)) : xs.length = n * size ∧ n ≤ cap ∧ cap ≤ maxLen := by
  obtain ⟨g, ⟨h1, h2, h3, _⟩, _⟩ := h.piece
  exact ⟨h1, h2, h3⟩
theorem At.row_nil (h : At w0 w L) (e size : Nat) : At w0 w (HP.row e size none 0 0 [] :: L) :=
  h.emp_mk.imp fun _ p => ⟨by simp, Nat.le_refl _, by simp [maxLen], .inl ⟨rfl, rfl, p⟩⟩

theorem At.rd (h : At w0 w (HP.row e size ao n cap xs :: L)) : Rd w ao xs := by
  obtain ⟨g, ⟨h1, h2, h3, h4⟩, hh⟩ := h.piece
  rcases h4 with ⟨rfl, rfl, _⟩ | ⟨b, off, cur, rfl, ⟨hb, _⟩, hsz, htk⟩
  · have : n = 0 := by omega
    subst this
    exact .inl (List.eq_nil_of_length_eq_zero (by simpa using h1))
  · refine .inr ⟨b, off, rfl, fun j u hj => ?_⟩
    have := (hh b _ hb).2
    simp only [World.cell?, this]
    rw [← htk, List.getElem?_take] at hj
    split at hj
    · simpa using hj
    · cases hj

theorem At.row_none (h : At w0 w (HP.row e size ao n cap xs :: L)) (ha : ao = none) : n = 0 ∧ xs = [] := by
  obtain ⟨g, ⟨h1, h2, h3, h4⟩, hh⟩ := h.piece
  rcases h4 with ⟨_, rfl, _⟩ | ⟨b, off, cur, hb, _⟩
  · have : n = 0 := by omega
    subst this
    exact ⟨rfl, List.eq_nil_of_length_eq_zero (by simpa using h1)⟩
  · rw [ha] at hb; cases hb

theorem At.row_some (h : At w0 w (HP.row e size ao n cap xs :: L)) (h0 : 0 < xs.length) : ∃ g off, ao = some ⟨g, off, none⟩ := by
  obtain ⟨b, off, e, _⟩ := h.rd.some_ h0
  exact ⟨b, off, e⟩
theorem At.row_free {g off : Nat} (h : At w0 w (HP.row e size (some ⟨g, off, none⟩) n cap xs :: L)) (i : Nat) : w.frozen? ⟨g, i, none⟩ = false := by
  obtain ⟨f, ⟨h1, h2, h3, h4⟩, hh⟩ := h.piece
  rcases h4 with ⟨z, _⟩ | ⟨b, o, cur, hb, ⟨hg, _⟩, _⟩
  · cases z
  · injection hb with hb; injection hb with e1 e2; subst e1
    simp [World.frozen?, (hh g _ hg).2]
theorem At.row_new {g off : Nat} (h : At w0 w (HP.row e size (some ⟨g, off, none⟩) n cap xs :: L)) : w0.heap.size ≤ g ∧ g < w.heap.size := by
  obtain ⟨f, ⟨h1, h2, h3, h4⟩, hh⟩ := h.piece
  rcases h4 with ⟨z, _⟩ | ⟨b, o, cur, hb, ⟨hg, _⟩, _⟩
  · cases z
  · injection hb with hb; injection hb with e1 e2; subst e1
    exact ⟨(hh g _ hg).1, (Array.getElem?_eq_some_iff.1 (hh g _ hg).2).1⟩
/-- 'xs[i] = v' -/
theorem At.row_set {g off : Nat} (h : At w0 w (HP.row e size (some ⟨g, off, none⟩) n cap xs :: L)) (i : Nat) (hi : i < xs.length) (v : Value) :
    At w0 (w.setCell ⟨g, off + i, none⟩ v) (HP.row e size (some ⟨g, off, none⟩) n cap (xs.set i v) :: L) := by
  refine h.step ((Below.refl _ _).setCell (h.row_new).1 v) fun h1 h2 p _ d hh1 hh2 => ?_
  obtain ⟨p1, p2, p3, p4⟩ := p
  rcases p4 with ⟨z, _⟩ | ⟨b, o, cur, hb, ⟨hg1, hg2⟩, hsz, htk⟩
  · cases z
  injection hb with hb; injection hb with e1 e2; subst e1; subst e2
  have hlen : n * size ≤ cap * size := Nat.mul_le_mul_right _ p2
  refine ⟨fun k => if k = g then some (.cells (cur.setIfInBounds (off + i) v) e (0, 0)) else none, ⟨by simpa using p1, p2, p3, .inr ⟨g, off, cur.setIfInBounds (off + i) v, rfl, ⟨by simp, fun k hk => by simp [hk]⟩, by simpa using hsz, ?_⟩⟩, fun k o' e' => ?_, fun k => ?_, fun k o' e' => ?_⟩
  · rw [← htk]
    apply List.ext_getElem?
    intro j
    simp only [Array.toList_setIfInBounds]
    grind
  · by_cases hkg : k = g
    · subst hkg
      simp at e'; subst e'
      refine ⟨(hh1 k _ hg1).1, ?_⟩
      have := (hh1 k _ hg1).2
      simp [World.setCell, Array.getElem?_modify, this]
    · simp [hkg] at e'
  · by_cases hkg : k = g
    · subst hkg
      rcases d k with z | z
      · rw [hg1] at z; cases z
      · exact .inr z
    · simp [hkg]
  · have hkg : k ≠ g := by
      rintro rfl
      rcases d k with z | z
      · rw [hg1] at z; cases z
      · rw [z] at e'; cases e'
    rw [Below.heap_setCell w _ v k hkg]; exact (hh2 k o' e').2

/-- a block of one cell can be read -/
theorem At.rd1 {b : Nat} {v : Value} {T : TypeId} (h : At w0 w (HP.one b (.cells #[v] T (0, 0)) :: L)) : Rd w (some ⟨b, 0, none⟩) [v] := by
  refine .inr ⟨b, 0, rfl, fun j u hj => ?_⟩
  match j, hj with
  | 0, hj => simp at hj; subst hj; exact h.cell 0

/-- a whole new block as a row -/
theorem At.row_of_one {b : Nat} {cur : Array Value} (h : At w0 w (HP.one b (.cells cur e (0, 0)) :: L)) (n cap : Nat) (hn : n ≤ cap) (hc : cap ≤ maxLen) (hs : cur.size = cap * size) :
    At w0 w (HP.row e size (some ⟨b, 0, none⟩) n cap (cur.toList.take (n * size)) :: L) :=
  h.imp fun _ p => ⟨by
    have : n * size ≤ cap * size := Nat.mul_le_mul_right _ hn
    simp; omega, hn, hc, .inr ⟨b, 0, cur, rfl, p, by omega, by simp⟩⟩
end

theorem setCells_size (b : Nat) : ∀ (vs : List Value) (o : Nat) (w : World), (w.setCells b o vs).heap.size = w.heap.size
  | [], _, _ => rfl
  | v :: r, o, w => by rw [World.setCells, setCells_size b r]; simp
theorem setCells_other (b : Nat) (k : Nat) (hk : k ≠ b) : ∀ (vs : List Value) (o : Nat) (w : World), (w.setCells b o vs).heap[k]? = w.heap[k]?
  | [], _, _ => rfl
  | v :: r, o, w => by rw [World.setCells, setCells_other b k hk r]; exact Below.heap_setCell w _ v k hk
theorem setCells_rest (b : Nat) : ∀ (vs : List Value) (o : Nat) (w : World), (w.setCells b o vs).os = w.os ∧ (w.setCells b o vs).tape = w.tape ∧ (w.setCells b o vs).output = w.output
  | [], _, _ => ⟨rfl, rfl, rfl⟩
  | v :: r, o, w => by rw [World.setCells]; exact setCells_rest b r _ _
/-- what the block holds behind the stores -/
theorem setCells_blk (b : Nat) (T : TypeId) (f : Nat × Nat) : ∀ (vs : List Value) (o : Nat) (w : World) (cs : Array Value), w.heap[b]? = some (.cells cs T f) → o + vs.length ≤ cs.size →
    ∃ cs' : Array Value, (w.setCells b o vs).heap[b]? = some (.cells cs' T f) ∧ cs'.toList = cs.toList.take o ++ vs ++ cs.toList.drop (o + vs.length)
  | [], o, w, cs, h, _ => ⟨cs, h, by simp⟩
  | v :: r, o, w, cs, h, hl => by
    have h' : (w.setCell ⟨b, o, none⟩ v).heap[b]? = some (.cells (cs.setIfInBounds o v) T f) := by simp [World.setCell, Array.getElem?_modify, h]
    simp only [List.length_cons] at hl
    obtain ⟨cs', h1, h2⟩ := setCells_blk b T f r (o + 1) _ _ h' (by simp; omega)
    refine ⟨cs', h1, ?_⟩
    rw [h2]
    apply List.ext_getElem?
    intro j
    simp only [Array.toList_setIfInBounds, List.length_cons]
    grind

section
variable {P : Program} {w0 w : World} {L : List HP} {e size : Nat} {ao : Option Addr} {n cap : Nat} {xs : List Value}

/-- what can be read can be appended -/
theorem src_of_rd {tx e' : TypeId} (hk : P.underlying tx = some (.slice e')) (m c : Nat) {aox : Option Addr} {news : List Value} (hl : news.length = m * size) (hsz : 0 < size) (hrd : Rd w aox news) (h1 : ∀ u ∈ news, u.oneCell' = true) :
    Src P size tx (.slice aox m c) m news w := by
  cases aox with
  | some ad => exact Src.ofSlice w hk ad m c news hl hrd.add_ h1
  | none =>
    have hn : news = [] := by
      rcases hrd with h | ⟨_, _, h, _⟩
      · exact h
      · cases h
    subst hn
    have : m = 0 := by
      rcases Nat.eq_zero_or_pos m with h | h
      · exact h
      · have := Nat.mul_pos h hsz; simp at hl; omega
    subst this
    exact Src.ofNil w hk c

theorem run_append_row (t tx ty : TypeId) (i : TypeInfo) (z : Value) (bytes : Nat) (ht : P.underlying t = some (.slice e)) (hi : P.info? e = some i) (hz : i.zero = some z)
    (hsize : i.size = size) (hby : i.bytes = bytes) (hzs : z.cells.size = size) (hA : At w0 w (HP.row e size ao n cap xs :: L))
    (x : Value) (m : Nat) (news : List Value) (hs : Src P size tx x m news w)
    (h63 : n + m ≤ maxLen) (hbytes : (n + m) * bytes ≤ 140737488355328) :
    ∃ ao' cap' w', (Builtin.append_ #[t, tx] ty #[.slice ao n cap, x]).run P w = .ok (.slice ao' (n + m) cap') w' ∧ At w0 w' (HP.row e size ao' (n + m) cap' (xs ++ news) :: L) := by
  obtain ⟨hxl, hnc, hcm⟩ := hA.row_len
  have hxs := hA.rd
  have hl := hs.newsLen
  by_cases hm : m = 0 ∧ ao = none
  · obtain ⟨rfl, rfl⟩ := hm
    have : news = [] := List.eq_nil_of_length_eq_zero (by simpa using hl)
    subst this
    refine ⟨none, cap, w, ?_, by simpa using hA⟩
    rcases hs.kind with ⟨e', hk⟩ | hk <;> simp [Builtin.append_, run_underlying ht, run_underlying hk, sizeOf, typeInfo, hi, hs.len, hnc, hsize, hs.cells]
  have h63' : n + m ≤ 9223372036854775807 := by simp only [maxLen] at h63; omega
  by_cases hroom : n + m ≤ cap
  · -- there is room
    obtain ⟨g0, ⟨_, _, _, hrow⟩, hh⟩ := hA.piece
    rcases hrow with ⟨rfl, rfl, _⟩ | ⟨g, off, cur, rfl, ⟨hg, hg'⟩, hcs, htk⟩
    · have : m = 0 := by omega
      exact absurd ⟨this, rfl⟩ hm
    have hgw := (hh g _ hg).2
    have hfit : off + n * size + news.length ≤ cur.size := by
      have : (n + m) * size ≤ cap * size := Nat.mul_le_mul_right _ hroom
      rw [Nat.add_mul] at this; omega
    have hr := run_append_room_src (P := P) w t tx ty e i ht hi g off n cap x m news (by rw [hsize]; exact hs) hroom
      (fun j hj => by rw [hsize]; simp [World.cell?, hgw]; omega)
      (fun j hj => by simp [World.frozen?, hgw])
    rw [hsize] at hr
    refine ⟨_, _, _, hr, ?_⟩
    obtain ⟨cs', hb', htl⟩ := setCells_blk g e (0, 0) news (off + n * size) w cur hgw hfit
    refine hA.step ⟨(setCells_rest _ _ _ _).1, (setCells_rest _ _ _ _).2.1, (setCells_rest _ _ _ _).2.2, by rw [setCells_size]; exact Nat.le_refl _, fun k hk => setCells_other g k (by have := (hh g _ hg).1; omega) _ _ _⟩ fun h1 h2 p _ d hh1 hh2 => ?_
    obtain ⟨_, _, _, p4⟩ := p
    rcases p4 with ⟨z, _⟩ | ⟨g', off', cur', hao, ⟨hg1, hg2⟩, _, _⟩
    · cases z
    injection hao with hao; injection hao with e1 e2; subst e1; subst e2
    refine ⟨fun k => if k = g then some (.cells cs' e (0, 0)) else none, ⟨?_, hroom, hcm, .inr ⟨g, off, cs', rfl, ⟨by simp, fun k hk => by simp [hk]⟩, ?_, ?_⟩⟩, fun k o' e' => ?_, fun k => ?_, fun k o' e' => ?_⟩
    · rw [List.length_append, hxl, hl, Nat.add_mul]
    · have : cs'.size = cur.size := by rw [← Array.length_toList, htl]; simp; omega
      omega
    · rw [htl, ← htk]
      have hlen : off + n * size ≤ cur.toList.length := by simp; omega
      have hnm : (n + m) * size = n * size + news.length := by rw [Nat.add_mul, hl]
      apply List.ext_getElem?
      intro j
      grind
    · by_cases hkg : k = g
      · subst hkg; simp at e'; subst e'; exact ⟨(hh k _ hg).1, hb'⟩
      · simp [hkg] at e'
    · by_cases hkg : k = g
      · subst hkg
        rcases d k with z | z
        · rw [hg1] at z; cases z
        · exact .inr z
      · simp [hkg]
    · have hkg : k ≠ g := by
        rintro rfl
        rcases d k with z | z
        · rw [hg1] at z; cases z
        · rw [z] at e'; cases e'
      rw [setCells_other g k hkg]; exact (hh2 k o' e').2
  · -- it grows
    have hold : (Builtin.firstCells i.size n (.slice ao n cap)).run P w.drew = .ok xs.toArray w.drew := by
      cases ao with
      | none =>
        obtain ⟨rfl, rfl⟩ := hA.row_none rfl
        exact run_firstCells_none w.drew i.size 0 0 cap
      | some ad => exact run_firstCells_some w.drew i.size n ad n cap xs (by rw [hxl, hsize]) (by simpa using hxs.add_)
    have hr := run_append_grow_src (P := P) w t tx ty e i z ht hi hz ao n cap xs hold x m news (by rw [hsize]; exact hs) (by omega) (by omega) (growslice_fits (by omega) (by rw [hby]; exact hbytes))
    refine ⟨_, _, _, hr, ?_⟩
    have hge := grownCap_ge w (n + m) cap e
    have hcm' : grownCap w (n + m) cap e ≤ maxLen := grownCap_le_maxLen w (n + m) cap e h63
    have := (hA.drop.drew.alloc (.cells ((xs ++ news).toArray ++ Builtin.zeroCells z.cells (grownCap w (n + m) cap e - (n + m))) e)).row_of_one (e := e) (size := size) (n + m) (grownCap w (n + m) cap e) hge hcm' (by
      simp only [Array.size_append, List.size_toArray, size_zeroCells, hzs, List.length_append, hxl, hl, ← Nat.add_mul]
      congr 1
      omega)
    have ht' : (((xs ++ news).toArray ++ Builtin.zeroCells z.cells (grownCap w (n + m) cap e - (n + m))).toList.take ((n + m) * size)) = xs ++ news := by
      simp only [Array.toList_append]
      rw [List.take_left' (by rw [List.length_append, hxl, hl, Nat.add_mul])]
    rw [ht'] at this
    exact this

/-- 'out = append(out, ..)' at a slice of the call's own. -/
theorem wpList_append_src {ops : Array Oper} {rest : List Oper} {o : Oper} {a : Act} {Q : Exit → Act → World → Prop} (hgd : o.guard = none) (s x : Operand) (t tx : TypeId)
    (ho : o.op = .call { callee := .builtin .append, args := #[s, x], argTypes := #[t, tx] })
    (z : Value) (bytes : Nat) (ht : P.underlying t = some (.slice e)) (hinfo : (P.info? e).map (fun i => (i.zero, i.size, i.bytes)) = some (some z, size, bytes)) (hzs : z.cells.size = size)
    (hA : At w0 w (HP.row e size ao n cap xs :: L)) (hs : a.eval s = .slice ao n cap)
    (vx : Value) (m : Nat) (news : List Value) (hx : a.eval x = vx) (hsrc : Src P size tx vx m news w)
    (h63 : n + m ≤ maxLen) (hbytes : (n + m) * bytes ≤ 140737488355328)
    (h : ∀ ao' cap' w', At w0 w' (HP.row e size ao' (n + m) cap' (xs ++ news) :: L) → wpList P ops Q rest (a.put o.dst (.slice ao' (n + m) cap')) w') : wpList P ops Q (o :: rest) a w := by
  obtain ⟨i, hi, hz, hsize, hby⟩ := info_parts hinfo
  obtain ⟨ao', cap', w', hr, hA'⟩ := run_append_row (P := P) t tx o.type i z bytes ht hi hz hsize hby hzs hA vx m news hsrc h63 hbytes
  refine wpList_plain hgd fun K hK => ?_
  unfold Oper.wp execOp
  simp only [ho, resolve, invoke, builtin, Sem.run_bind, Sem.run_pure, Result.andThen_ok, List.map_toArray, List.map_cons, List.map_nil, hs, hx, hr]
  exact hK _ _ (h _ _ _ hA')

/-- .. what is appended can be read as a slice -/
theorem wpList_append_row {ops : Array Oper} {rest : List Oper} {o : Oper} {a : Act} {Q : Exit → Act → World → Prop} (hgd : o.guard = none) (s x : Operand) (t : TypeId)
    (ho : o.op = .call { callee := .builtin .append, args := #[s, x], argTypes := #[t, t] })
    (z : Value) (bytes : Nat) (ht : P.underlying t = some (.slice e)) (hinfo : (P.info? e).map (fun i => (i.zero, i.size, i.bytes)) = some (some z, size, bytes)) (hzs : z.cells.size = size) (hsz : 0 < size)
    (hA : At w0 w (HP.row e size ao n cap xs :: L)) (hs : a.eval s = .slice ao n cap)
    (aox : Option Addr) (m c : Nat) (news : List Value) (hx : a.eval x = .slice aox m c) (hl : news.length = m * size) (hrd : Rd w aox news) (h1 : ∀ u ∈ news, u.oneCell' = true)
    (h63 : n + m ≤ maxLen) (hbytes : (n + m) * bytes ≤ 140737488355328)
    (h : ∀ ao' cap' w', At w0 w' (HP.row e size ao' (n + m) cap' (xs ++ news) :: L) → wpList P ops Q rest (a.put o.dst (.slice ao' (n + m) cap')) w') : wpList P ops Q (o :: rest) a w :=
  wpList_append_src hgd s x t t ho z bytes ht hinfo hzs hA hs _ m news hx (src_of_rd ht m c hl hsz hrd h1) h63 hbytes h

/-- .. a string's bytes -/
theorem wpList_append_str {ops : Array Oper} {rest : List Oper} {o : Oper} {a : Act} {Q : Exit → Act → World → Prop} (hgd : o.guard = none) (s x : Operand) (t tx : TypeId)
    (ho : o.op = .call { callee := .builtin .append, args := #[s, x], argTypes := #[t, tx] })
    (z : Value) (bytes : Nat) (ht : P.underlying t = some (.slice e)) (hk : P.underlying tx = some .string) (hinfo : (P.info? e).map (fun i => (i.zero, i.size, i.bytes)) = some (some z, 1, bytes)) (hzs : z.cells.size = 1)
    (hA : At w0 w (HP.row e 1 ao n cap xs :: L)) (hs : a.eval s = .slice ao n cap)
    (l : List UInt8) (hx : a.eval x = .string ⟨l.toArray⟩)
    (h63 : n + l.length ≤ maxLen) (hbytes : (n + l.length) * bytes ≤ 140737488355328)
    (h : ∀ ao' cap' w', At w0 w' (HP.row e 1 ao' (n + l.length) cap' (xs ++ l.map fun b => Value.int .u8 b.toNat) :: L) → wpList P ops Q rest (a.put o.dst (.slice ao' (n + l.length) cap')) w') : wpList P ops Q (o :: rest) a w :=
  wpList_append_src hgd s x t tx ho z bytes ht hinfo hzs hA hs _ l.length (l.map fun b : UInt8 => Value.int .u8 (b.toNat : Int)) hx (by have := Src.ofString (P := P) w hk ⟨l.toArray⟩; have e : (⟨l.toArray⟩ : ByteArray).size = l.length := rfl; rw [e] at this; simpa [byteCells] using this) h63 hbytes h

/-- 'out = append(out, x)' of one element of one cell. -/
theorem wpList_append1 {ops : Array Oper} {rest : List Oper} {o : Oper} {a : Act} {Q : Exit → Act → World → Prop} {v : Value} {sz : Nat} (hA : At w0 w (HP.row e 1 ao n cap xs :: L)) (hgd : o.guard = none) (s x : Operand) (t : TypeId)
    (ho : o.op = .call { callee := .builtin .append, args := #[s, x], argTypes := #[t, t] })
    (z : Value) (bytes : Nat) (ht : P.underlying t = some (.slice e)) (hinfo : (P.info? e).map (fun i => (i.zero, i.size, i.bytes)) = some (some z, 1, bytes)) (hzs : z.cells.size = 1) (hb0 : 0 < bytes)
    (hs : a.eval s = .slice ao n cap) (hx : a.eval x = .slice (some ⟨sz, 0, none⟩) 1 1) (hsz : sz = w.heap.size) (hv : v.oneCell' = true) (hbytes : (n + 1) * bytes ≤ 140737488355328)
    (h : ∀ ao' cap' w', At w0 w' (HP.row e 1 ao' (n + 1) cap' (xs ++ [v]) :: L) → wpList P ops Q rest (a.put o.dst (.slice ao' (n + 1) cap')) w') : wpList P ops Q (o :: rest) a (w.alloc (.cells #[v] e)) :=
  wpList_append_row hgd s x t ho z bytes ht hinfo hzs (by decide) (hA.alloc _).drop hs _ 1 1 [v] (hsz ▸ hx) rfl (Rd.one w v e) (by intro u hu; simp at hu; subst hu; exact hv)
    (by have : (n + 1) * 1 ≤ (n + 1) * bytes := Nat.mul_le_mul_left _ hb0
        unfold maxLen; omega) hbytes h

/-- 'string(b)' -/
theorem run_string_of {w : World} {ao : Option Addr} {c : Nat} (src e : TypeId) (hs : P.underlying src = some (.slice e)) (he : P.underlying e = some (.int .u8)) (dst : TypeId) (hd : P.underlying dst = some .string)
    (l : List UInt8) (h : Rd w ao (l.map fun b => Value.int .u8 b.toNat)) (h0 : ao = none → l = []) : (convert src dst (.slice ao l.length c)).run P w = .ok (.string ⟨l.toArray⟩) w := by
  cases ao with
  | none => obtain rfl := h0 rfl; exact run_convert_bytes_nil w src e hs he 0 c dst hd
  | some ad =>
    have hl : (loadCells ad l.length).run P w = .ok ((l.map fun b => (b.toNat : Int)).map (Value.int .u8)).toArray w := by
      have := run_loadCells_list (P := P) w ad (l.map fun b => Value.int .u8 b.toNat) (fun j v hj => h.add_ j v hj)
      simpa [List.map_map, Function.comp_def] using this
    rw [run_convert_bytes_string w src dst e _ l.length c hs he hd, run_bytesToString w _ l.length c _ hl, foldl_push_bytes]
    simp [ByteArray.empty, ByteArray.emptyWithCapacity, Function.comp_def]
    rfl
end

end Go.Proofs.Ytihpcaklknbjiaa
