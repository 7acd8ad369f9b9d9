/-
  How a law's arguments are opened: what kind of data a type's cells hold, as plain Lean data; and the row's last step.
-/
import Derived.Test.YtihpcaklknbjiaaRows
import Derived.Test.YtihpcaklknbjiaaLib
import Derived.ProofKit
import Derived.OpenShut
import Derived.ShutString
import Derived.ChangeOld
import Derived.SizedLaws
import Derived.Deep.Slices
import Derived.Carry
namespace Go.Proofs.Ytihpcaklknbjiaa
open Go.RowKit Go.ChangeShapes Go.WideShapes Go.ChangeAt Go.Deep

/-- What a type's cells hold, as plain data. -/
structure Kn (P : Program) (t : TypeId) (α : Type) where
  sz : Nat
  R : World → α → List Value → Prop
  len : ∀ w a cs, R w a cs → cs.length = sz
  wt : α → Nat
  mv : ∀ {w w' : World} {a : α} {cs : List Value}, Below w.heap.size w w' → R w a cs → R w' a cs
  op : ∀ {H : Type} {enc : TypeId × Value → H} {w : World} {base : Nat} {spare : Nat → Bool} {held : Bool} {fuel : Nat} {cs : List Value} {x : DataW H × List MemPlace},
    DataW.trod enc P w base spare held fuel t cs = some x → ∃ a, R w a cs ∧ wt a ≤ Rows.uptoBulk x.1

namespace Kn
variable {P : Program} {t e : TypeId} {α β : Type}

def int {k : IntKind} (ht : P.underlying t = some (.int k)) : Kn P t Int where
  sz := 1
  R := fun _ n cs => cs = [.int k n] ∧ (Lit.int k n).wf = true
  len := fun _ _ _ h => by rw [h.1]; rfl
  wt := fun _ => 1
  mv := fun _ h => h
  op := fun h => by
    obtain ⟨n, rfl, rfl, hw⟩ := DataW.trod_int ht h
    exact ⟨n, ⟨rfl, hw⟩, Nat.le_refl _⟩

def bool (ht : P.underlying t = some .bool) : Kn P t Bool where
  sz := 1
  R := fun _ b cs => cs = [.bool b]
  len := fun _ _ _ h => by rw [h]; rfl
  wt := fun _ => 1
  mv := fun _ h => h
  op := fun h => by
    obtain ⟨n, rfl, rfl⟩ := DataW.trod_bool ht h
    exact ⟨n, rfl, Nat.le_refl _⟩

def string (ht : P.underlying t = some .string) : Kn P t (List UInt8) where
  sz := 1
  R := fun _ l cs => cs = [.string (str l)] ∧ l.length ≤ maxLen
  len := fun _ _ _ h => by rw [h.1]; rfl
  wt := fun l => l.length + 1
  mv := fun _ h => h
  op := fun h => by
    obtain ⟨s, rfl, rfl, hs⟩ := DataW.trod_string ht h
    exact ⟨s.data.toList, ⟨rfl, by rw [Array.length_toList]; exact hs⟩, Nat.le_refl _⟩

/-- The elements lie behind an address. -/
def At_ (K : Kn P e α) (w : World) (ao : Option Addr) (l : List α) : Prop :=
  l = [] ∨ ∃ b off, ao = some ⟨b, off, none⟩ ∧ ∀ i a, l[i]? = some a → ∃ cs, K.R w a cs ∧ ∀ j u, cs[j]? = some u → w.cell? ⟨b, off + (i * K.sz + j), none⟩ = some u

theorem At_.mv {K : Kn P e α} {w w' : World} {ao : Option Addr} {l : List α} (hb : Below w.heap.size w w') (h : At_ K w ao l) : At_ K w' ao l := by
  rcases h with h | ⟨b, off, h1, h2⟩
  · exact .inl h
  · refine .inr ⟨b, off, h1, fun i a hi => ?_⟩
    obtain ⟨cs, hR, hc⟩ := h2 i a hi
    exact ⟨cs, K.mv hb hR, fun j u hj => (hb.cell (World.block_lt_of_cell? w _ (hc j u hj))).trans (hc j u hj)⟩

theorem sum_le (K : Kn P e α) {H : Type} (D : Nat → DataW H) : ∀ (l : List α) (s : Nat), (∀ i a, l[i]? = some a → K.wt a ≤ Rows.uptoBulk (D (s + i))) →
    (l.map K.wt).sum ≤ Rows.uptoBulkAll ((List.range' s l.length).map D)
  | [], s, _ => by simp [Rows.uptoBulkAll]
  | a :: l, s, h => by
    have h0 := h 0 a rfl
    have ih := sum_le K D l (s + 1) (fun i b hb => by have := h (i + 1) b (by simpa using hb); rwa [show s + (i + 1) = s + 1 + i by omega] at this)
    simp only [List.map_cons, List.sum_cons, List.length_cons, List.range'_succ, Rows.uptoBulkAll]
    simp only [Nat.add_zero] at h0
    omega

def slice (K : Kn P e α) (hsz : 0 < K.sz) (ht : P.underlying t = some (.slice e)) (hc : P.cellsOf e = K.sz) : Kn P t (List α) where
  sz := 1
  R := fun w l cs => ∃ ao cap, cs = [.slice ao l.length cap] ∧ l.length ≤ cap ∧ cap ≤ maxLen ∧ (ao = none → cap = 0) ∧ At_ K w ao l
  len := fun _ _ _ ⟨_, _, h, _⟩ => by rw [h]; rfl
  wt := fun l => (l.map K.wt).sum + 1
  mv := fun hb ⟨ao, cap, h1, h2, h3, h5, h4⟩ => ⟨ao, cap, h1, h2, h3, h5, h4.mv hb⟩
  op := fun {H enc w base spare held fuel cs x} h => by
    rcases open_slice ht h with ⟨rfl, rfl⟩ | ⟨a, len, cap, m, n, D, Pl, rfl, hb, hl, hm, hmm, rfl, hi⟩
    · exact ⟨[], ⟨none, 0, rfl, Nat.le_refl _, by simp [maxLen], fun _ => rfl, .inl rfl⟩, by simp [Rows.uptoBulk]⟩
    · have hmlen : len ≤ m := by rw [hmm]; split <;> omega
      have each : ∀ i, i < len → ∃ v, (∃ cs', K.R w v cs' ∧ w.cells? base (a.add (i * K.sz)) K.sz = some cs') ∧ K.wt v ≤ Rows.uptoBulk (D i) := by
        intro i hil
        obtain ⟨cs', h1, h2⟩ := hi i (by omega)
        obtain ⟨v, hv, hw⟩ := K.op h2
        rw [hc] at h1
        exact ⟨v, ⟨cs', hv, h1⟩, hw⟩
      obtain ⟨l, hl0, hlw⟩ : ∃ l : List α, l.length = len ∧ ∀ i v, l[i]? = some v → (∃ cs', K.R w v cs' ∧ w.cells? base (a.add (i * K.sz)) K.sz = some cs') ∧ K.wt v ≤ Rows.uptoBulk (D i) := by
        have go : ∀ k, k ≤ len → ∃ l : List α, l.length = k ∧ ∀ i v, l[i]? = some v → (∃ cs', K.R w v cs' ∧ w.cells? base (a.add (i * K.sz)) K.sz = some cs') ∧ K.wt v ≤ Rows.uptoBulk (D i) := by
          intro k
          induction k with
          | zero => exact fun _ => ⟨[], rfl, fun i v h => by simp at h⟩
          | succ k ih =>
            intro hk
            obtain ⟨l, hl, hl'⟩ := ih (by omega)
            obtain ⟨v, hv⟩ := each k (by omega)
            refine ⟨l ++ [v], by simp [hl], fun i u hu => ?_⟩
            rw [List.getElem?_append] at hu
            split at hu
            · exact hl' i u hu
            · rename_i hge
              have : i - l.length = 0 := by
                rcases Nat.eq_zero_or_pos (i - l.length) with h | h
                · exact h
                · rw [List.getElem?_eq_none (by simp; omega)] at hu; cases hu
              have : i = k := by omega
              subst this
              simp [hl] at hu
              subst hu
              exact hv
        exact go len (Nat.le_refl _)
      subst hl0
      refine ⟨l, ⟨some a, cap, rfl, hl, hm, fun h => (by cases h), ?_⟩, ?_⟩
      · cases hl1 : l with
        | nil => exact .inl rfl
        | cons v0 r0 =>
          rw [← hl1]
          have hspot : a.spot = none := by
            obtain ⟨⟨cs', hR, hcs⟩, _⟩ := hlw 0 v0 (by rw [hl1]; rfl)
            obtain ⟨_, hcl, hat⟩ := World.cells?_some hcs
            have := hat 0 hsz
            simp only [Nat.zero_mul, Addr.add, if_true] at this
            cases hs : a.spot with
            | none => rfl
            | some z =>
              have hlt : 0 < cs'.length := by rw [hcl]; exact hsz
              simp [World.cell?, hs, List.getElem?_eq_getElem hlt] at this
              split at this <;> cases this
          refine .inr ⟨a.block, a.off, by cases a; simp_all, fun i v hv => ?_⟩
          obtain ⟨⟨cs', hR, hcs⟩, _⟩ := hlw i v hv
          obtain ⟨_, hcl, hat⟩ := World.cells?_some hcs
          refine ⟨cs', hR, fun j u hj => ?_⟩
          have hjl : j < cs'.length := by
            rcases Nat.lt_or_ge j cs'.length with h | h
            · exact h
            · rw [List.getElem?_eq_none h] at hj; cases hj
          have := hat j (by omega)
          rw [hj, Go.Deep.add_add] at this
          cases a
          simp only at hspot
          subst hspot
          rw [Addr.add_lit] at this
          exact this
      · have := sum_le K D l 0 (fun i v hv => by simpa using (hlw i v hv).2)
        simp only [Rows.uptoBulk]
        rw [List.range_eq_range']
        omega
end Kn

/-- What a struct's fields hold, from a cell on. -/
structure Kf (P : Program) (tys : List (TypeId × Nat × Nat)) (off : Nat) (α : Type) where
  sz : Nat
  R : World → α → List Value → Prop
  len : ∀ w a cs, R w a cs → cs.length = sz
  wt : α → Nat
  mv : ∀ {w w' : World} {a : α} {cs : List Value}, Below w.heap.size w w' → R w a cs → R w' a cs
  op : ∀ {H : Type} {enc : TypeId × Value → H} {w : World} {base : Nat} {spare : Nat → Bool} {held : Bool} {fuel : Nat} {cs : List Value} {xs : List (DataW H × List MemPlace)},
    cs.length = off + sz → xs.length = tys.length → (∀ (i : Nat) (ty : TypeId × Nat × Nat), tys[i]? = some ty → DataW.trod enc P w base spare held fuel ty.1 ((cs.drop ty.2.1).take ty.2.2) = xs[i]?) →
    ∃ a, R w a (cs.drop off) ∧ wt a ≤ Rows.uptoBulkAll (xs.map (·.1))

namespace Kf
variable {P : Program} {t : TypeId} {off : Nat} {tys : List (TypeId × Nat × Nat)} {α β : Type}
def nil : Kf P [] off Unit where
  sz := 0
  R := fun _ _ cs => cs = []
  len := fun _ _ _ h => by rw [h]; rfl
  wt := fun _ => 0
  mv := fun _ h => h
  op := fun hl _ _ => ⟨(), List.drop_of_length_le (by omega), by simp⟩

def cons (K : Kn P t α) (F : Kf P tys (off + K.sz) β) : Kf P ((t, off, K.sz) :: tys) off (α × β) where
  sz := K.sz + F.sz
  R := fun w a cs => ∃ c1 c2, cs = c1 ++ c2 ∧ K.R w a.1 c1 ∧ F.R w a.2 c2
  len := fun w a cs ⟨c1, c2, h, h1, h2⟩ => by rw [h, List.length_append, K.len _ _ _ h1, F.len _ _ _ h2]
  wt := fun a => K.wt a.1 + F.wt a.2
  mv := fun hb ⟨c1, c2, h, h1, h2⟩ => ⟨c1, c2, h, K.mv hb h1, F.mv hb h2⟩
  op := fun {H enc w base spare held fuel cs xs} hl hx h => by
    match xs, hx with
    | x :: xs, hx =>
      have h0 := h 0 (t, off, K.sz) rfl
      simp only [List.getElem?_cons_zero] at h0
      obtain ⟨a, hR, hw⟩ := K.op h0
      obtain ⟨b, hR2, hw2⟩ := F.op (cs := cs) (xs := xs) (by omega) (by simpa using hx) (fun i ty hi => by have := h (i + 1) ty (by simpa using hi); simpa using this)
      refine ⟨(a, b), ⟨_, _, ?_, hR, hR2⟩, ?_⟩
      · rw [← List.drop_drop, List.take_append_drop]
      · simp only [List.map_cons, Rows.uptoBulkAll]; omega
end Kf

def Kn.st {P : Program} {t : TypeId} {fs : Array Field} {tys : List (TypeId × Nat × Nat)} {α : Type} (F : Kf P tys 0 α) (ht : P.underlying t = some (.struct fs)) (hty : fs.toList.map (fun f => (f.type, f.offset, P.cellsOf f.type)) = tys) (hc : P.cellsOf t = F.sz) : Kn P t α where
  sz := F.sz
  R := F.R
  len := F.len
  wt := fun a => F.wt a + 1
  mv := F.mv
  op := fun h => by
    obtain ⟨xs, n, _, rfl, hl, hxl, hg⟩ := DataW.trod_struct ht h
    obtain ⟨a, hR, hw⟩ := F.op (fuel := n) (by rw [hl, hc]; omega) (by rw [hxl, ← hty]; simp) (fun i ty hi => by
      rw [← hty, List.getElem?_map] at hi
      cases hf : fs.toList[i]? with
      | none => rw [hf] at hi; cases hi
      | some f =>
        rw [hf] at hi
        simp only [Option.map_some, Option.some.injEq] at hi
        subst hi
        exact hg i f (by simpa using hf))
    exact ⟨a, by simpa using hR, by simp only [Rows.uptoBulk]; omega⟩

end Go.Proofs.Ytihpcaklknbjiaa
