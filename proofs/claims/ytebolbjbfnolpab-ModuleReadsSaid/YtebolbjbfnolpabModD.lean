/-
  How modules lie in memory; the contracts of instructions and tables.
-/
import Derived.Test.YtebolbjbfnolpabModC
import Derived.Test.YtebolbjbfnolpabInstrA
import Derived.Test.YtebolbjbfnolpabOpen
namespace Go.Proofs.Ytebolbjbfnolpab
open Go.RowKit HP

theorem wf_i64m {a : Int} (h : (Lit.int .i64 a).wf = true) : -9223372036854775808 ≤ a ∧ a ≤ 9223372036854775807 := by
  simpa [Lit.wf, IntKind.min, IntKind.max, IntKind.signed, IntKind.bits] using h
noncomputable def fieldsOf (t : TypeId) : Array Field := match Try.prog.underlying t with | some (.struct fs) => fs | _ => #[]

noncomputable def kType : Kn Try.prog 84 Int := Kn.int (k := .i64) (by kernel_rfl)
noncomputable def kTypes : Kn Try.prog 34 (List Int) := .slice kType (by decide) (by kernel_rfl) (by kernel_rfl)
abbrev PairD := Int × Int × Unit
noncomputable def kfIns : Kf Try.prog [(3, 0, 1), (2, 1, 1)] 0 PairD := .cons (Kn.int Try.underlying3) (.cons (off := 1) (Kn.int Try.underlying2) (.nil (off := 2)))
noncomputable def kIns : Kn Try.prog 32 PairD := .st (fs := fieldsOf 32) kfIns (by kernel_rfl) (by kernel_rfl) (by kernel_rfl)
noncomputable def kCode : Kn Try.prog 33 (List PairD) := .slice kIns (by decide) (by kernel_rfl) (by kernel_rfl)
noncomputable def kfClause : Kf Try.prog [(3, 0, 1), (3, 1, 1)] 0 PairD := .cons (Kn.int Try.underlying3) (.cons (off := 1) (Kn.int Try.underlying3) (.nil (off := 2)))
noncomputable def kClause : Kn Try.prog 77 PairD := .st (fs := fieldsOf 77) kfClause (by kernel_rfl) (by kernel_rfl) (by kernel_rfl)
noncomputable def kClauses : Kn Try.prog 72 (List PairD) := .slice kClause (by decide) (by kernel_rfl) (by kernel_rfl)
abbrev TabD := List PairD × Int × Unit
noncomputable def kfTable : Kf Try.prog [(72, 0, 1), (3, 1, 1)] 0 TabD := .cons kClauses (.cons (off := 1) (Kn.int Try.underlying3) (.nil (off := 2)))
noncomputable def kTable : Kn Try.prog 74 TabD := .st (fs := fieldsOf 74) kfTable (by kernel_rfl) (by kernel_rfl) (by kernel_rfl)
noncomputable def kTables : Kn Try.prog 35 (List TabD) := .slice kTable (by decide) (by kernel_rfl) (by kernel_rfl)
abbrev ActD := List Int × List Int × List Int × List PairD × List TabD × Unit
noncomputable def kfActor : Kf Try.prog [(34, 0, 1), (34, 1, 1), (34, 2, 1), (33, 3, 1), (35, 4, 1)] 0 ActD :=
  .cons kTypes (.cons (off := 1) kTypes (.cons (off := 2) kTypes (.cons (off := 3) kCode (.cons (off := 4) kTables (.nil (off := 5))))))
noncomputable def kActor : Kn Try.prog 37 ActD := .st (fs := fieldsOf 37) kfActor (by kernel_rfl) (by kernel_rfl) (by kernel_rfl)
noncomputable def kActors : Kn Try.prog 23 (List ActD) := .slice kActor (by decide) (by kernel_rfl) (by kernel_rfl)
noncomputable def kfModule : Kf Try.prog [(23, 0, 1)] 0 (List ActD × Unit) := .cons kActors (.nil (off := 1))
noncomputable def kModule : Kn Try.prog 25 (List ActD × Unit) := .st (fs := fieldsOf 25) kfModule (by kernel_rfl) (by kernel_rfl) (by kernel_rfl)

def toP (l : PairD) : Int × Int := (l.1, l.2.1)
def toTab (t : TabD) : Mod.Tab := (t.1.map toP, t.2.1)
def toAct (a : ActD) : Mod.Act := ⟨a.1, a.2.1, a.2.2.1, a.2.2.2.1.map toP, a.2.2.2.2.1.map toTab⟩

theorem types_rd {w : World} {ao : Option Addr} {l : List Int} (h : Kn.At_ kType w ao l) : Rd w ao (l.map (Value.int .i64)) := by
  rcases h with rfl | ⟨b, off, rfl, h⟩
  · exact Rd.nil _ _
  · refine .inr ⟨b, off, rfl, fun j u hj => ?_⟩
    rw [List.getElem?_map] at hj
    cases hx : l[j]? with
    | none => rw [hx] at hj; cases hj
    | some x =>
      rw [hx] at hj; cases hj
      obtain ⟨cs, ⟨rfl, _⟩, hc⟩ := h j x hx
      have := hc 0 _ rfl
      have e : kType.sz = 1 := rfl
      rw [e, Nat.mul_one, Nat.add_zero] at this
      exact this
/-- pairs of numbers that lie behind one another -/
theorem pairs_rd {w : World} {b off : Nat} {l : List PairD} (h : ∀ i a, l[i]? = some a → w.cell? ⟨b, off + i * 2, none⟩ = some (.int .i64 a.1) ∧ w.cell? ⟨b, off + i * 2 + 1, none⟩ = some (.int .i64 a.2.1)) :
    Rd w (some ⟨b, off, none⟩) (pvs .i64 .i64 (l.map toP)) := by
  refine .inr ⟨b, off, rfl, fun j u hj => ?_⟩
  have hj2 : j < (pvs .i64 .i64 (l.map toP)).length := (List.getElem?_eq_some_iff.1 hj).1
  rw [pvs_len, List.length_map] at hj2
  have hk : j / 2 < l.length := by omega
  obtain ⟨c0, c1⟩ := h (j / 2) l[j / 2] (List.getElem?_eq_getElem hk)
  obtain ⟨v1, v2⟩ := pvs_get .i64 .i64 (l.map toP) (j / 2) (by simpa using hk)
  rcases Nat.mod_two_eq_zero_or_one j with hz | hz
  · rw [show j / 2 * 2 = j by omega] at c0
    rw [show j / 2 * 2 = j by omega, hj] at v1
    rw [c0, v1]; simp [toP]
  · rw [show off + j / 2 * 2 + 1 = off + j by omega] at c1
    rw [show j / 2 * 2 + 1 = j by omega, hj] at v2
    rw [c1, v2]; simp [toP]
theorem code_rd {w : World} {ao : Option Addr} {l : List PairD} (h : Kn.At_ kIns w ao l) : Rd w ao (pvs .i64 .i64 (l.map toP)) := by
  rcases h with rfl | ⟨b, off, rfl, h⟩
  · exact Rd.nil _ _
  · refine pairs_rd fun i a hi => ?_
    obtain ⟨cs, ⟨c1, _, rfl, ⟨rfl, _⟩, c2, _, rfl, ⟨rfl, _⟩, rfl⟩, hc⟩ := h i a hi
    have h0 := hc 0 _ rfl
    have h1 := hc 1 _ rfl
    have e : kIns.sz = 2 := rfl
    rw [e, Nat.add_zero] at h0
    rw [e, ← Nat.add_assoc] at h1
    exact ⟨h0, h1⟩
theorem clauses_rd {w : World} {ao : Option Addr} {l : List PairD} (h : Kn.At_ kClause w ao l) : Rd w ao (pvs .i64 .i64 (l.map toP)) := by
  rcases h with rfl | ⟨b, off, rfl, h⟩
  · exact Rd.nil _ _
  · refine pairs_rd fun i a hi => ?_
    obtain ⟨cs, ⟨c1, _, rfl, ⟨rfl, _⟩, c2, _, rfl, ⟨rfl, _⟩, rfl⟩, hc⟩ := h i a hi
    have h0 := hc 0 _ rfl
    have h1 := hc 1 _ rfl
    have e : kClause.sz = 2 := rfl
    rw [e, Nat.add_zero] at h0
    rw [e, ← Nat.add_assoc] at h1
    exact ⟨h0, h1⟩
theorem code_fits {w : World} {ao : Option Addr} {l : List PairD} (h : Kn.At_ kIns w ao l) (i : Nat) (hi : i < l.length) : (-9223372036854775808 ≤ l[i].1 ∧ l[i].1 ≤ 9223372036854775807) ∧ (-9223372036854775808 ≤ l[i].2.1 ∧ l[i].2.1 ≤ 9223372036854775807) := by
  rcases h with rfl | ⟨b, off, rfl, h⟩
  · simp at hi
  · obtain ⟨cs, ⟨c1, _, rfl, ⟨rfl, h1⟩, c2, _, rfl, ⟨rfl, h2⟩, rfl⟩, hc⟩ := h i _ (List.getElem?_eq_getElem hi)
    exact ⟨wf_i64m h1, wf_i64m h2⟩
/-- a table of a list of tables -/
theorem table_at {w : World} {b off : Nat} {l : List TabD} (h : Kn.At_ kTable w (some ⟨b, off, none⟩) l) (i : Nat) (hi : i < l.length) :
    ∃ ao cap, w.cell? ⟨b, off + i * 2, none⟩ = some (.slice ao l[i].1.length cap) ∧ w.cell? ⟨b, off + i * 2 + 1, none⟩ = some (.int .i64 l[i].2.1) ∧ Rd w ao (pvs .i64 .i64 (l[i].1.map toP)) ∧ l[i].1.length ≤ maxLen ∧ (-9223372036854775808 ≤ l[i].2.1 ∧ l[i].2.1 ≤ 9223372036854775807) := by
  rcases h with rfl | ⟨b', off', e, h⟩
  · simp at hi
  · cases e
    obtain ⟨cs, ⟨c1, _, rfl, ⟨ao, cap, rfl, h1, h2, _, h3⟩, c2, _, rfl, ⟨rfl, h4⟩, rfl⟩, hc⟩ := h i _ (List.getElem?_eq_getElem hi)
    have d0 := hc 0 _ rfl
    have d1 := hc 1 _ rfl
    have e : kTable.sz = 2 := rfl
    rw [e, Nat.add_zero] at d0
    rw [e, ← Nat.add_assoc] at d1
    exact ⟨ao, cap, d0, d1, clauses_rd h3, by omega, wf_i64m h4⟩
end Go.Proofs.Ytebolbjbfnolpab
