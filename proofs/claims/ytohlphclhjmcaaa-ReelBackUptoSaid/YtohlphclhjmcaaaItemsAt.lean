/-
  An item of the argument.
-/
import Derived.Test.YtohlphclhjmcaaaLawsC
namespace Go.Proofs.Ytohlphclhjmcaaa
open Go.RowKit HP
theorem items_at {w : World} {ao : Option Addr} {li : List ItemD} (h : Kn.At_ kItem w ao li) (k : Nat) (hk : k < li.length) :
    ∃ b off, ao = some ⟨b, off, none⟩ ∧ (toItem li[k]).Fits ∧ ∀ j u, (toItem li[k]).vs[j]? = some u → w.cell? ⟨b, off + (k * 4 + j), none⟩ = some u := by
  rcases h with rfl | ⟨b, off, rfl, h⟩
  · simp at hk
  · obtain ⟨cs, hR, hc⟩ := h k _ (List.getElem?_eq_getElem hk)
    obtain ⟨rfl, hf⟩ := item_open hR
    exact ⟨b, off, rfl, hf, hc⟩
/-- .. its four cells in a world that has come out of that one -/
theorem items_cells {w0 w : World} {L : List HP} {b off k : Nat} {x : Item} (hc : ∀ j u, x.vs[j]? = some u → w0.cell? ⟨b, off + (k * 4 + j), none⟩ = some u) (hA : At w0 w L) :
    w.cell? ⟨b, off + k * 4, none⟩ = some (.int .i64 x.k) ∧ w.cell? ⟨b, off + k * 4 + 1, none⟩ = some (.int .u64 x.u) ∧ w.cell? ⟨b, off + k * 4 + 2, none⟩ = some (.int .i64 x.n) ∧ w.cell? ⟨b, off + k * 4 + 3, none⟩ = some (.string (str x.s)) := by
  have d0 := hA.oldCell (hc 0 _ rfl)
  have d1 := hA.oldCell (hc 1 _ rfl)
  have d2 := hA.oldCell (hc 2 _ rfl)
  have d3 := hA.oldCell (hc 3 _ rfl)
  simp only [← Nat.add_assoc, Nat.add_zero] at d0 d1 d2 d3
  exact ⟨d0, d1, d2, d3⟩
end Go.Proofs.Ytohlphclhjmcaaa
