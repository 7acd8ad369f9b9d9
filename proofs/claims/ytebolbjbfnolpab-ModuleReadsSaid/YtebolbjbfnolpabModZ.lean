/-
  The reference's Bytes.
-/
import Derived.Test.YtebolbjbfnolpabModY
namespace Go.Proofs.Ytebolbjbfnolpab
open Go.RowKit HP
open Go.Proofs.Ytebolbjbfnolpab.Mod

theorem tys_bounds {l : List Int} {n : Int} (h : Mod.tys l n = true) : ∀ x ∈ l, -9223372036854775808 ≤ x ∧ x ≤ 9223372036854775807 := by
  intro x hx
  have := List.all_eq_true.1 h x hx
  simp only [Mod.ty, Bool.or_eq_true, Bool.and_eq_true, decide_eq_true_eq] at this
  omega
theorem right_tys {a : Mod.Act} {n : Int} (h : Mod.right a n = true) : Mod.tys a.params n = true ∧ Mod.tys a.regs n = true ∧ Mod.tys a.msgs n = true := by
  simp only [Mod.right, Bool.and_eq_true] at h
  exact ⟨h.1.1.1.1.1.1.1, h.1.1.1.1.1.1.2, h.1.1.1.1.1.2⟩
theorem code_at1 {w : World} {b off : Nat} {l : List ActD} (h : Kn.At_ kActor w (some ⟨b, off, none⟩) l) (i : Nat) (hi : i < l.length) :
    ∀ x ∈ l[i].2.2.2.1.map toP, -9223372036854775808 ≤ x.1 ∧ x.1 ≤ 9223372036854775807 := by
  rcases h with rfl | ⟨b', off', e, h⟩
  · simp at hi
  · cases e
    obtain ⟨cs, ⟨_, _, rfl, ⟨aP, cP, rfl, p1, p2, _, p3⟩, _, _, rfl, ⟨aR, cR, rfl, r1, r2, _, r3⟩, _, _, rfl, ⟨aM, cM, rfl, m1, m2, _, m3⟩, _, _, rfl, ⟨aC, cC, rfl, c1, c2, _, c3⟩, _, _, rfl, ⟨aT, cT, rfl, t1, t2, _, t3⟩, rfl⟩, hc⟩ := h i _ (List.getElem?_eq_getElem hi)
    intro x hx
    obtain ⟨y, hy, rfl⟩ := List.mem_map.1 hx
    obtain ⟨k, hk, rfl⟩ := List.mem_iff_getElem.1 hy
    exact (code_fits c3 k hk).1

section
variable {w0 w : World} {L : List HP}

end
end Go.Proofs.Ytebolbjbfnolpab
