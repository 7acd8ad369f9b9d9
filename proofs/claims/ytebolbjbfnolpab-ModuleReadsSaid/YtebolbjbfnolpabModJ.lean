/-
  An actor of a list of actors.
-/
import Derived.Test.YtebolbjbfnolpabModI
namespace Go.Proofs.Ytebolbjbfnolpab
open Go.RowKit HP

theorem actor_at {w : World} {b off : Nat} {l : List ActD} (h : Kn.At_ kActor w (some ⟨b, off, none⟩) l) (i : Nat) (hi : i < l.length) :
    ∃ aP cP aR cR aM cM aC cC aT cT,
      (w.cell? ⟨b, off + i * 5, none⟩ = some (.slice aP l[i].1.length cP) ∧ w.cell? ⟨b, off + i * 5 + 1, none⟩ = some (.slice aR l[i].2.1.length cR) ∧ w.cell? ⟨b, off + i * 5 + 2, none⟩ = some (.slice aM l[i].2.2.1.length cM) ∧
        w.cell? ⟨b, off + i * 5 + 3, none⟩ = some (.slice aC l[i].2.2.2.1.length cC) ∧ w.cell? ⟨b, off + i * 5 + 4, none⟩ = some (.slice aT l[i].2.2.2.2.1.length cT)) ∧
      (Rd w aP (l[i].1.map (Value.int .i64)) ∧ Rd w aR (l[i].2.1.map (Value.int .i64)) ∧ Rd w aM (l[i].2.2.1.map (Value.int .i64)) ∧ Rd w aC (pvs .i64 .i64 (l[i].2.2.2.1.map toP)) ∧ Kn.At_ kTable w aT l[i].2.2.2.2.1) ∧
      (l[i].1.length ≤ maxLen ∧ l[i].2.1.length ≤ cR ∧ l[i].2.1.length ≤ maxLen ∧ l[i].2.2.1.length ≤ maxLen ∧ l[i].2.2.2.1.length ≤ maxLen ∧ l[i].2.2.2.2.1.length ≤ maxLen) := by
  rcases h with rfl | ⟨b', off', e, h⟩
  · simp at hi
  · cases e
    obtain ⟨cs, ⟨_, _, rfl, ⟨aP, cP, rfl, p1, p2, _, p3⟩, _, _, rfl, ⟨aR, cR, rfl, r1, r2, _, r3⟩, _, _, rfl, ⟨aM, cM, rfl, m1, m2, _, m3⟩, _, _, rfl, ⟨aC, cC, rfl, c1, c2, _, c3⟩, _, _, rfl, ⟨aT, cT, rfl, t1, t2, _, t3⟩, rfl⟩, hc⟩ := h i _ (List.getElem?_eq_getElem hi)
    have d0 := hc 0 _ rfl
    have d1 := hc 1 _ rfl
    have d2 := hc 2 _ rfl
    have d3 := hc 3 _ rfl
    have d4 := hc 4 _ rfl
    have e : kActor.sz = 5 := rfl
    rw [e, Nat.add_zero] at d0
    rw [e, ← Nat.add_assoc] at d1 d2 d3 d4
    exact ⟨aP, cP, aR, cR, aM, cM, aC, cC, aT, cT, ⟨d0, d1, d2, d3, d4⟩, ⟨types_rd p3, types_rd r3, types_rd m3, code_rd c3, t3⟩, by omega, r1, by omega, by omega, by omega, by omega⟩
end Go.Proofs.Ytebolbjbfnolpab
