/-
  The contracts of module.Same and its parts.
-/
import Derived.Test.YtebolbjbfnolpabModM
import Derived.Test.YtebolbjbfnolpabModC
namespace Go.Proofs.Ytebolbjbfnolpab
open Go.RowKit HP
deriving instance DecidableEq for Mod.Act

section
variable {w0 w : World} {L : List HP}

theorem same2_any (x y : List (Int × Int)) (t u : Int) (ao ao2 : Option Addr) (n n2 cap cap2 : Nat) (hn : x.length = n) (hn2 : y.length = n2) (hm : n ≤ maxLen) (hm2 : n2 ≤ maxLen) (h1 : Rd w ao (pvs .i64 .i64 x)) (h2 : Rd w ao2 (pvs .i64 .i64 y)) (hA : At w0 w L) :
    Calls Try.prog 36 #[.agg #[.slice ao n cap, .int .i64 t], .agg #[.slice ao2 n2 cap2, .int .i64 u]] w fun e w' => e = .returned (.bool (decide ((x, t) = (y, u)))) ∧ At w0 w' L := by
  suffices h : Calls Try.prog 36 #[.agg #[.slice ao n cap, .int .i64 t], .agg #[.slice ao2 n2 cap2, .int .i64 u]] w fun e w' => e = .returned (.bool (decide ((x, t) = (y, u)))) ∧ At w w' [] from
    h.mono fun e w' h => ⟨h.1, hA.join h.2⟩
  clear hA
  have hA2 := (((At.start w).alloc (.cells #[.slice ao n cap, .int .i64 t] 74)).alloc (.cells #[.slice ao2 n2 cap2, .int .i64 u] 74))
  have c0 := hA2.pick2.cell 0
  have c1 := hA2.pick2.cell 1
  have d0 := hA2.cell 0
  have d1 := hA2.cell 1
  have hc := equalC_any x y ao ao2 n n2 cap cap2 hn hn2 hm hm2 (h1.old hA2) (h2.old hA2)
  have HC := Lib.hid hc; clear hc
  clear hn hn2
  by_cases htu : t = u
  · have T : (t == u) = true := by simp [htu]
    have e : decide ((x, t) = (y, u)) = decide (x = y) := by simp [htu]
    rw [e]
    clear e
    generalize decide (x = y) = b at *
    have HT := Lib.hid htu; clear htu
    go_enter Try.func36, Try.ntmps36
    go_wp2_with (go_at_call 37; refine HC.out.mono ?_; rintro e w' ⟨rfl, q, rfl⟩)
    go_returns
    exact ⟨rfl, (hA2.drewN q).drop.drop⟩
  · have T : (t == u) = false := by simp [htu]
    have e : decide ((x, t) = (y, u)) = false := by simp [htu]
    rw [e]
    clear e
    have HT := Lib.hid htu; clear htu
    go_enter Try.func36, Try.ntmps36
    go_wp2_with (go_at_call 37; refine HC.out.mono ?_; rintro e w' ⟨rfl, q, rfl⟩)
    go_returns
    exact ⟨rfl, hA2.drop.drop⟩

def EqfRel {α β : Type} (f : α → β) (w : World) (l l2 : List α) (n : Nat) (i : Value) (wr : World) : Prop := ∃ k : Nat, i = .int .i64 k ∧ k ≤ n ∧ (l.map f).take k = (l2.map f).take k ∧ At w wr []

theorem map_take_succ {α β : Type} (f : α → β) (l : List α) (k : Nat) (h : k < l.length) : (l.map f).take (k + 1) = (l.map f).take k ++ [f l[k]] := by
  rw [List.take_succ_eq_append_getElem (by simpa using h)]; simp
theorem map_ne {α β : Type} (f : α → β) (l l2 : List α) (k : Nat) (h : k < l.length) (h2 : k < l2.length) (hne : f l[k] ≠ f l2[k]) : l.map f ≠ l2.map f := by
  intro e
  have a : (l.map f)[k]? = some (f l[k]) := by simp [h]
  have b : (l2.map f)[k]? = some (f l2[k]) := by simp [h2]
  rw [e, b] at a
  exact hne (by injection a with a; exact a.symm)

set_option maxHeartbeats 2000000 in
theorem equalTabs_any (l l2 : List TabD) (ao ao2 : Option Addr) (n n2 cap cap2 : Nat) (hn : l.length = n) (hn2 : l2.length = n2) (hm : n ≤ maxLen) (hm2 : n2 ≤ maxLen) (h1 : Kn.At_ kTable w ao l) (h2 : Kn.At_ kTable w ao2 l2) (hA : At w0 w L) :
    Calls Try.prog 35 #[.slice ao n cap, .slice ao2 n2 cap2, .func (.func 36) #[] #[]] w fun e w' => e = .returned (.bool (decide (l.map toTab = l2.map toTab))) ∧ At w0 w' L := by
  suffices h : Calls Try.prog 35 #[.slice ao n cap, .slice ao2 n2 cap2, .func (.func 36) #[] #[]] w fun e w' => e = .returned (.bool (decide (l.map toTab = l2.map toTab))) ∧ At w w' [] from
    h.mono fun e w' h => ⟨h.1, hA.join h.2⟩
  clear hA
  unfold maxLen at hm hm2
  by_cases hlen : n = n2
  · subst hlen
    have T : ((n : Int) != (n : Int)) = false := by simp
    have HN := Lib.hid hn; clear hn
    have HN2 := Lib.hid hn2; clear hn2
    clear hm2
    go_enter Try.func35, Try.ntmps35
    go_wp2
    go_loopw [17] (fun i wr => EqfRel toTab w l l2 n i wr) (fun i _ => n - (intOf i).toNat)
    case atStart => exact ⟨0, rfl, by omega, rfl, At.start w⟩
    case round =>
      obtain ⟨k, rfl, hk, hx, hW⟩ := hrel
      have HX := Lib.hid hx; clear hx
      by_cases hlt : k < n
      · have hlt1 : k < l.length := by rw [HN.out]; exact hlt
        have hlt2 : k < l2.length := by rw [HN2.out]; exact hlt
        obtain ⟨b, off, rfl⟩ : ∃ b off, ao = some ⟨b, off, none⟩ := by
          rcases h1 with rfl | ⟨b, off, e, _⟩
          · simp at hlt1
          · exact ⟨b, off, e⟩
        obtain ⟨b2, off2, rfl⟩ : ∃ b off, ao2 = some ⟨b, off, none⟩ := by
          rcases h2 with rfl | ⟨b, off, e, _⟩
          · simp at hlt2
          · exact ⟨b, off, e⟩
        have HS := Lib.hid (map_take_succ toTab l k hlt1)
        have HS2 := Lib.hid (map_take_succ toTab l2 k hlt2)
        have HNE := Lib.hid (map_ne toTab l l2 k hlt1 hlt2)
        obtain ⟨a1, c1, d0, d1, r1, m1, _⟩ := table_at h1 k hlt1
        obtain ⟨a2, c2, e0, e1, r2, m2, _⟩ := table_at h2 k hlt2
        generalize l[k] = t1 at *
        generalize l2[k] = t2 at *
        obtain ⟨x, y, _⟩ := t1
        obtain ⟨x2, y2, _⟩ := t2
        simp only at d0 d1 r1 m1 e0 e1 r2 m2
        have d0 := hW.oldCell d0
        have d1 := hW.oldCell d1
        have hB1 := hW.alloc (.cells #[.slice a1 x.length c1, .int .i64 y] 74)
        have e0 := hB1.oldCell e0
        have e1 := hB1.oldCell e1
        have hB := hB1.alloc (.cells #[.slice a2 x2.length c2, .int .i64 y2] 74)
        have b0 := hB.pick2.cell 0
        have b1 := hB.pick2.cell 1
        have b2 := hB.cell 0
        have b3 := hB.cell 1
        have hcl := same2_any (x.map toP) (x2.map toP) y y2 a1 a2 x.length x2.length c1 c2 (by simp) (by simp) m1 m2 (r1.old hB) (r2.old hB) hB
        by_cases he : (x.map toP, y) = (x2.map toP, y2)
        · rw [decide_eq_true he] at hcl
          have HC := Lib.hid hcl; clear hcl
          have HE := Lib.hid he; clear he
          go_wp2_with (go_at_call 36; refine HC.out.mono ?_; rintro e w' ⟨rfl, hV⟩)
          go_roundw
          case rel => exact ⟨k + 1, by go_num, by omega, by rw [HS.out, HS2.out, HX.out]; simp [toTab]; simpa using HE.out, hV.drop.drop⟩
          case measure => simp [intOf]; omega
        · rw [decide_eq_false he] at hcl
          have HC := Lib.hid hcl; clear hcl
          have HE := Lib.hid he; clear he
          go_wp2_with (go_at_call 36; refine HC.out.mono ?_; rintro e w' ⟨rfl, hV⟩)
          go_returns
          exact ⟨ret_bool (decide_eq_false (HNE.out HE.out)).symm, hV.drop.drop⟩
      · have hkl : k = n := by omega
        subst hkl
        have hall : decide (l.map toTab = l2.map toTab) = true := by
          apply decide_eq_true
          have := HX.out
          rwa [List.take_of_length_le (by rw [List.length_map, HN.out]; exact Nat.le_refl _), List.take_of_length_le (by rw [List.length_map, HN2.out]; exact Nat.le_refl _)] at this
        have HL := Lib.hid hall; clear hall
        go_wp2
        go_returns
        exact ⟨ret_bool HL.out.symm, hW⟩
  · have T : ((n : Int) != (n2 : Int)) = true := by simp; omega
    have hne : decide (l.map toTab = l2.map toTab) = false := by
      apply decide_eq_false
      intro e
      have := congrArg List.length e
      simp only [List.length_map] at this
      omega
    rw [hne]
    clear hlen hne hn hn2
    go_enter Try.func35, Try.ntmps35
    go_wp2
    go_returns
    exact ⟨rfl, At.start w⟩
end
end Go.Proofs.Ytebolbjbfnolpab
