/-
  The contracts of equal lists: of types, of instructions, of clauses.
-/
import Derived.Test.YtebolbjbfnolpabModB
namespace Go.Proofs.Ytebolbjbfnolpab
open Go.RowKit HP

/-- pairs of numbers, as cells -/
def pv (k1 k2 : IntKind) (m : Int × Int) : List Value := [.int k1 m.1, .int k2 m.2]
def pvs (k1 k2 : IntKind) (l : List (Int × Int)) : List Value := l.flatMap (pv k1 k2)
theorem pvs_len (k1 k2 : IntKind) (l : List (Int × Int)) : (pvs k1 k2 l).length = l.length * 2 := by
  induction l with
  | nil => rfl
  | cons m r ih => simp only [pvs, List.flatMap_cons, List.length_append, List.length_cons] at ih ⊢; rw [ih]; simp [pv]; omega
theorem pvs_append (k1 k2 : IntKind) (l l2 : List (Int × Int)) : pvs k1 k2 (l ++ l2) = pvs k1 k2 l ++ pvs k1 k2 l2 := by simp [pvs]
theorem pvs_one (k1 k2 : IntKind) (l : List (Int × Int)) : ∀ u ∈ pvs k1 k2 l, u.oneCell' = true := by
  intro u hu
  simp only [pvs, List.mem_flatMap] at hu
  obtain ⟨m, _, hu⟩ := hu
  simp [pv] at hu
  rcases hu with rfl | rfl <;> rfl
theorem pvs_get (k1 k2 : IntKind) (l : List (Int × Int)) (k : Nat) (h : k < l.length) : (pvs k1 k2 l)[k * 2]? = some (.int k1 l[k].1) ∧ (pvs k1 k2 l)[k * 2 + 1]? = some (.int k2 l[k].2) := by
  induction l generalizing k with
  | nil => simp at h
  | cons m r ih =>
    cases k with
    | zero => exact ⟨rfl, rfl⟩
    | succ k =>
      have := ih k (by simpa using h)
      have e : pvs k1 k2 (m :: r) = .int k1 m.1 :: .int k2 m.2 :: pvs k1 k2 r := rfl
      rw [e, show (k + 1) * 2 = k * 2 + 1 + 1 by omega, show k * 2 + 1 + 1 + 1 = (k * 2 + 1) + 1 + 1 by omega]
      simpa using this

def EqRel {α : Type} (w : World) (l l2 : List α) (n : Nat) (i : Value) (wr : World) : Prop := ∃ k q : Nat, i = .int .i64 k ∧ k ≤ n ∧ l.take k = l2.take k ∧ wr = w.drewN q

section
variable {w : World}
theorem equalT_any (l l2 : List Int) (ao ao2 : Option Addr) (n n2 cap cap2 : Nat) (hn : l.length = n) (hn2 : l2.length = n2) (hm : n ≤ maxLen) (hm2 : n2 ≤ maxLen) (h1 : Rd w ao (l.map (Value.int .i64))) (h2 : Rd w ao2 (l2.map (Value.int .i64))) :
    Calls Try.prog 57 #[.slice ao n cap, .slice ao2 n2 cap2] w fun e w' => e = .returned (.bool (decide (l = l2))) ∧ ∃ q, w' = w.drewN q := by
  subst hn hn2
  unfold maxLen at hm hm2
  by_cases hlen : l.length = l2.length
  · have T : ((l.length : Int) != (l2.length : Int)) = false := by simp; omega
    obtain ⟨n2, hn2⟩ : ∃ n2, n2 = l2.length := ⟨_, rfl⟩
    rw [← hn2] at hm2 hlen T ⊢
    rw [hlen] at T ⊢
    have HN2 := Lib.hid hn2; clear hn2
    have HN1 := Lib.hid hlen; clear hlen
    go_enter Try.func57, Try.ntmps57
    go_wp2
    go_loopw [13] (fun i wr => EqRel w l l2 n2 i wr) (fun i _ => n2 - (intOf i).toNat)
    case atStart => exact ⟨0, 0, rfl, by omega, rfl, rfl⟩
    case round =>
      obtain ⟨k, q, rfl, hk, hx, rfl⟩ := hrel
      have HX := Lib.hid hx; clear hx
      by_cases hlt : k < n2
      · have hlt1 : k < l.length := by rw [HN1.out]; exact hlt
        have hlt2 : k < l2.length := by rw [← HN2.out]; exact hlt
        obtain ⟨b, off, rfl, hc⟩ := h1.some_ (by simp; omega)
        obtain ⟨b2, off2, rfl, hc2⟩ := h2.some_ (by simp; omega)
        have d1 := hc k (.int .i64 l[k]) (by simp [hlt1])
        have d3 := hc2 k (.int .i64 l2[k]) (by simp [hlt2])
        clear hc hc2
        have HD1 := Lib.hid (List.take_succ_eq_append_getElem hlt1)
        have HD2 := Lib.hid (List.take_succ_eq_append_getElem hlt2)
        obtain ⟨x, hx⟩ : ∃ x, x = l[k] := ⟨_, rfl⟩
        obtain ⟨y, hy⟩ : ∃ y, y = l2[k] := ⟨_, rfl⟩
        rw [← hx] at d1 HD1
        rw [← hy] at d3 HD2
        clear hx hy
        clear hlt1 hlt2
        by_cases e1 : x = y
        · subst e1
          go_wp2
          go_quiet (fail)
          go_wp2
          go_roundw
          case rel => exact ⟨k + 1, _, by go_num, by omega, by rw [HD1.out, HD2.out, HX.out], rfl⟩
          case measure => simp [intOf]; omega
        · have T1 : (x != y) = true := by simp [e1]
          have E1 := Lib.hid e1; clear e1
          go_wp2
          go_quiet (fail)
          go_wp2
          go_returns
          refine ⟨ret_bool ?_, _, by simp; rfl⟩
          symm; rw [decide_eq_false_iff_not]
          rintro rfl
          have := HD1.out.symm.trans HD2.out
          simp at this
          exact E1.out this
      · have hkl : k = n2 := by omega
        have hll : l = l2 := by
          have := HX.out
          rw [hkl, List.take_of_length_le (by rw [HN1.out]; exact Nat.le_refl _), List.take_of_length_le (by rw [HN2.out]; exact Nat.le_refl _)] at this
          exact this
        have HLL := Lib.hid hll; clear hll
        subst hkl
        go_wp2
        go_returns
        exact ⟨ret_bool (by simp [HLL.out]), q, rfl⟩
  · have T : ((l.length : Int) != (l2.length : Int)) = true := by simp; omega
    have hne : decide (l = l2) = false := by simp; rintro rfl; exact hlen rfl
    rw [hne]
    clear hlen hne
    go_enter Try.func57, Try.ntmps57
    go_wp2
    go_returns
    exact ⟨rfl, 0, rfl⟩
theorem rsameT_any (l l2 : List Int) (ao ao2 : Option Addr) (n n2 cap cap2 : Nat) (hn : l.length = n) (hn2 : l2.length = n2) (hm : n ≤ maxLen) (hm2 : n2 ≤ maxLen) (h1 : Rd w ao (l.map (Value.int .i64))) (h2 : Rd w ao2 (l2.map (Value.int .i64))) :
    Calls Try.prog 24 #[.slice ao n cap, .slice ao2 n2 cap2] w fun e w' => e = .returned (.bool (decide (l = l2))) ∧ ∃ q, w' = w.drewN q := by
  subst hn hn2
  unfold maxLen at hm hm2
  by_cases hlen : l.length = l2.length
  · have T : ((l.length : Int) != (l2.length : Int)) = false := by simp; omega
    obtain ⟨n2, hn2⟩ : ∃ n2, n2 = l2.length := ⟨_, rfl⟩
    rw [← hn2] at hm2 hlen T ⊢
    rw [hlen] at T ⊢
    have HN2 := Lib.hid hn2; clear hn2
    have HN1 := Lib.hid hlen; clear hlen
    go_enter Try.func24, Try.ntmps24
    go_wp2
    go_loopw [5] (fun i wr => EqRel w l l2 n2 i wr) (fun i _ => n2 - (intOf i).toNat)
    case atStart => exact ⟨0, 0, rfl, by omega, rfl, rfl⟩
    case round =>
      obtain ⟨k, q, rfl, hk, hx, rfl⟩ := hrel
      have HX := Lib.hid hx; clear hx
      by_cases hlt : k < n2
      · have hlt1 : k < l.length := by rw [HN1.out]; exact hlt
        have hlt2 : k < l2.length := by rw [← HN2.out]; exact hlt
        obtain ⟨b, off, rfl, hc⟩ := h1.some_ (by simp; omega)
        obtain ⟨b2, off2, rfl, hc2⟩ := h2.some_ (by simp; omega)
        have d1 := hc k (.int .i64 l[k]) (by simp [hlt1])
        have d3 := hc2 k (.int .i64 l2[k]) (by simp [hlt2])
        clear hc hc2
        have HD1 := Lib.hid (List.take_succ_eq_append_getElem hlt1)
        have HD2 := Lib.hid (List.take_succ_eq_append_getElem hlt2)
        obtain ⟨x, hx⟩ : ∃ x, x = l[k] := ⟨_, rfl⟩
        obtain ⟨y, hy⟩ : ∃ y, y = l2[k] := ⟨_, rfl⟩
        rw [← hx] at d1 HD1
        rw [← hy] at d3 HD2
        clear hx hy
        clear hlt1 hlt2
        by_cases e1 : x = y
        · subst e1
          go_wp2
          go_quiet (fail)
          go_wp2
          go_roundw
          case rel => exact ⟨k + 1, _, by go_num, by omega, by rw [HD1.out, HD2.out, HX.out], rfl⟩
          case measure => simp [intOf]; omega
        · have T1 : (x != y) = true := by simp [e1]
          have E1 := Lib.hid e1; clear e1
          go_wp2
          go_quiet (fail)
          go_wp2
          go_returns
          refine ⟨ret_bool ?_, _, by simp; rfl⟩
          symm; rw [decide_eq_false_iff_not]
          rintro rfl
          have := HD1.out.symm.trans HD2.out
          simp at this
          exact E1.out this
      · have hkl : k = n2 := by omega
        have hll : l = l2 := by
          have := HX.out
          rw [hkl, List.take_of_length_le (by rw [HN1.out]; exact Nat.le_refl _), List.take_of_length_le (by rw [HN2.out]; exact Nat.le_refl _)] at this
          exact this
        have HLL := Lib.hid hll; clear hll
        subst hkl
        go_wp2
        go_returns
        exact ⟨ret_bool (by simp [HLL.out]), q, rfl⟩
  · have T : ((l.length : Int) != (l2.length : Int)) = true := by simp; omega
    have hne : decide (l = l2) = false := by simp; rintro rfl; exact hlen rfl
    rw [hne]
    clear hlen hne
    go_enter Try.func24, Try.ntmps24
    go_wp2
    go_returns
    exact ⟨rfl, 0, rfl⟩
theorem equalI_any (l l2 : List (Int × Int)) (ao ao2 : Option Addr) (n n2 cap cap2 : Nat) (hn : l.length = n) (hn2 : l2.length = n2) (hm : n ≤ maxLen) (hm2 : n2 ≤ maxLen) (h1 : Rd w ao (pvs .i64 .i64 l)) (h2 : Rd w ao2 (pvs .i64 .i64 l2)) :
    Calls Try.prog 34 #[.slice ao n cap, .slice ao2 n2 cap2] w fun e w' => e = .returned (.bool (decide (l = l2))) ∧ ∃ q, w' = w.drewN q := by
  subst hn hn2
  unfold maxLen at hm hm2
  by_cases hlen : l.length = l2.length
  · have T : ((l.length : Int) != (l2.length : Int)) = false := by simp; omega
    obtain ⟨n2, hn2⟩ : ∃ n2, n2 = l2.length := ⟨_, rfl⟩
    rw [← hn2] at hm2 hlen T ⊢
    rw [hlen] at T ⊢
    have HN2 := Lib.hid hn2; clear hn2
    have HN1 := Lib.hid hlen; clear hlen
    go_enter Try.func34, Try.ntmps34
    go_wp2
    go_loopw [13] (fun i wr => EqRel w l l2 n2 i wr) (fun i _ => n2 - (intOf i).toNat)
    case atStart => exact ⟨0, 0, rfl, by omega, rfl, rfl⟩
    case round =>
      obtain ⟨k, q, rfl, hk, hx, rfl⟩ := hrel
      have HX := Lib.hid hx; clear hx
      by_cases hlt : k < n2
      · have hlt1 : k < l.length := by rw [HN1.out]; exact hlt
        have hlt2 : k < l2.length := by rw [← HN2.out]; exact hlt
        obtain ⟨b, off, rfl, hc⟩ := h1.some_ (by rw [pvs_len]; omega)
        obtain ⟨b2, off2, rfl, hc2⟩ := h2.some_ (by rw [pvs_len]; omega)
        obtain ⟨v1, v2⟩ := pvs_get .i64 .i64 l k hlt1
        obtain ⟨v3, v4⟩ := pvs_get .i64 .i64 l2 k hlt2
        have d1 := hc _ _ v1
        have d2 := hc _ _ v2
        have d3 := hc2 _ _ v3
        have d4 := hc2 _ _ v4
        rw [← Nat.add_assoc] at d2 d4
        clear hc hc2 v1 v2 v3 v4
        have HD1 := Lib.hid (List.take_succ_eq_append_getElem hlt1)
        have HD2 := Lib.hid (List.take_succ_eq_append_getElem hlt2)
        obtain ⟨x, hx⟩ : ∃ x, x = l[k] := ⟨_, rfl⟩
        obtain ⟨y, hy⟩ : ∃ y, y = l2[k] := ⟨_, rfl⟩
        rw [← hx] at d1 d2 HD1
        rw [← hy] at d3 d4 HD2
        clear hx hy
        clear hlt1 hlt2
        obtain ⟨x1, x2⟩ := x
        obtain ⟨y1, y2⟩ := y
        simp only at d1 d2 d3 d4
        by_cases e1 : x1 = y1
        · subst e1
          by_cases e2 : x2 = y2
          · subst e2
            go_wp2
            go_quiet (fail)
            go_wp2
            go_roundw
            case rel => exact ⟨k + 1, _, by go_num, by omega, by rw [HD1.out, HD2.out, HX.out], rfl⟩
            case measure => simp [intOf]; omega
          · have T1 : (x2 == y2) = false := by simp [e2]
            have E2 := Lib.hid e2; clear e2
            go_wp2
            go_quiet (fail)
            go_wp2
            go_returns
            refine ⟨ret_bool ?_, _, by simp; rfl⟩
            symm; rw [decide_eq_false_iff_not]
            rintro rfl
            have := HD1.out.symm.trans HD2.out
            simp at this
            exact E2.out this
        · have T1 : (x1 == y1) = false := by simp [e1]
          have E1 := Lib.hid e1; clear e1
          go_wp2
          go_quiet (fail)
          go_wp2
          go_returns
          refine ⟨ret_bool ?_, _, by simp; rfl⟩
          symm; rw [decide_eq_false_iff_not]
          rintro rfl
          have := HD1.out.symm.trans HD2.out
          simp at this
          exact E1.out this.1
      · have hkl : k = n2 := by omega
        have hll : l = l2 := by
          have := HX.out
          rw [hkl, List.take_of_length_le (by rw [HN1.out]; exact Nat.le_refl _), List.take_of_length_le (by rw [HN2.out]; exact Nat.le_refl _)] at this
          exact this
        have HLL := Lib.hid hll; clear hll
        subst hkl
        go_wp2
        go_returns
        exact ⟨ret_bool (by simp [HLL.out]), q, rfl⟩
  · have T : ((l.length : Int) != (l2.length : Int)) = true := by simp; omega
    have hne : decide (l = l2) = false := by simp; rintro rfl; exact hlen rfl
    rw [hne]
    clear hlen hne
    go_enter Try.func34, Try.ntmps34
    go_wp2
    go_returns
    exact ⟨rfl, 0, rfl⟩
theorem equalC_any (l l2 : List (Int × Int)) (ao ao2 : Option Addr) (n n2 cap cap2 : Nat) (hn : l.length = n) (hn2 : l2.length = n2) (hm : n ≤ maxLen) (hm2 : n2 ≤ maxLen) (h1 : Rd w ao (pvs .i64 .i64 l)) (h2 : Rd w ao2 (pvs .i64 .i64 l2)) :
    Calls Try.prog 37 #[.slice ao n cap, .slice ao2 n2 cap2] w fun e w' => e = .returned (.bool (decide (l = l2))) ∧ ∃ q, w' = w.drewN q := by
  subst hn hn2
  unfold maxLen at hm hm2
  by_cases hlen : l.length = l2.length
  · have T : ((l.length : Int) != (l2.length : Int)) = false := by simp; omega
    obtain ⟨n2, hn2⟩ : ∃ n2, n2 = l2.length := ⟨_, rfl⟩
    rw [← hn2] at hm2 hlen T ⊢
    rw [hlen] at T ⊢
    have HN2 := Lib.hid hn2; clear hn2
    have HN1 := Lib.hid hlen; clear hlen
    go_enter Try.func37, Try.ntmps37
    go_wp2
    go_loopw [13] (fun i wr => EqRel w l l2 n2 i wr) (fun i _ => n2 - (intOf i).toNat)
    case atStart => exact ⟨0, 0, rfl, by omega, rfl, rfl⟩
    case round =>
      obtain ⟨k, q, rfl, hk, hx, rfl⟩ := hrel
      have HX := Lib.hid hx; clear hx
      by_cases hlt : k < n2
      · have hlt1 : k < l.length := by rw [HN1.out]; exact hlt
        have hlt2 : k < l2.length := by rw [← HN2.out]; exact hlt
        obtain ⟨b, off, rfl, hc⟩ := h1.some_ (by rw [pvs_len]; omega)
        obtain ⟨b2, off2, rfl, hc2⟩ := h2.some_ (by rw [pvs_len]; omega)
        obtain ⟨v1, v2⟩ := pvs_get .i64 .i64 l k hlt1
        obtain ⟨v3, v4⟩ := pvs_get .i64 .i64 l2 k hlt2
        have d1 := hc _ _ v1
        have d2 := hc _ _ v2
        have d3 := hc2 _ _ v3
        have d4 := hc2 _ _ v4
        rw [← Nat.add_assoc] at d2 d4
        clear hc hc2 v1 v2 v3 v4
        have HD1 := Lib.hid (List.take_succ_eq_append_getElem hlt1)
        have HD2 := Lib.hid (List.take_succ_eq_append_getElem hlt2)
        obtain ⟨x, hx⟩ : ∃ x, x = l[k] := ⟨_, rfl⟩
        obtain ⟨y, hy⟩ : ∃ y, y = l2[k] := ⟨_, rfl⟩
        rw [← hx] at d1 d2 HD1
        rw [← hy] at d3 d4 HD2
        clear hx hy
        clear hlt1 hlt2
        obtain ⟨x1, x2⟩ := x
        obtain ⟨y1, y2⟩ := y
        simp only at d1 d2 d3 d4
        by_cases e1 : x1 = y1
        · subst e1
          by_cases e2 : x2 = y2
          · subst e2
            go_wp2
            go_quiet (fail)
            go_wp2
            go_roundw
            case rel => exact ⟨k + 1, _, by go_num, by omega, by rw [HD1.out, HD2.out, HX.out], rfl⟩
            case measure => simp [intOf]; omega
          · have T1 : (x2 == y2) = false := by simp [e2]
            have E2 := Lib.hid e2; clear e2
            go_wp2
            go_quiet (fail)
            go_wp2
            go_returns
            refine ⟨ret_bool ?_, _, by simp; rfl⟩
            symm; rw [decide_eq_false_iff_not]
            rintro rfl
            have := HD1.out.symm.trans HD2.out
            simp at this
            exact E2.out this
        · have T1 : (x1 == y1) = false := by simp [e1]
          have E1 := Lib.hid e1; clear e1
          go_wp2
          go_quiet (fail)
          go_wp2
          go_returns
          refine ⟨ret_bool ?_, _, by simp; rfl⟩
          symm; rw [decide_eq_false_iff_not]
          rintro rfl
          have := HD1.out.symm.trans HD2.out
          simp at this
          exact E1.out this.1
      · have hkl : k = n2 := by omega
        have hll : l = l2 := by
          have := HX.out
          rw [hkl, List.take_of_length_le (by rw [HN1.out]; exact Nat.le_refl _), List.take_of_length_le (by rw [HN2.out]; exact Nat.le_refl _)] at this
          exact this
        have HLL := Lib.hid hll; clear hll
        subst hkl
        go_wp2
        go_returns
        exact ⟨ret_bool (by simp [HLL.out]), q, rfl⟩
  · have T : ((l.length : Int) != (l2.length : Int)) = true := by simp; omega
    have hne : decide (l = l2) = false := by simp; rintro rfl; exact hlen rfl
    rw [hne]
    clear hlen hne
    go_enter Try.func37, Try.ntmps37
    go_wp2
    go_returns
    exact ⟨rfl, 0, rfl⟩

theorem ksame_any (l l2 : List Int) (ao ao2 : Option Addr) (n n2 cap cap2 : Nat) (hn : l.length = n) (hn2 : l2.length = n2) (hm : n ≤ maxLen) (hm2 : n2 ≤ maxLen) (h1 : Rd w ao (l.map (Value.int .i64))) (h2 : Rd w ao2 (l2.map (Value.int .i64))) :
    Calls Try.prog 33 #[.slice ao n cap, .slice ao2 n2 cap2] w fun e w' => e = .returned (.bool (decide (l = l2))) ∧ ∃ q, w' = w.drewN q := by
  have HE := Lib.hid (equalT_any l l2 ao ao2 n n2 cap cap2 hn hn2 hm hm2 h1 h2)
  clear hn hn2
  go_enter Try.func33, Try.ntmps33
  go_wp2_with (go_at_call 57; refine HE.out.mono ?_; rintro e w' ⟨rfl, q, rfl⟩)
  go_returns
  exact ⟨rfl, q, rfl⟩
end
end Go.Proofs.Ytebolbjbfnolpab
