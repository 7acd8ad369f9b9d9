/-
  The reference's web: a list of pairs: Of, Linked, Link, Cut.
-/
import Derived.Test.YtihpcaklknbjiaaLnkP
namespace Go.Proofs.Ytihpcaklknbjiaa
open Go.RowKit HP
open Go.Proofs.Ytihpcaklknbjiaa.Lnk

abbrev Pr := Int × Int
def pv (m : Pr) : List Value := [.int .i64 m.1, .int .i64 m.2]
def pvs (l : List Pr) : List Value := l.flatMap pv
theorem pvs_len (l : List Pr) : (pvs l).length = l.length * 2 := by
  induction l with
  | nil => rfl
  | cons m r ih => simp only [pvs, List.flatMap_cons, List.length_append, List.length_cons] at ih ⊢; rw [ih]; simp [pv]; omega
theorem pvs_append (l l2 : List Pr) : pvs (l ++ l2) = pvs l ++ pvs l2 := by simp [pvs]
theorem pvs_one (l : List Pr) : ∀ u ∈ pvs l, u.oneCell' = true := by
  intro u hu
  simp only [pvs, List.mem_flatMap] at hu
  obtain ⟨m, _, hu⟩ := hu
  simp [pv] at hu
  rcases hu with rfl | rfl <;> rfl
theorem pvs_get (l : List Pr) (k : Nat) (h : k < l.length) : (pvs l)[k * 2]? = some (.int .i64 l[k].1) ∧ (pvs l)[k * 2 + 1]? = some (.int .i64 l[k].2) := by
  induction l generalizing k with
  | nil => simp at h
  | cons m r ih =>
    cases k with
    | zero => exact ⟨rfl, rfl⟩
    | succ k =>
      have := ih k (by simpa using h)
      have e : pvs (m :: r) = .int .i64 m.1 :: .int .i64 m.2 :: pvs r := rfl
      rw [e, show (k + 1) * 2 = k * 2 + 1 + 1 by omega, show k * 2 + 1 + 1 + 1 = (k * 2 + 1) + 1 + 1 by omega]
      simpa using this
theorem info_pair : (Try.prog.info? 51).map (fun i => (i.zero, i.size, i.bytes)) = some (some (.agg #[.int .i64 0, .int .i64 0]), 2, 16) := by kernel_rfl
theorem under_pairs : Try.prog.underlying 28 = some (.slice 51) := by kernel_rfl

namespace Lnk
def rOfStep (a : Int) (o : List Int) (p : Pr) : List Int := if p.2 = a then insI (if p.1 = a then insI o p.2 else o) p.1 else (if p.1 = a then insI o p.2 else o)
def rOf (l : List Pr) (a : Int) : List Int := l.foldl (rOfStep a) []
theorem rOfStep_rising {o : List Int} (h : o.Pairwise (· < ·)) (a : Int) (p : Pr) : (rOfStep a o p).Pairwise (· < ·) := by
  unfold rOfStep
  split <;> split <;> simp only [insI_rising, h]
theorem rOfStep_mem {a : Int} {o : List Int} {p : Pr} {y : Int} : y ∈ rOfStep a o p ↔ y ∈ o ∨ p = (a, y) ∨ p = (y, a) := by
  obtain ⟨p1, p2⟩ := p
  unfold rOfStep
  simp only [Prod.mk.injEq]
  by_cases h2 : p2 = a <;> by_cases h1 : p1 = a <;> simp only [h1, h2, if_true, if_false, insI_mem] <;> grind
theorem rOfF_rising (a : Int) : ∀ (l : List Pr) (o : List Int), o.Pairwise (· < ·) → (l.foldl (rOfStep a) o).Pairwise (· < ·)
  | [], _, h => h
  | p :: l, _, h => rOfF_rising a l _ (rOfStep_rising h a p)
theorem rOfF_mem (a y : Int) : ∀ (l : List Pr) (o : List Int), y ∈ l.foldl (rOfStep a) o ↔ y ∈ o ∨ (a, y) ∈ l ∨ (y, a) ∈ l
  | [], o => by simp
  | p :: l, o => by
    rw [List.foldl_cons, rOfF_mem a y l, rOfStep_mem]
    simp only [List.mem_cons]
    constructor
    · rintro ((h | h | h) | h | h)
      · exact .inl h
      · exact .inr (.inl (.inl h.symm))
      · exact .inr (.inr (.inl h.symm))
      · exact .inr (.inl (.inr h))
      · exact .inr (.inr (.inr h))
    · rintro (h | (h | h) | (h | h))
      · exact .inl (.inl h)
      · exact .inl (.inr (.inl h.symm))
      · exact .inr (.inl h)
      · exact .inl (.inr (.inr h.symm))
      · exact .inr (.inr h)
def NoSelf (l : List Pr) : Prop := ∀ p ∈ l, p.1 ≠ p.2
section
variable {N : Int → List Int} {U : List Int} {l : List Pr} {a b : Int}
theorem rOf_eq (hI : Is N l) (hs : NoSelf l) (hn : (N a).Nodup) : rOf l a = sortI (N a) := by
  refine rising_unique (rOfF_rising a l [] List.Pairwise.nil) (sortI_rising hn) fun y => ?_
  unfold rOf
  rw [rOfF_mem, mem_sortI, hI]
  simp only [List.not_mem_nil, false_or]
  refine ⟨fun h => ⟨?_, h⟩, fun h => h.2⟩
  rcases h with h | h
  · exact hs _ h
  · exact (hs _ h).symm
def HasP (l : List Pr) (a b : Int) : Prop := (a, b) ∈ l ∨ (b, a) ∈ l
instance (l : List Pr) (a b : Int) : Decidable (HasP l a b) := inferInstanceAs (Decidable (_ ∨ _))
theorem hasP_eq (hI : Is N l) (hs : NoSelf l) : HasP l a b ↔ b ∈ N a := by
  rw [hI]
  refine ⟨fun h => ⟨?_, h⟩, fun h => h.2⟩
  rcases h with h | h
  · exact hs _ h
  · exact (hs _ h).symm
theorem Is.link (hI : Is N l) (hO : Ok N U) (h0 : (lk N a b).1 = 0) : Is (lk N a b).2 (l ++ [(a, b)]) := by
  intro x y
  rw [lk0_mem hO h0, hI]
  simp only [Lk, List.mem_append, List.mem_singleton, Prod.mk.injEq]
  constructor
  · rintro (⟨h1, h2 | h2⟩ | ⟨h1, h2 | h2⟩)
    · exact ⟨h1, .inl (.inl h2)⟩
    · exact ⟨h1, .inr (.inl h2)⟩
    · exact ⟨h1, .inl (.inr h2)⟩
    · exact ⟨h1, .inr (.inr ⟨h2.2, h2.1⟩)⟩
  · rintro ⟨h1, (h2 | h2) | (h2 | h2)⟩
    · exact .inl ⟨h1, .inl h2⟩
    · exact .inr ⟨h1, .inl h2⟩
    · exact .inl ⟨h1, .inr h2⟩
    · exact .inr ⟨h1, .inr ⟨h2.2, h2.1⟩⟩
theorem NoSelf.link (h : NoSelf l) (hab : a ≠ b) : NoSelf (l ++ [(a, b)]) := fun p hp => by
  rcases List.mem_append.1 hp with hp | hp
  · exact h p hp
  · simp at hp; subst hp; exact hab
def cutP (a : Int) (p : Pr) : Bool := p.1 != a && p.2 != a
theorem Is.cut (hI : Is N l) (a : Int) : Is (ct N a) (l.filter (cutP a)) := by
  intro x y
  rw [ct_mem, hI]
  simp only [Lk, List.mem_filter, cutP, Bool.and_eq_true, bne_iff_ne, ne_eq]
  constructor
  · rintro ⟨h1, h2, h3, h4 | h4⟩
    · exact ⟨h3, .inl ⟨h4, h1, h2⟩⟩
    · exact ⟨h3, .inr ⟨h4, h2, h1⟩⟩
  · rintro ⟨h1, ⟨h2, h3, h4⟩ | ⟨h2, h3, h4⟩⟩
    · exact ⟨h3, h4, h1, .inl h2⟩
    · exact ⟨h4, h3, h1, .inr h2⟩
theorem NoSelf.cut (h : NoSelf l) (a : Int) : NoSelf (l.filter (cutP a)) := fun p hp => h p (List.mem_filter.1 hp).1
end
end Lnk

section
variable {w0 w : World} {L : List HP} {m : Nat} {l : List Pr}
def HP.rweb (m : Nat) (l : List Pr) : HP := ex fun ao => ex fun cap =>
  sep [HP.one m (.cells #[.slice ao l.length cap] 30 (0, 0)), row 51 2 ao l.length cap (pvs l)]
theorem At.rweb_op (h : At w0 w (HP.rweb m l :: L)) : ∃ ao cap, At w0 w (HP.one m (.cells #[.slice ao l.length cap] 30 (0, 0)) :: row 51 2 ao l.length cap (pvs l) :: L) := by
  obtain ⟨ao, h⟩ := h.ex
  obtain ⟨cap, h⟩ := h.ex
  exact ⟨ao, cap, h.sep⟩
theorem At.rweb_cl {ao : Option Addr} {n cap : Nat} (hn : l.length = n) (h : At w0 w (HP.one m (.cells #[.slice ao n cap] 30 (0, 0)) :: row 51 2 ao n cap (pvs l) :: L)) : At w0 w (HP.rweb m l :: L) := by
  subst hn
  exact At.ex_mk ao (At.ex_mk cap (At.sep_mk h))

def RoRel (w0 : World) (L : List HP) (m : Nat) (l : List Pr) (a : Int) (ao : Option Addr) (n cap : Nat) (s i : Value) (wr : World) : Prop :=
  ∃ (j n1 : Nat) (o : List Int) (ao1 : Option Addr) (cap1 : Nat), i = .int .i64 j ∧ j ≤ n ∧ s = .slice ao1 n1 cap1 ∧ o.length = n1 ∧ n1 ≤ 2 * j ∧ (l.drop j).foldl (rOfStep a) o = rOf l a ∧
    At w0 wr (row 2 1 ao1 n1 cap1 (o.map (Value.int .i64)) :: HP.one m (.cells #[.slice ao n cap] 30 (0, 0)) :: row 51 2 ao n cap (pvs l) :: L)
theorem eqb (x y : Int) : ((x == y) = true ∧ x = y) ∨ ((x == y) = false ∧ x ≠ y) := by
  by_cases h : x = y
  · exact .inl ⟨by simp [h], h⟩
  · exact .inr ⟨by simp [h], h⟩
theorem neb (x y : Int) : ((x != y) = false ∧ x = y) ∨ ((x != y) = true ∧ x ≠ y) := by
  by_cases h : x = y
  · exact .inl ⟨by simp [h], h⟩
  · exact .inr ⟨by simp [h], h⟩

set_option maxHeartbeats 4000000 in
theorem rof_any (a : Int) (hl : l.length ≤ 1000) (hA : At w0 w (HP.rweb m l :: L)) :
    Calls Try.prog 20 #[.pointer (some ⟨m, 0, none⟩), .int .i64 a] w fun e w' => ∃ ao cap, e = .returned (.slice ao (rOf l a).length cap) ∧
      At w0 w' (row 2 1 ao (rOf l a).length cap ((rOf l a).map (Value.int .i64)) :: HP.rweb m l :: L) := by
  obtain ⟨ao, cap, hB⟩ := hA.rweb_op
  obtain ⟨n, hn⟩ : ∃ n, l.length = n := ⟨_, rfl⟩
  rw [hn] at hB hl
  have HN := Lib.hid hn; clear hn
  go_enter Try.func20, Try.ntmps20
  go_wp2
  go_loopw [5, 6] (fun s i wr => RoRel w0 L m l a ao n cap s i wr) (fun _ i _ => n - (intOf i).toNat)
  case atStart => exact ⟨0, 0, [], none, 0, rfl, Nat.zero_le _, rfl, rfl, Nat.zero_le _, rfl, hB.row_nil _ _⟩
  case round =>
    clear hB
    obtain ⟨j, n1, o, ao1, cap1, rfl, hj, rfl, ho, hn1, he, hr⟩ := hrel
    have c0 := hr.pick2.cell 0
    by_cases hlt : j < n
    · have hjl : j < l.length := by rw [HN.out]; exact hlt
      obtain ⟨b, off, rfl⟩ := hr.pick3.row_some (by rw [pvs_len, HN.out]; omega)
      obtain ⟨v1, v2⟩ := pvs_get l j hjl
      have d1 := hr.pick3.rd.at_ _ _ v1
      have d2 := hr.pick3.rd.at_ _ _ v2
      rw [← Nat.add_assoc] at d2
      rw [List.drop_eq_getElem_cons hjl, List.foldl_cons] at he
      generalize l[j] = q at *
      obtain ⟨x, y⟩ := q
      simp only at d1 d2 v1 v2
      unfold rOfStep at he
      simp only at he
      clear hjl
      have hin := fun (w : World) (L : List HP) (z : Int) (o : List Int) (n : Nat) (ao : Option Addr) (cap : Nat) (hn : o.length = n) (hm : n ≤ 100000) (hrd : Rd w ao (o.map (Value.int .i64))) (h : At w0 w L) => insert_in o z ao n cap hn hm hrd h
      have HIN := Lib.hid hin; clear hin
      have HO := Lib.hid ho; clear ho
      have HV1 := Lib.hid v1; clear v1
      have HV2 := Lib.hid v2; clear v2
      rcases eqb x a with ⟨T1, e1⟩ | ⟨T1, e1⟩ <;> rcases eqb y a with ⟨T2, e2⟩ | ⟨T2, e2⟩
      · rw [if_pos e1, if_pos e2] at he
        have hl1 := insI_len o y
        have hl2 := insI_len (insI o y) x
        have hl1' : (insI o y).length ≤ 2 * j + 1 := by rw [HO.out] at hl1; omega
        have hl2' : (insI (insI o y) x).length ≤ 2 * (j + 1) := by omega
        have HE := Lib.hid he; clear he
        clear hl1 hl2 e1 e2
        go_wp2_with (first
          | (go_at_call 23; with_reducible refine (HIN.out _ _ _ _ _ _ _ rfl (by omega) h5.rd h5).mono ?_; rintro e w6 ⟨a6, c6, rfl, h6⟩)
          | (go_at_call 23; with_reducible refine (HIN.out _ _ _ _ _ _ _ HO.out (by omega) hr.rd hr).mono ?_; rintro e w5 ⟨a5, c5, rfl, h5⟩; have f0 := h5.pick3.cell 0; have f1 := h5.pick4.rd.at_ _ _ HV1.out; have f2 := h5.pick4.rd.at_ _ _ HV2.out; rw [← Nat.add_assoc] at f2))
        go_roundw
        case rel => exact ⟨j + 1, _, _, _, _, by go_num, by omega, rfl, rfl, hl2', HE.out, h6.pick2.drop.pick2.drop⟩
        case measure => simp [intOf]; omega
      · rw [if_pos e1, if_neg e2] at he
        have hl1 := insI_len o y
        have hl1' : (insI o y).length ≤ 2 * (j + 1) := by rw [HO.out] at hl1; omega
        have HE := Lib.hid he; clear he
        clear hl1 e1 e2
        go_wp2_with (first
          | (go_at_call 23; with_reducible refine (HIN.out _ _ _ _ _ _ _ HO.out (by omega) hr.rd hr).mono ?_; rintro e w5 ⟨a5, c5, rfl, h5⟩; have f0 := h5.pick3.cell 0; have f1 := h5.pick4.rd.at_ _ _ HV1.out; have f2 := h5.pick4.rd.at_ _ _ HV2.out; rw [← Nat.add_assoc] at f2))
        go_roundw
        case rel => exact ⟨j + 1, _, _, _, _, by go_num, by omega, rfl, rfl, hl1', HE.out, h5.pick2.drop⟩
        case measure => simp [intOf]; omega
      · rw [if_neg e1, if_pos e2] at he
        have hl1 := insI_len o x
        have hl1' : (insI o x).length ≤ 2 * (j + 1) := by rw [HO.out] at hl1; omega
        have HE := Lib.hid he; clear he
        clear hl1 e1 e2
        go_wp2_with (first
          | (go_at_call 23; with_reducible refine (HIN.out _ _ _ _ _ _ _ HO.out (by omega) hr.rd hr).mono ?_; rintro e w5 ⟨a5, c5, rfl, h5⟩))
        go_roundw
        case rel => exact ⟨j + 1, _, _, _, _, by go_num, by omega, rfl, rfl, hl1', HE.out, h5.pick2.drop⟩
        case measure => simp [intOf]; omega
      · rw [if_neg e1, if_neg e2] at he
        have HE := Lib.hid he; clear he
        clear e1 e2
        go_wp2
        go_roundw
        case rel => exact ⟨j + 1, n1, o, _, _, by go_num, by omega, rfl, HO.out, by omega, HE.out, hr⟩
        case measure => simp [intOf]; omega
    · rw [List.drop_of_length_le (by rw [HN.out]; omega), List.foldl_nil] at he
      have HE := Lib.hid he; clear he
      have HO := Lib.hid ho; clear ho
      go_wp2
      go_returns
      rw [← HE.out, HO.out]
      exact ⟨_, _, rfl, (At.rweb_cl HN.out (hr.pick3.pick3)).pick2⟩

def RlRel (w : World) (l : List Pr) (a b : Int) (n : Nat) (i : Value) (wr : World) : Prop := ∃ k : Nat, i = .int .i64 k ∧ k ≤ n ∧ ¬ HasP (l.take k) a b ∧ wr = w
set_option maxHeartbeats 4000000 in
theorem rlinked_any (a b : Int) (hl : l.length ≤ 1000) (hA : At w0 w (HP.rweb m l :: L)) :
    Calls Try.prog 18 #[.pointer (some ⟨m, 0, none⟩), .int .i64 a, .int .i64 b] w fun e w' => e = .returned (.bool (decide (HasP l a b))) ∧ w' = w := by
  obtain ⟨ao, cap, hB⟩ := hA.rweb_op
  obtain ⟨n, hn⟩ : ∃ n, l.length = n := ⟨_, rfl⟩
  rw [hn] at hB hl
  have c0 := hB.cell 0
  have HN := Lib.hid hn; clear hn
  go_enter Try.func18, Try.ntmps18
  go_wp2
  go_loopw [7] (fun i wr => RlRel w l a b n i wr) (fun i _ => n - (intOf i).toNat)
  case atStart => exact ⟨0, rfl, Nat.zero_le _, by simp [HasP], rfl⟩
  case round =>
    obtain ⟨j, rfl, hj, hx, rfl⟩ := hrel
    by_cases hlt : j < n
    · have hjl : j < l.length := by rw [HN.out]; exact hlt
      obtain ⟨g, off, rfl⟩ := hB.pick2.row_some (by rw [pvs_len, HN.out]; omega)
      obtain ⟨v1, v2⟩ := pvs_get l j hjl
      have d1 := hB.pick2.rd.at_ _ _ v1
      have d2 := hB.pick2.rd.at_ _ _ v2
      rw [← Nat.add_assoc] at d2
      have htk := List.take_succ_eq_append_getElem hjl
      have hmem := List.getElem_mem hjl
      generalize l[j] = q at *
      obtain ⟨x, y⟩ := q
      simp only at d1 d2 v1 v2
      clear v1 v2 hjl
      by_cases hh : (x = a ∧ y = b) ∨ (x = b ∧ y = a)
      · have hp : decide (HasP l a b) = true := decide_eq_true (by
          rcases hh with ⟨rfl, rfl⟩ | ⟨rfl, rfl⟩
          · exact .inl hmem
          · exact .inr hmem)
        have HPP := Lib.hid hp
        clear hp hx htk hmem
        rcases eqb x a with ⟨T1, e1⟩ | ⟨T1, e1⟩ <;> rcases eqb y b with ⟨T2, e2⟩ | ⟨T2, e2⟩ <;> rcases eqb x b with ⟨T3, e3⟩ | ⟨T3, e3⟩ <;> rcases eqb y a with ⟨T4, e4⟩ | ⟨T4, e4⟩
        all_goals first
          | (exfalso; rcases hh with ⟨h1, h2⟩ | ⟨h1, h2⟩ <;> first | exact e1 h1 | exact e2 h2 | exact e3 h1 | exact e4 h2)
          | (clear hh e1 e2 e3 e4
             go_wp2
             go_returns
             exact ⟨ret_bool HPP.out.symm, rfl⟩)
      · have hx2 : ¬ HasP (l.take (j + 1)) a b := by
          rw [htk]
          rintro (h | h)
          · rcases List.mem_append.1 h with h | h
            · exact hx (.inl h)
            · simp at h; exact hh (.inl ⟨h.1.symm, h.2.symm⟩)
          · rcases List.mem_append.1 h with h | h
            · exact hx (.inr h)
            · simp at h; exact hh (.inr ⟨h.1.symm, h.2.symm⟩)
        have HX := Lib.hid hx2; clear hx2 hx htk hmem
        rcases eqb x a with ⟨T1, e1⟩ | ⟨T1, e1⟩ <;> rcases eqb y b with ⟨T2, e2⟩ | ⟨T2, e2⟩ <;> rcases eqb x b with ⟨T3, e3⟩ | ⟨T3, e3⟩ <;> rcases eqb y a with ⟨T4, e4⟩ | ⟨T4, e4⟩
        all_goals first
          | (exfalso; first | exact hh (.inl ⟨e1, e2⟩) | exact hh (.inr ⟨e3, e4⟩))
          | (clear hh e1 e2 e3 e4
             go_wp2
             go_roundw
             case rel => exact ⟨j + 1, by go_num, by omega, HX.out, rfl⟩
             case measure => simp [intOf]; omega)
    · rw [List.take_of_length_le (by rw [HN.out]; omega)] at hx
      have HX := Lib.hid (decide_eq_false hx)
      clear hx
      go_wp2
      go_returns
      exact ⟨ret_bool HX.out.symm, rfl⟩
end
end Go.Proofs.Ytihpcaklknbjiaa
