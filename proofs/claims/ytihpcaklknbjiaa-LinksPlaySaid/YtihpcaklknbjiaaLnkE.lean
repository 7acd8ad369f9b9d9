/-
  The law's helpers: SameLongs, lives; what a web that isn't there does.
-/
import Derived.Test.YtihpcaklknbjiaaLnkD
import Derived.BigQuiet
namespace Go.Proofs.Ytihpcaklknbjiaa
open Go.RowKit HP Go.MapKept Go.Maps
open Go.Proofs.Ytihpcaklknbjiaa.Lnk

section
variable {w0 w : World} {L : List HP}
def SlRel {α : Type} (w : World) (l l2 : List α) (n : Nat) (i : Value) (wr : World) : Prop := ∃ k q : Nat, i = .int .i64 k ∧ k ≤ n ∧ l.take k = l2.take k ∧ wr = w.drewN q
theorem sameLongs_any (l l2 : List Int) (ao ao2 : Option Addr) (n n2 cap cap2 : Nat) (hn : l.length = n) (hn2 : l2.length = n2) (hm : n ≤ maxLen) (hm2 : n2 ≤ maxLen) (h1 : Rd w ao (l.map (Value.int .i64))) (h2 : Rd w ao2 (l2.map (Value.int .i64))) :
    Calls Try.prog 12 #[.slice ao n cap, .slice ao2 n2 cap2] w fun e w' => e = .returned (.bool (decide (l = l2))) ∧ ∃ q, w' = w.drewN q := by
  subst hn hn2
  unfold maxLen at hm hm2
  by_cases hlen : l.length = l2.length
  · have T : ((l.length : Int) != (l2.length : Int)) = false := by simp; omega
    obtain ⟨n2, hn2⟩ : ∃ n2, n2 = l2.length := ⟨_, rfl⟩
    rw [← hn2] at hm2 hlen T ⊢
    rw [hlen] at T ⊢
    have HN2 := Lib.hid hn2; clear hn2
    have HN1 := Lib.hid hlen; clear hlen
    go_enter Try.func12, Try.ntmps12
    go_wp2
    go_loopw [5] (fun i wr => SlRel w l l2 n2 i wr) (fun i _ => n2 - (intOf i).toNat)
    case atStart => exact ⟨0, 0, rfl, by omega, rfl, rfl⟩
    case round =>
      obtain ⟨k, q, rfl, hk, hx, rfl⟩ := hrel
      have HX := Lib.hid hx; clear hx
      by_cases hlt : k < n2
      · have hlt1 : k < l.length := by rw [HN1.out]; exact hlt
        have hlt2 : k < l2.length := by rw [← HN2.out]; exact hlt
        obtain ⟨b, off, rfl, hc⟩ := h1.some_ (by simp; omega)
        obtain ⟨b2, off2, rfl, hc2⟩ := h2.some_ (by simp; omega)
        have d1 := hc k (.int .i64 l[k]) (by simp [hlt1])
        have d3 := hc2 k (.int .i64 l2[k]) (by simp [hlt2])
        clear hc hc2
        have HD1 := Lib.hid (List.take_succ_eq_append_getElem hlt1)
        have HD2 := Lib.hid (List.take_succ_eq_append_getElem hlt2)
        obtain ⟨x, hx⟩ : ∃ x, x = l[k] := ⟨_, rfl⟩
        obtain ⟨y, hy⟩ : ∃ y, y = l2[k] := ⟨_, rfl⟩
        rw [← hx] at d1 HD1
        rw [← hy] at d3 HD2
        clear hx hy
        clear hlt1 hlt2
        by_cases e1 : x = y
        · subst e1
          go_wp2
          go_quiet (fail)
          go_wp2
          go_roundw
          case rel => exact ⟨k + 1, _, by go_num, by omega, by rw [HD1.out, HD2.out, HX.out], rfl⟩
          case measure => simp [intOf]; omega
        · have T1 : (x != y) = true := by simp [e1]
          have E1 := Lib.hid e1; clear e1
          go_wp2
          go_quiet (fail)
          go_wp2
          go_returns
          refine ⟨ret_bool ?_, _, by simp; rfl⟩
          symm; rw [decide_eq_false_iff_not]
          rintro rfl
          have := HD1.out.symm.trans HD2.out
          simp at this
          exact E1.out this
      · have hkl : k = n2 := by omega
        have hll : l = l2 := by
          have := HX.out
          rw [hkl, List.take_of_length_le (by rw [HN1.out]; exact Nat.le_refl _), List.take_of_length_le (by rw [HN2.out]; exact Nat.le_refl _)] at this
          exact this
        have HLL := Lib.hid hll; clear hll
        subst hkl
        go_wp2
        go_returns
        exact ⟨ret_bool (by simp [HLL.out]), q, rfl⟩
  · have T : ((l.length : Int) != (l2.length : Int)) = true := by simp; omega
    have hne : decide (l = l2) = false := by simp; rintro rfl; exact hlen rfl
    rw [hne]
    clear hlen hne
    go_enter Try.func12, Try.ntmps12
    go_wp2
    go_returns
    exact ⟨rfl, 0, rfl⟩

/-! a web that isn't there -/
theorem nlink_any (a b : Int) (w : World) : Calls Try.prog 15 #[.pointer none, .int .i64 a, .int .i64 b] w fun e w' => e = .returned (.int .i64 1) ∧ w' = w := by
  go_enter Try.func15, Try.ntmps15
  go_wp2
  go_returns
  exact ⟨rfl, rfl⟩
theorem nlinked_any (a b : Int) (w : World) : Calls Try.prog 17 #[.pointer none, .int .i64 a, .int .i64 b] w fun e w' => e = .returned (.bool false) ∧ w' = w := by
  go_enter Try.func17, Try.ntmps17
  go_wp2
  go_returns
  exact ⟨rfl, rfl⟩
theorem nof_any (a : Int) (w : World) : Calls Try.prog 19 #[.pointer none, .int .i64 a] w fun e w' => e = .returned (.slice none 0 0) ∧ w' = w := by
  go_enter Try.func19, Try.ntmps19
  go_wp2
  go_returns
  exact ⟨rfl, rfl⟩
theorem ncut_any (a : Int) (w : World) : Calls Try.prog 13 #[.pointer none, .int .i64 a] w fun e w' => e = .returned (.slice none 0 0) ∧ w' = w := by
  have h := nof_any a w
  have H := Lib.hid h; clear h
  go_enter Try.func13, Try.ntmps13
  go_wp2_with (go_at_call 19; with_reducible refine H.out.mono ?_; rintro e w1 ⟨rfl, rfl⟩)
  obtain ⟨W, hW⟩ : ∃ W, W = w1 := ⟨_, rfl⟩
  go_loopw [13] (fun i wr => i = .int .i64 0 ∧ wr = w1) (fun _ _ => 0)
  case atStart => exact ⟨rfl, rfl⟩
  case round =>
    obtain ⟨rfl, rfl⟩ := hrel
    go_wp2
    go_returns
    exact ⟨rfl, rfl⟩

def NfRel (w0 : World) (L : List HP) (sm g : Nat) (a : Int) (s : Value) (wr : World) : Prop :=
  (s = .slice (some ⟨g, 0, none⟩) 1 1 ∧ At w0 wr (row 2 1 (some ⟨g, 0, none⟩) 1 1 [.int .i64 a] :: HP.mp sm (ones [a]) :: L)) ∨ (s = .slice (some ⟨g, 0, none⟩) 0 0 ∧ At w0 wr (HP.mp sm (ones [a]) :: L))
set_option maxHeartbeats 2000000 in
theorem nfall_any (a : Int) (ha : -9223372036854775808 ≤ a ∧ a ≤ 9223372036854775807) (hA : At w0 w L) :
    Calls Try.prog 21 #[.pointer none, .int .i64 a] w fun e w' => ∃ ao cap, e = .returned (.slice ao 0 cap) ∧ At w0 w' L := by
  have hmm := @run_makeMap Try.prog
  obtain ⟨w2, hr2, hB⟩ := (hA.mp_new).mp_put Try.underlying49 Try.underlying2 a (.int .i64 1) (by simp)
  have hC := hB.alloc (.cells #[.int .i64 a] 2)
  have hD : At w0 _ (row 2 1 (some ⟨w2.heap.size, 0, none⟩) 1 1 [.int .i64 a] :: _) := hC.row_of_one (size := 1) 1 1 (by decide) (by decide) (by rfl)
  clear hB hC
  have HA1 := Lib.hid ha; clear ha
  go_enter Try.func21, Try.ntmps21
  go_wp2
  obtain ⟨sm, hsm⟩ : ∃ sm, sm = w.heap.size := ⟨_, rfl⟩
  obtain ⟨g, hg⟩ : ∃ g, g = w2.heap.size := ⟨_, rfl⟩
  rw [← hsm, ← hg] at hD ⊢
  clear hsm hr2 hmm hg
  go_loopw [6] (fun s wr => NfRel w0 L sm g a s wr) (fun s _ => slen s)
  case atStart => exact .inl ⟨rfl, hD⟩
  case round =>
    clear hD
    rcases hrel with ⟨rfl, hr⟩ | ⟨rfl, hr⟩
    · have d0 := hr.rd.at_ 0 (.int .i64 a) (by simp)
      rw [Nat.add_zero] at d0
      have hof := fun w => nof_any a w
      have HOF := Lib.hid hof; clear hof
      go_wp2_with (go_at_call 19; with_reducible refine (HOF.out _).mono ?_; rintro e w1 ⟨rfl, rfl⟩)
      go_loopw [27, 6] (fun i s wr => i = .int .i64 0 ∧ s = .slice (some ⟨g, 0, none⟩) 0 0 ∧ At w0 wr (HP.mp sm (ones [a]) :: L)) (fun _ _ _ => 0)
      case atStart => exact ⟨rfl, rfl, hr.drop⟩
      case round =>
        clear hr
        obtain ⟨rfl, rfl, hr⟩ := hrel
        go_wp2
        go_roundw
        case rel => exact .inr ⟨rfl, hr⟩
        case measure => simp [slen]
    · obtain ⟨w3, hr3, hB3⟩ := hr.mp_del Try.underlying49 Try.underlying2 a 0
      have hr4 : ∀ ty, (Builtin.delete_ #[49, 2] ty #[.map (some sm), .int .i64 a]).run Try.prog wr = .ok (.tuple #[]) w3 := fun ty => hr3
      rw [ones_filter, show [a].filter (· != a) = [] by simp] at hB3
      have hK := keys_any (some sm) w3
      have hSo := sorted_any w3.heap.size 49 (by rw [ones_keys]; intro x hx; cases hx) (by simp [ones]) (hB3.alloc (.cells #[.map (some sm)] 49))
      rw [ones_keys, show (ones []).length = 0 from rfl] at hSo
      have HK := Lib.hid hK; clear hK
      have HSO := Lib.hid hSo; clear hSo
      clear hB3 hr3
      go_wp2_with (first
        | (go_at_call 27; with_reducible refine HK.out.mono ?_; rintro e w4 ⟨rfl, rfl⟩)
        | (go_at_call 26; with_reducible refine HSO.out.mono ?_; rintro e w5 ⟨ao5, cap5, rfl, hC⟩))
      go_returns
      exact ⟨ao5, cap5, rfl, hC.drop.drop.drop⟩

theorem fall_of {N : Int → List Int} {a : Int} {l : List Int} (h1 : l.Pairwise (· < ·)) (h2 : a ∉ l) (h3 : ∀ x ∈ l, Lnk.Reach N a x) (h4 : ∀ y ∈ a :: l, ∀ z ∈ N y, z ∈ a :: l) : IsFall N a l := by
  refine ⟨h1, fun x => ⟨fun h => ⟨fun e => h2 (e ▸ h), h3 x h⟩, fun ⟨g1, g2⟩ => ?_⟩⟩
  have := g2 (fun x => x ∈ a :: l) (by simp) (fun y z hy hz => h4 y hy z hz)
  exact (List.mem_cons.1 this).resolve_left g1
def lv0 : Int → List Int := fun _ => []
def lv1 : Int → List Int := fun x => if x = 1 then [2] else if x = 2 then [1] else []
def lv2 : Int → List Int := fun x => if x = 1 then [2] else if x = 2 then [1, 3] else if x = 3 then [2] else []
theorem lk_lv0 : lk lv0 1 2 = (0, lv1) := by
  have h : (lk lv0 1 2) = (0, jn (jn lv0 1 2) 2 1) := by
    unfold lk; rw [if_neg (by simp [lv0]), if_neg (by simp [lv0])]
  rw [h]
  refine Prod.ext rfl (funext fun x => ?_)
  simp only [jn, lv0, lv1]
  by_cases h1 : x = 1
  · subst h1; simp
  · by_cases h2 : x = 2
    · subst h2; simp
    · simp [h1, h2]
theorem lk_lv1 : lk lv1 2 3 = (0, lv2) := by
  have h : (lk lv1 2 3) = (0, jn (jn lv1 2 3) 3 2) := by
    unfold lk; rw [if_neg (by simp [lv1]), if_neg (by simp [lv1])]
  rw [h]
  refine Prod.ext rfl (funext fun x => ?_)
  simp only [jn, lv1, lv2]
  by_cases h1 : x = 1
  · subst h1; simp
  · by_cases h2 : x = 2
    · subst h2; simp
    · by_cases h3 : x = 3
      · subst h3; simp
      · simp [h1, h2, h3]
theorem fall_lv2 : IsFall lv2 1 [2, 3] := by
  have r2 : Lnk.Reach lv2 1 2 := (Lnk.Reach.refl _ _).step (by simp [lv2])
  have r3 : Lnk.Reach lv2 1 3 := r2.step (by simp [lv2])
  refine fall_of (by simp) (by simp) (fun x hx => ?_) (fun y hy z hz => ?_)
  · simp at hx; rcases hx with rfl | rfl
    · exact r2
    · exact r3
  · simp at hy; rcases hy with rfl | rfl | rfl <;> simp [lv2] at hz ⊢ <;> omega
theorem fall_ct : IsFall (ct lv2 2) 1 [] := by
  refine fall_of (by simp) (by simp) (fun x hx => by cases hx) (fun y hy z hz => ?_)
  simp at hy; subst hy
  simp [ct, lv2] at hz

set_option maxHeartbeats 4000000 in
theorem lives_any (hA : At w0 w L) : Calls Try.prog 9 #[] w fun e w' => e = .returned (.bool true) ∧ At w0 w' L := by
  have hN := lnew_any hA
  have hL1 := fun p (w : World) (h : At w0 w (HP.web p lv0 0 :: L)) => llink_any 1 2 (fun _ => by simp [lv0]) h
  have hL2 := fun p (w : World) (h : At w0 w (HP.web p lv1 2 :: L)) => llink_any 2 3 (fun _ => by simp [lv1]) h
  rw [lk_lv0] at hL1
  rw [lk_lv1] at hL2
  have hF1 := fun p (w : World) (h : At w0 w (HP.web p lv2 4 :: L)) => lfall_any 1 [1, 2, 3] (by simp) (fun x hx y hy => by simp at hx; rcases hx with rfl | rfl | rfl <;> simp [lv2] at hy ⊢ <;> omega) (fun x hx => by simp at hx; omega) (by simp) (fun x => by simp only [lv2]; split <;> (try split) <;> (try split) <;> simp) h
  have hLd := fun p (w : World) (L : List HP) (h : At w0 w (HP.web p lv2 4 :: L)) => llinked_any 2 1 h
  rw [show decide ((1 : Int) ∈ lv2 2) = true from by decide] at hLd
  have hC := fun p (w : World) (L : List HP) (h : At w0 w (HP.web p lv2 4 :: L)) => lcut_any 2 (fun x hx => by simp [lv2] at hx; omega) (by simp [lv2]) (fun x => by simp only [lv2]; constructor <;> intro hx <;> simp at hx ⊢ <;> (try (rcases hx with rfl | rfl <;> simp)) <;> (split at hx <;> (try split at hx) <;> (try split at hx) <;> simp_all)) (by simp [lv2]) h
  have hF2 := fun p (w : World) (L : List HP) (h : At w0 w (HP.web p (ct lv2 2) 4 :: L)) => lfall_any 1 [1, 2, 3] (by simp) (fun x hx y hy => by simp at hx; rcases hx with rfl | rfl | rfl <;> simp [ct, lv2] at hy ⊢ <;> omega) (fun x hx => by simp at hx; omega) (by simp) (fun x => by simp only [ct, lv2]; split <;> (try simp) <;> refine Nat.le_trans (List.length_filter_le _ _) ?_ <;> split <;> (try split) <;> (try split) <;> simp) h
  have hs13 : sortI (lv2 2) = [1, 3] := rising_unique (sortI_rising (by decide)) (by decide) (fun x => mem_sortI)
  have f1 : ∀ p (w : World), At w0 w (HP.web p lv2 4 :: L) → Calls Try.prog 21 #[.pointer (some ⟨p, 0, none⟩), .int .i64 1] w fun e w' => ∃ ao cap, e = .returned (.slice ao 2 cap) ∧ At w0 w' (row 2 1 ao 2 cap [.int .i64 2, .int .i64 3] :: HP.web p lv2 4 :: L) := fun p w h => (hF1 p w h).mono fun e w' ⟨ao, cap, l, g1, g2, g3⟩ => by
    obtain rfl := g2.unique fall_lv2
    exact ⟨ao, cap, g1, g3⟩
  have f2 : ∀ p (w : World) L, At w0 w (HP.web p (ct lv2 2) 4 :: L) → Calls Try.prog 21 #[.pointer (some ⟨p, 0, none⟩), .int .i64 1] w fun e w' => ∃ ao cap, e = .returned (.slice ao 0 cap) ∧ At w0 w' (row 2 1 ao 0 cap [] :: HP.web p (ct lv2 2) 4 :: L) := fun p w L h => (hF2 p w L h).mono fun e w' ⟨ao, cap, l, g1, g2, g3⟩ => by
    obtain rfl := g2.unique fall_ct
    exact ⟨ao, cap, g1, g3⟩
  rw [hs13, show (lv2 2).length = 2 from rfl] at hC
  clear hF1 hF2 hs13
  simp only [Nat.zero_add, Nat.reduceAdd] at hL1 hL2
  have sl := fun (w : World) (x y : Int) (ao ao2 : Option Addr) (cap cap2 : Nat) (h1 : Rd w ao [.int .i64 x, .int .i64 y]) (h2 : Rd w ao2 [.int .i64 x, .int .i64 y]) => sameLongs_any [x, y] [x, y] ao ao2 2 2 cap cap2 rfl rfl (by decide) (by decide) h1 h2
  simp only [decide_true] at sl
  have HN := Lib.hid hN; clear hN
  have HL1 := Lib.hid hL1; clear hL1
  have HL2 := Lib.hid hL2; clear hL2
  have HLD := Lib.hid hLd; clear hLd
  have HC := Lib.hid hC; clear hC
  have HF1 := Lib.hid f1; clear f1
  have HF2 := Lib.hid f2; clear f2
  have HSL := Lib.hid sl; clear sl
  go_enter Try.func9, Try.ntmps9
  go_wp2_with (first
    | (go_at_call 11; with_reducible refine HN.out.mono ?_; rintro e w1 ⟨p, rfl, h1⟩)
    | (go_at_call_of 15 (Value.int .i64 3); with_reducible refine (HL2.out _ _ h2).mono ?_; rintro e w3 ⟨rfl, h3⟩)
    | (go_at_call 15; with_reducible refine (HL1.out _ _ h1).mono ?_; rintro e w2 ⟨rfl, h2⟩)
    | (go_at_call 21; with_reducible refine (HF1.out _ _ h3).mono ?_; rintro e w4 ⟨a1, c1, rfl, h4⟩; have h5 := h4.alloc (.cells #[.int .i64 2, .int .i64 3] 2))
    | (go_at_call 12; with_reducible refine (HSL.out _ 2 3 _ _ _ _ h5.pick2.rd h5.rdN).mono ?_; rintro e w6 ⟨rfl, q, rfl⟩; have h6 := h5.drewN q)
    | (go_at_call 17; with_reducible refine (HLD.out _ _ _ h6.pick3).mono ?_; rintro e w7 ⟨rfl, rfl⟩)
    | (go_at_call 13; with_reducible refine (HC.out _ _ _ h6.pick3).mono ?_; rintro e w8 ⟨a2, c2, rfl, h8⟩; have h9 := h8.alloc (.cells #[.int .i64 1, .int .i64 3] 2))
    | (go_at_call 12; with_reducible refine (HSL.out _ 1 3 _ _ _ _ h9.pick2.rd h9.rdN).mono ?_; rintro e w10 ⟨rfl, q2, rfl⟩; have h10 := h9.drewN q2)
    | (go_at_call 21; with_reducible refine (HF2.out _ _ _ h10.pick3).mono ?_; rintro e w11 ⟨a3, c3, rfl, h11⟩))
  go_returns
  exact ⟨rfl, h11.drop.drop.drop.drop.drop.drop⟩
end
end Go.Proofs.Ytihpcaklknbjiaa
