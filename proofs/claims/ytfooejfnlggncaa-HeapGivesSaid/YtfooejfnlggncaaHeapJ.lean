/-
  The law's 'given': does the heap give just these?
-/
import Derived.Test.YtfooejfnlggncaaHeapH
namespace Go.Proofs.Ytfooejfnlggncaa
open Go.RowKit HP
open Heap (Th)
open HI (Hc enc)
attribute [local go_sem] Oper.semAt_some

/-- what holds between two rounds -/
def GivI (w : World) (pv : Value) (ao : Option Addr) (n cap : Nat) (R : List (Int × Int)) (pre : List (Int × Int)) (W : World) : Prop :=
  At w W [HP.one w.heap.size (.cells #[.slice ao n cap] 49 (0, 0)), HP.one (w.heap.size + 1) (.cells #[.bool false] 4 (0, 0)), HP.one (w.heap.size + 1 + 1) (.cells #[.int .i64 pre.length] 3 (0, 0)), HP.one (w.heap.size + 1 + 1 + 1) (.cells #[pv] 25 (0, 0))] ∧ pre <+: R
theorem GivI.own (w : World) (pv : Value) (ao : Option Addr) (n cap : Nat) (R : List (Int × Int)) {B : Nat} (hB : w.heap.size ≤ B) : OwnFrom B (GivI w pv ao n cap R) := by
  rintro pre X Y row' ⟨hA, hp⟩ hg hr
  refine ⟨hA.turn ?_ hg (fun r e => ⟨Nat.le_trans hB (hr r e).1, (hr r e).2⟩), hp⟩
  intro Q hQ
  simp only [List.mem_cons, List.not_mem_nil, or_false] at hQ
  rcases hQ with rfl | rfl | rfl | rfl
  all_goals exact HP.Cells.one _ _ _ _
/-- something else came: the round leaves -/
def GivIx (R : List (Int × Int)) (c : Code) (pre : List (Int × Int)) (_ : World) : Prop := ¬ (pre <+: R) ∧ c = .ret
theorem below_of {n : Nat} {w W W' : World} (h1 : Below n w W) (h2 : Below n w W') (hs : W.heap.size ≤ W'.heap.size) : Below n W W' :=
  ⟨h2.os.trans h1.os.symm, h2.tape.trans h1.tape.symm, h2.output.trans h1.output.symm, hs, fun k hk => (h2.block k hk).trans (h1.block k hk).symm⟩

theorem prefix_snoc {α : Type} {pre l : List α} (x : α) (h : pre <+: l) : pre ++ [x] <+: l ↔ l[pre.length]? = some x := by
  obtain ⟨r, rfl⟩ := h
  rw [List.prefix_append_right_inj]
  cases r with
  | nil => simp
  | cons y r => simp [eq_comm]

set_option maxRecDepth 100000 in
set_option maxHeartbeats 4000000 in
theorem given_in (n : Nat) (hn : 3 ≤ n) (w : World) (A : List (Th Int)) (p : Option Addr) (hbox : HpAt w A (.pointer p)) (R : List (Th Int)) (ao : Option Addr) (cap : Nat) (hR : R.length ≤ 1099511627776) (hrd : Rd w ao (tvs enc R)) (he : come R = come A) :
    CallsIn Fence.wide n Try.prog 29 #[.pointer p, .slice ao R.length cap] w fun e W' => e = .returned (.bool true) ∧ Below w.heap.size w W' := by
  have h1 : 1 ≤ n := by omega
  have HE := Lib.hid he; clear he
  refine callsIn_of_wp_marks Try.func29 rfl trivial ?_ rfl
  simp only [Try.ntmps29, List.size_toArray, List.length_cons, List.length_nil, Nat.reduceAdd, Nat.reduceSub, Array.replicate_succ, Array.replicate_zero, List.push_toArray, List.append_toArray, List.nil_append, List.cons_append]
  gi_wp2_with (refine ⟨trivial, ?_⟩; gi_at_call 31; refine (callsIn_wide.2 (hall_any _ _ ⟨_, rfl⟩)).mono ?_; rintro e w' ⟨rfl, rfl⟩)
  have hI0 : GivI w (.pointer p) ao R.length cap (come R) [] ((((w.alloc (.cells #[.slice ao R.length cap] 49)).alloc (.cells #[.bool false] 4)).alloc (.cells #[.int .i64 0] 3)).alloc (.cells #[.pointer p] 25)) := by
    refine ⟨?_, List.nil_prefix⟩
    have h3 := ((((At.start w).alloc (.cells #[.slice ao R.length cap] 49)).alloc (.cells #[.bool false] 4)).alloc (.cells #[.int .i64 0] 3)).alloc (.cells #[.pointer p] 25)
    simp only [World.size_alloc] at h3
    exact h3.perm (List.reverse_perm [_, _, _, _]).symm
  have hB0 : Below w.heap.size w ((((w.alloc (.cells #[.slice ao R.length cap] 49)).alloc (.cells #[.bool false] 4)).alloc (.cells #[.int .i64 0] 3)).alloc (.cells #[.pointer p] 25)) := hI0.1.below
  have bB := (hI0.1.perm (List.reverse_perm _).symm).blk
  have hsz : ((((w.alloc (.cells #[.slice ao R.length cap] 49)).alloc (.cells #[.bool false] 4)).alloc (.cells #[.int .i64 0] 3)).alloc (.cells #[.pointer p] 25)).heap.size = w.heap.size + 4 := by simp
  obtain ⟨W0, hW0⟩ : ∃ W0, ((((w.alloc (.cells #[.slice ao R.length cap] 49)).alloc (.cells #[.bool false] 4)).alloc (.cells #[.int .i64 0] 3)).alloc (.cells #[.pointer p] 25)) = W0 := ⟨_, rfl⟩
  rw [hW0] at hI0 hB0 bB hsz ⊢
  clear hW0
  refine wpIn_rangeFunc_ownH rfl h1 (gf := 38) (lb := #[.pointer (some ⟨w.heap.size + 1 + 1 + 1, 0, none⟩)]) rfl trivial (enters_of Try.func38 (by kernel_rfl) rfl)
    (hall_stops (n - 1) (by omega) (w.heap.size + 1 + 1 + 1) w A (.pointer p) hbox W0 hB0 bB) KpT.t (KpT.b (by omega)) (Below.refl _ _) (fun _ => rfl)
    (GivI w (.pointer p) ao R.length cap (come R))
    (GivIx (come R))
    (GivI.own w (.pointer p) ao R.length cap (come R) (by omega))
    (fun c s X Y row h _ _ => (h : GivIx (come R) c s Y))
    hI0
    (fun x a' W => a' = { tmps := #[.pointer p, .slice ao R.length cap, undef, .pointer (some ⟨w.heap.size, 0, none⟩), .pointer (some ⟨w.heap.size + 1, 0, none⟩), .pointer (some ⟨w.heap.size + 1 + 1, 0, none⟩), .int .i64 x.1, .int .i64 x.2, .pointer p, .func (.func 38) #[] #[.pointer (some ⟨w.heap.size + 1 + 1 + 1, 0, none⟩)], .int .i64 x.1, .int .i64 x.2, undef, undef, undef, undef, undef, undef, undef, undef, undef, undef, undef, undef, undef, undef, undef, undef, undef, undef, undef, undef, undef, undef, undef, undef, undef, undef, undef, undef], defers := [] })
    (fun x a' _ X Y row hs hg hr => hs)
    ?assign ?body ?done ?stop
  case assign =>
    rintro lp pre x W K ⟨hA, hp⟩ hK
    gi_wp2
    exact hK _ _ (KeepsOthers.refl _ |>.from _) ⟨Below.refl _ _, fun _ _ _ h => h⟩ ⟨hA, hp⟩ rfl
  case body =>
    rintro lp pre x a' W hlp _ ⟨hA, hp⟩ rfl hlt
    have cW := hA.cell 0
    have cN := hA.pick3.cell 0
    have fN := hA.pick3.free 0
    have cR := hA.pick2.cell 0
    have fR := hA.pick2.free 0
    have hps := prefix_snoc x hp
    have hpl := hp.length_le
    simp only [come, List.length_map] at hpl
    obtain ⟨x1, x2⟩ := x
    by_cases hk : pre.length < R.length
    · have hck : (come R)[pre.length]? = some (R[pre.length].1, R[pre.length].2.2) := by simp [come, hk]
      rw [hck] at hps
      obtain ⟨g, off, rfl, hc⟩ := hrd.some_ (by rw [tvs_len]; omega)
      obtain ⟨v1, v2, v3⟩ := tvs_get enc R pre.length hk
      have d0 := hA.oldCell (hc _ _ v1)
      have d2 := hA.oldCell (hc _ _ v3)
      rw [← Nat.add_assoc] at d2
      clear hc v1 v2 v3 hck
      generalize R[pre.length] = t at *
      obtain ⟨t0, t1, t2⟩ := t
      simp only at d0 d2 hps
      obtain ⟨k, hkk⟩ : ∃ k, k = pre.length := ⟨_, rfl⟩
      rw [← hkk] at cN d0 d2 hk
      have i0 : decide ((R.length : Int) ≤ (k : Int)) = false := decide_eq_false (by omega)
      have i5 : decide (R.length ≤ k) = false := decide_eq_false (by omega)
      have i1 : (0 : Int) ≤ (k : Int) := by omega
      have i2 : (k : Int) < (R.length : Int) := by omega
      have HPS := Lib.hid hps; clear hps
      have HP_ := Lib.hid hp; clear hp
      have HKK := Lib.hid hkk; clear hkk
      have hR1 : k ≤ 1099511627776 := by omega
      by_cases e1 : x1 = t0
      · subst e1
        by_cases e2 : x2 = t2
        · subst e2
          gi_wp2
          have hA2 := hA.pick3.setCell 0 (.int .i64 ((k : Int) + 1))
          refine ⟨(KeepsOthers.setCell _ _ _).from _, ⟨below_of hA.below hA2.below (by simp), fun i c f e => ?_⟩, ?_, HPS.out.2 (by simp)⟩
          · by_cases hi : i = w.heap.size + 1 + 1
            · subst hi
              rw [hA.pick3.blk] at e; cases e
            · rw [Below.heap_setCell W ⟨w.heap.size + 1 + 1, 0, none⟩ _ i hi]; exact e
          · have := hA2.unpick3
            rw [List.length_append, ← HKK.out, List.length_singleton]
            push_cast
            exact this
        · have T : (x2 != t2) = true := by simp [e2]
          have E2 := Lib.hid e2; clear e2
          gi_wp2
          exact ⟨(KeepsOthers.setCell _ _ _).from _, fun h => E2.out (by have := HPS.out.1 h; simp at this; exact this.symm), rfl⟩
      · have T : (x1 != t0) = true := by simp [e1]
        have E1 := Lib.hid e1; clear e1
        gi_wp2
        exact ⟨(KeepsOthers.setCell _ _ _).from _, fun h => E1.out (by have := HPS.out.1 h; simp at this; exact this.1.symm), rfl⟩
    · have hck : (come R)[pre.length]? = none := by simp [come]; omega
      rw [hck] at hps
      obtain ⟨k, hkk⟩ : ∃ k, k = pre.length := ⟨_, rfl⟩
      rw [← hkk] at cN hk
      have i0 : decide ((R.length : Int) ≤ (k : Int)) = true := decide_eq_true (by omega)
      have i5 : decide (R.length ≤ k) = true := decide_eq_true (by omega)
      have HPS := Lib.hid hps; clear hps
      have HP_ := Lib.hid hp; clear hp
      have HKK := Lib.hid hkk; clear hkk hpl hk
      gi_wp2
      exact ⟨(KeepsOthers.setCell _ _ _).from _, (fun h => (by have := HPS.out.1 h; cases this)), rfl⟩
  case done =>
    rintro D ys W hD rfl ⟨hA, hp⟩ hK
    have cW := hA.cell 0
    have cN := hA.pick3.cell 0
    have cR := hA.pick2.cell 0
    have fR := hA.pick2.free 0
    have hl : (come A).length = R.length := by rw [← HE.out]; simp [come]
    rw [hl] at cN
    clear hl
    gi_wp2
    have hA2 := hA.pick2.setCell 0 (.bool true)
    have cR2 := hA2.cell 0
    have hK' := (KeepsOthers.setCell W ⟨w.heap.size + 1, 0, none⟩ (.bool true)).same D _ hK rfl
    refine ⟨by simp, .inl ⟨_, _, rfl, run_takeDeferred hK', ?_⟩⟩
    have hc5 := cell_kept cR2 (grownBy_putObj' _ D (.deferred none)) (fun r e => by cases e; exact ⟨_, hK', rfl⟩)
    have hR2 := hA2.turn (fun Q hQ => by
      simp only [List.mem_cons, List.not_mem_nil, or_false] at hQ
      rcases hQ with rfl | rfl | rfl | rfl
      all_goals exact HP.Cells.one _ _ _ _) (grownBy_putObj' _ D (.deferred none)) (fun r e => by cases e; exact ⟨by omega, _, hK', rfl⟩)
    refine ⟨.bool true, ?_, rfl, hR2.below⟩
    simp [results, Try.f29, go_sem, hc5]
  case stop =>
    rintro D c pre W hD hpre ⟨hne, rfl⟩ hK
    exact absurd (HE.out ▸ hpre) hne

theorem given_any {w0 w : World} {L : List HP} (A : List (Th Int)) (p : Option Addr) (hbox : HpAt w A (.pointer p)) (R : List (Th Int)) (ao : Option Addr) (cap : Nat) (hR : R.length ≤ 1099511627776) (hrd : Rd w ao (tvs enc R)) (he : come R = come A) (hA : At w0 w L) :
    Calls Try.prog 29 #[.pointer p, .slice ao R.length cap] w fun e w' => e = .returned (.bool true) ∧ At w0 w' L :=
  (callsIn_wide.1 (given_in 3 (Nat.le_refl _) w A p hbox R ao cap hR hrd he)).mono fun _ _ ⟨h1, h2⟩ => ⟨h1, hA.later h2⟩
end Go.Proofs.Ytfooejfnlggncaa
