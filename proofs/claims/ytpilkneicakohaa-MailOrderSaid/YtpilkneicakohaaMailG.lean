/-
  What a mailbox gives: the law's 'all'.
-/
import Derived.Test.YtpilkneicakohaaMailE
import Derived.Test.YtpilkneicakohaaLib3
namespace Go.Proofs.Ytpilkneicakohaa
open Go.RowKit HP
open Mail (M)
attribute [local go_sem] Oper.semAt_some

/-- what holds between two rounds -/
def AllI (w : World) (p : Option Addr) (pre : List (Nat × M)) (W : World) : Prop :=
  ∃ ao cap, At w W [row 31 2 ao pre.length cap (mvs (pre.map (·.2))), one (w.heap.size + 1) (.cells #[.slice ao pre.length cap] 27 (0, 0)), one w.heap.size (.cells #[.slice none 0 0] 27 (0, 0)), one (w.heap.size + 1 + 1) (.cells #[.pointer p] 24 (0, 0))]
theorem AllI.own (w : World) (p : Option Addr) {B : Nat} (hB : w.heap.size ≤ B) : OwnFrom B (AllI w p) := by
  rintro pre X Y row' ⟨ao, cap, hA⟩ hg hr
  refine ⟨ao, cap, hA.turn ?_ hg (fun r e => ⟨Nat.le_trans hB (hr r e).1, (hr r e).2⟩)⟩
  intro Q hQ
  simp only [List.mem_cons, List.not_mem_nil, or_false] at hQ
  rcases hQ with rfl | rfl | rfl | rfl
  · exact HP.Cells.row _ _ _ _ _ _
  all_goals exact HP.Cells.one _ _ _ _
/-- a message at a wrong place: the round leaves -/
def AllIx (c : Code) (pre : List (Nat × M)) (_ : World) : Prop := ∃ (pre0 : List (Nat × M)) (x : Nat × M), pre = pre0 ++ [x] ∧ x.1 ≠ pre0.length ∧ c = .ret
theorem below_of {n : Nat} {w W W' : World} (h1 : Below n w W) (h2 : Below n w W') (hs : W.heap.size ≤ W'.heap.size) : Below n W W' :=
  ⟨h2.os.trans h1.os.symm, h2.tape.trans h1.tape.symm, h2.output.trans h1.output.symm, hs, fun k hk => (h2.block k hk).trans (h1.block k hk).symm⟩
theorem msgs_last (l : List M) (k : Nat) (pre0 : List (Nat × M)) (x : Nat × M) (h : msgs l k = pre0 ++ [x]) : x.1 = pre0.length := by
  cases k with
  | zero => simp [msgs] at h
  | succ k =>
    rw [msgs_succ] at h
    obtain ⟨h1, h2⟩ := List.append_inj' h rfl
    simp only [List.cons.injEq, and_true] at h2
    rw [← h2, ← h1, msgs_length]
theorem msgs_map (l : List M) : (msgs l l.length).map (·.2) = l := by
  apply List.ext_getElem
  · simp [msgs]
  · intro i h1 h2
    simp [msgs, h2]

set_option maxRecDepth 100000 in
set_option maxHeartbeats 4000000 in
theorem lall_in (n : Nat) (hn : 3 ≤ n) (w : World) (l : List M) (p : Option Addr) (hbox : BoxAt w l (.pointer p)) (hl : l.length ≤ 16) :
    CallsIn Fence.wide n Try.prog 20 #[.pointer p] w fun e W' => ∃ ao cap, e = .returned (.slice ao l.length cap) ∧ At w W' [row 31 2 ao l.length cap (mvs l)] := by
  have h1 : 1 ≤ n := by omega
  refine callsIn_of_wp_marks Try.func20 rfl trivial ?_ rfl
  simp only [Try.ntmps20, List.size_toArray, List.length_cons, List.length_nil, Nat.reduceAdd, Nat.reduceSub, Array.replicate_succ, Array.replicate_zero, List.push_toArray, List.append_toArray, List.nil_append, List.cons_append]
  gi_wp2_with (refine ⟨trivial, ?_⟩; gi_at_call 22; refine (callsIn_wide.2 (mall_any _ _ ⟨_, rfl⟩)).mono ?_; rintro e w' ⟨rfl, rfl⟩)
  have hI0 : AllI w p [] (((w.alloc (.cells #[.slice none 0 0] 27)).alloc (.cells #[.slice none 0 0] 27)).alloc (.cells #[.pointer p] 24)) := by
    refine ⟨none, 0, ?_⟩
    have h3 := (((At.start w).alloc (.cells #[.slice none 0 0] 27)).alloc (.cells #[.slice none 0 0] 27)).alloc (.cells #[.pointer p] 24)
    simp only [World.size_alloc] at h3
    exact h3.pick3.pick3.row_nil 31 2
  have hB0 : Below w.heap.size w (((w.alloc (.cells #[.slice none 0 0] 27)).alloc (.cells #[.slice none 0 0] 27)).alloc (.cells #[.pointer p] 24)) := (((Below.refl _ w).alloc (Nat.le_refl _) _).alloc (by simp) _).alloc (by simp; omega) _
  have bB : (((w.alloc (.cells #[.slice none 0 0] 27)).alloc (.cells #[.slice none 0 0] 27)).alloc (.cells #[.pointer p] 24)).heap[w.heap.size + 1 + 1]? = some (.cells #[.pointer p] 24 (0, 0)) := by
    have := World.alloc_heap_new ((w.alloc (.cells #[.slice none 0 0] 27)).alloc (.cells #[.slice none 0 0] 27)) (.cells #[.pointer p] 24)
    simpa using this
  have hsz : (((w.alloc (.cells #[.slice none 0 0] 27)).alloc (.cells #[.slice none 0 0] 27)).alloc (.cells #[.pointer p] 24)).heap.size = w.heap.size + 3 := by simp
  obtain ⟨W0, hW0⟩ : ∃ W0, ((w.alloc (.cells #[.slice none 0 0] 27)).alloc (.cells #[.slice none 0 0] 27)).alloc (.cells #[.pointer p] 24) = W0 := ⟨_, rfl⟩
  rw [hW0] at hI0 hB0 bB hsz ⊢
  clear hW0
  refine wpIn_rangeFunc_ownH rfl h1 (gf := 25) (lb := #[.pointer (some ⟨w.heap.size + 1 + 1, 0, none⟩)]) rfl trivial (enters_of Try.func25 (by kernel_rfl) rfl)
    (mall_stops (n - 1) (by omega) (w.heap.size + 1 + 1) w l (.pointer p) hbox W0 hB0 bB) KpB.t (KpB.b (by omega) (by omega)) (Below.refl _ _) (fun _ => rfl)
    (AllI w p)
    AllIx
    (AllI.own w p (by omega))
    (fun c s X Y row h _ _ => (h : AllIx c s Y))
    hI0
    (fun x a' W => ∃ Bx, W.heap[Bx]? = some (.cells #[.int .i64 x.2.1, .int .i64 x.2.2] 31 (0, 0)) ∧ a' = { tmps := #[.pointer p, undef, .pointer (some ⟨w.heap.size, 0, none⟩), .pointer (some ⟨w.heap.size + 1, 0, none⟩), .int .i64 (x.1 : Int), .pointer (some ⟨Bx, 0, none⟩), .pointer p, .func (.func 25) #[] #[.pointer (some ⟨w.heap.size + 1 + 1, 0, none⟩)], .int .i64 (x.1 : Int), .agg #[.int .i64 x.2.1, .int .i64 x.2.2], undef, undef, undef, undef, undef, undef, undef, undef, undef, undef, undef, undef], defers := [] })
    (fun x a' _ X Y row hs hg hr => by
      obtain ⟨Bx, h2, h3⟩ := hs
      exact ⟨Bx, (hg.block Bx (Array.getElem?_eq_some_iff.1 h2).1 (fun e => by obtain ⟨_, o, ho, hc⟩ := hr Bx e.symm; rw [h2] at ho; cases ho; cases hc)).trans h2, h3⟩)
    ?assign ?body ?done ?stop
  case assign =>
    rintro lp pre x W K ⟨ao, cap, hA⟩ hK
    gi_wp2
    exact hK _ _ ((KeepsOthers.alloc _ _).from _) ⟨(Below.refl _ W).alloc hA.below.size _, fun o h => (Below.heap_alloc W _ _ (Array.getElem?_eq_some_iff.1 h).1).trans h⟩ ⟨ao, cap, (hA.alloc _).drop⟩ ⟨W.heap.size, World.alloc_heap_new W _, rfl⟩
  case body =>
    rintro lp pre x a' W hlp _ ⟨ao, cap, hA⟩ ⟨Bx, bX, rfl⟩ hlt
    have cL := hA.pick2.cell 0
    have cX : W.cell? ⟨Bx, 0, none⟩ = some (.int .i64 x.2.1) := by simp [World.cell?, bX]
    have cY : W.cell? ⟨Bx, 1, none⟩ = some (.int .i64 x.2.2) := by simp [World.cell?, bX]
    have hal := hA.alloc (.cells #[.int .i64 x.2.1, .int .i64 x.2.2] 31)
    have hrn := hal.rdN
    by_cases hx : x.1 = pre.length
    · have T : ((x.1 : Int) != (pre.length : Int)) = false := by simp; omega
      have HX := Lib.hid hx; clear hx
      gi_wp2_with (gi_at_builtin; refine wpListIn_append_row rfl (.tmp 17) (.tmp 19) 27 rfl (.agg #[.int .i64 0, .int .i64 0]) 16 under_msgs info_msg rfl (by decide) hal.pick2 rfl (some ⟨W.heap.size, 0, none⟩) 1 1 [.int .i64 x.2.1, .int .i64 x.2.2] rfl rfl hrn (mvs_one [x.2]) (by unfold maxLen; omega) (by omega) ?_; intro ao2 cap2 w1 hkeep hA1; have hA2 := hA1.pick2.drop; have g0 := hA2.pick2.cell 0; have g1 := hA2.pick2.free 0)
      have hA3 := hA2.pick2.setCell 0 (.slice ao2 (pre.length + 1) cap2)
      have hko := ((KeepsOthers.alloc W (.cells #[.int .i64 x.2.1, .int .i64 x.2.2] 31)).trans hkeep).trans (KeepsOthers.setCell w1 ⟨w.heap.size + 1, 0, none⟩ (.slice ao2 (pre.length + 1) cap2))
      refine ⟨hko.from _, ⟨below_of hA.below hA3.below hko.size, fun o h => ?_⟩, ao2, cap2, ?_⟩
      · rw [hA.pick4.blk] at h; cases h
        exact hA3.pick4.blk
      · have := hA3.pick2
        simp only [List.length_append, List.length_cons, List.length_nil, Nat.zero_add, List.map_append, List.map_cons, List.map_nil, mvs_append]
        exact this
    · have T : ((x.1 : Int) != (pre.length : Int)) = true := by simp; omega
      have HX := Lib.hid hx; clear hx
      have hal2 := hA.alloc (.cells #[.int .i64 (-1), .int .i64 (x.1 : Int)] 31)
      have cR := hal2.pick4.cell 0
      have fR := hal2.pick4.free 0
      gi_wp2
      exact ⟨((KeepsOthers.alloc _ _).trans (KeepsOthers.setCell _ _ _)).from _, pre, x, rfl, HX.out, rfl⟩
  case done =>
    rintro D ys W hD rfl ⟨ao, cap, hA⟩ hK
    have cL := hA.pick2.cell 0
    have cR := hA.pick3.cell 0
    have fR := hA.pick3.free 0
    gi_wp2
    have hA2 := hA.pick3.setCell 0 (.slice ao (msgs l l.length).length cap)
    have cR2 := hA2.cell 0
    have hK' := (KeepsOthers.setCell W ⟨w.heap.size, 0, none⟩ (.slice ao (msgs l l.length).length cap)).same D _ hK rfl
    refine ⟨by simp, .inl ⟨_, _, rfl, run_takeDeferred hK', ?_⟩⟩
    have hc5 := cell_kept cR2 (grownBy_putObj' _ D (.deferred none)) (fun r e => by cases e; exact ⟨_, hK', rfl⟩)
    have hR := hA2.drop.pick2.drop.pick2.drop
    have hR2 := hR.turn (fun Q hQ => by
      simp only [List.mem_cons, List.not_mem_nil, or_false] at hQ
      subst hQ
      exact HP.Cells.row _ _ _ _ _ _) (grownBy_putObj' _ D (.deferred none)) (fun r e => by cases e; exact ⟨by omega, _, hK', rfl⟩)
    rw [msgs_map, msgs_length] at hR2
    refine ⟨.slice ao l.length cap, ?_, ao, cap, rfl, by rw [msgs_length]; exact hR2⟩
    simp [results, Try.f20, go_sem, hc5]
    exact msgs_length l _
  case stop =>
    rintro D c pre W hD ⟨k, hk, hpre⟩ ⟨pre0, x, hp, hne, rfl⟩ hK
    exact absurd (msgs_last l k pre0 x (hpre.symm.trans hp)) hne

theorem lall_any {w0 : World} {L : List HP} {a : Nat} {l : List M} (w : World) (hl : l.length ≤ 16) (hA : At w0 w (BoxC a l :: L)) :
    Calls Try.prog 20 #[.pointer (some ⟨a, 0, none⟩)] w fun e w' => ∃ ao cap, e = .returned (.slice ao l.length cap) ∧ At w0 w' (row 31 2 ao l.length cap (mvs l) :: BoxC a l :: L) :=
  (callsIn_wide.1 (lall_in 3 (Nat.le_refl _) w l _ (BoxAt.of hl hA) hl)).mono fun _ _ ⟨ao, cap, h1, h2⟩ => ⟨ao, cap, h1, hA.join h2⟩
theorem lall_nil {w0 : World} {L : List HP} (w : World) (hA : At w0 w L) :
    Calls Try.prog 20 #[.pointer none] w fun e w' => ∃ ao cap, e = .returned (.slice ao 0 cap) ∧ At w0 w' L :=
  (callsIn_wide.1 (lall_in 3 (Nat.le_refl _) w [] _ (.inl ⟨rfl, rfl⟩) (by simp))).mono fun _ _ ⟨ao, cap, h1, h2⟩ => ⟨ao, cap, h1, hA.later h2.below⟩
end Go.Proofs.Ytpilkneicakohaa
