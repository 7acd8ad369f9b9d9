/-
  The mailbox's Find.
-/
import Derived.Test.YtpilkneicakohaaMailD
namespace Go.Proofs.Ytpilkneicakohaa
open Go.RowKit HP
open Mail (M)
attribute [local go_sem] Oper.semAt_some

namespace Mail
theorem find_drop (ts : List Int) (l : List M) : ∀ j, j ≤ l.length → (∀ y ∈ msgs l j, has ts y.2.1 = false) → find ts l 0 = find ts (l.drop j) j := by
  intro j
  induction j with
  | zero => intro _ _; rfl
  | succ j ih =>
    intro hj h
    have hlt : j < l.length := by omega
    rw [ih (by omega) (fun y hy => h y (by rw [msgs_succ]; exact List.mem_append.2 (.inl hy))), List.drop_eq_getElem_cons hlt, find, if_neg]
    have := h (j, l[j]?.getD (0, 0)) (by rw [msgs_succ]; simp)
    rw [List.getElem?_eq_getElem hlt, Option.getD_some] at this
    rw [this]; decide
theorem find_none (ts : List Int) (l : List M) (h : ∀ y ∈ msgs l l.length, has ts y.2.1 = false) : find ts l 0 = (0, false) := by
  rw [find_drop ts l l.length (Nat.le_refl _) h]; simp [find]
theorem find_some (ts : List Int) (l : List M) (k : Nat) (hk : k ≤ l.length) (pre : List (Nat × M)) (x : Nat × M) (he : msgs l k = pre ++ [x]) (h : ∀ y ∈ pre, has ts y.2.1 = false) (hx : has ts x.2.1 = true) : find ts l 0 = ((x.1 : Int), true) := by
  cases k with
  | zero => simp [msgs] at he
  | succ k =>
    have hlt : k < l.length := by omega
    rw [msgs_succ] at he
    obtain ⟨rfl, he2⟩ := List.append_inj' he rfl
    simp only [List.cons.injEq, and_true] at he2
    subst he2
    rw [find_drop ts l k (by omega) h, List.drop_eq_getElem_cons hlt, find, if_pos]
    rw [List.getElem?_eq_getElem hlt, Option.getD_some] at hx
    exact hx
end Mail

set_option maxRecDepth 100000 in
set_option maxHeartbeats 4000000 in
theorem mfind_in (n : Nat) (hn : 3 ≤ n) (ts : List Int) (ao : Option Addr) (cap : Nat) (hm : ts.length ≤ maxLen) (w : World) (hrd : Rd w ao (ts.map (Value.int .i64))) (l : List M) (p : Option Addr) (hbox : BoxAt w l (.pointer p)) :
    CallsIn Fence.wide n Try.prog 13 #[.pointer p, .slice ao ts.length cap] w fun e W' => e = .returned (.tuple #[.int .i64 (Mail.find ts l 0).1, .bool (Mail.find ts l 0).2]) ∧ Below w.heap.size w W' := by
  have h1 : 1 ≤ n := by omega
  refine callsIn_of_wp_marks Try.func13 rfl trivial ?_ rfl
  simp only [Try.ntmps13, List.size_toArray, List.length_cons, List.length_nil, Nat.reduceAdd, Nat.reduceSub, Array.replicate_succ, Array.replicate_zero, List.push_toArray, List.append_toArray, List.nil_append, List.cons_append]
  gi_wp2_with (refine ⟨trivial, ?_⟩; gi_at_call 22; refine (callsIn_wide.2 (mall_any _ _ ⟨_, rfl⟩)).mono ?_; rintro e w' ⟨rfl, rfl⟩)
  have bT := (((Boxed.new w 32 (.slice ao ts.length cap)).alloc (.cells #[.int .i64 0] 3)).alloc (.cells #[.bool false] 4)).alloc (.cells #[.pointer p] 24)
  have bR := ((Boxed.new (w.alloc (.cells #[.slice ao ts.length cap] 32)) 3 (.int .i64 0)).alloc (.cells #[.bool false] 4)).alloc (.cells #[.pointer p] 24)
  have bO := (Boxed.new ((w.alloc (.cells #[.slice ao ts.length cap] 32)).alloc (.cells #[.int .i64 0] 3)) 4 (.bool false)).alloc (.cells #[.pointer p] 24)
  have bB := Boxed.new (((w.alloc (.cells #[.slice ao ts.length cap] 32)).alloc (.cells #[.int .i64 0] 3)).alloc (.cells #[.bool false] 4)) 24 (.pointer p)
  simp only [World.size_alloc] at bR bO bB
  have hB0 : Below w.heap.size w ((((w.alloc (.cells #[.slice ao ts.length cap] 32)).alloc (.cells #[.int .i64 0] 3)).alloc (.cells #[.bool false] 4)).alloc (.cells #[.pointer p] 24)) := ((((Below.refl _ w).alloc (Nat.le_refl _) _).alloc (by simp) _).alloc (by simp; omega) _).alloc (by simp; omega) _
  have hsz : ((((w.alloc (.cells #[.slice ao ts.length cap] 32)).alloc (.cells #[.int .i64 0] 3)).alloc (.cells #[.bool false] 4)).alloc (.cells #[.pointer p] 24)).heap.size = w.heap.size + 4 := by simp
  obtain ⟨W0, hW0⟩ : ∃ W0, (((w.alloc (.cells #[.slice ao ts.length cap] 32)).alloc (.cells #[.int .i64 0] 3)).alloc (.cells #[.bool false] 4)).alloc (.cells #[.pointer p] 24) = W0 := ⟨_, rfl⟩
  rw [hW0] at bT bR bO bB hB0 hsz ⊢
  clear hW0
  refine wpIn_rangeFunc_ownH rfl h1 (gf := 25) (lb := #[.pointer (some ⟨w.heap.size + 1 + 1 + 1, 0, none⟩)]) rfl trivial (enters_of Try.func25 (by kernel_rfl) rfl)
    (mall_stops (n - 1) (by omega) (w.heap.size + 1 + 1 + 1) w l (.pointer p) hbox W0 hB0 bB) KpB.t (KpB.b (by omega) (by omega)) (Below.refl _ _) (fun _ => rfl)
    (fun pre W => ((Boxed W w.heap.size 32 (.slice ao ts.length cap) ∧ Boxed W (w.heap.size + 1) 3 (.int .i64 0)) ∧ Boxed W (w.heap.size + 1 + 1) 4 (.bool false)) ∧ (Below w.heap.size w W ∧ ∀ y ∈ pre, Mail.has ts y.2.1 = false))
    (fun c pre W => (∃ (k : Int), Boxed W (w.heap.size + 1) 3 (.int .i64 k) ∧ Boxed W (w.heap.size + 1 + 1) 4 (.bool true) ∧ (∃ pre0 x, pre = pre0 ++ [x] ∧ k = (x.1 : Int) ∧ (∀ y ∈ pre0, Mail.has ts y.2.1 = false) ∧ Mail.has ts x.2.1 = true) ∧ c = .ret) ∧ Below w.heap.size w W)
    (OwnFrom.and (OwnFrom.and (OwnFrom.and (Own.from (boxed_own _ _ _) _) (Own.from (boxed_own _ _ _) _)) (Own.from (boxed_own _ _ _) _)) (OwnFrom.and (ownFrom_below (Nat.le_refl _) (by omega)) (fun _ _ _ _ h _ _ => h)))
    (fun c => OwnFrom.and (fun pre X Y row hs hg hr => by
      obtain ⟨k, h1, h2, h3⟩ := hs
      exact ⟨k, boxed_own _ _ (fun (_ : Unit) => Value.int .i64 k) () X Y row h1 hg (fun r e => (hr r e).2), boxed_own _ _ (fun (_ : Unit) => Value.bool true) () X Y row h2 hg (fun r e => (hr r e).2), h3⟩) (ownFrom_below (Nat.le_refl _) (by omega)))
    ⟨⟨⟨bT, bR⟩, bO⟩, hB0, by simp⟩
    (fun x a' W => ∃ Bx, w.heap.size + 1 + 1 < Bx ∧ W.heap[Bx]? = some (.cells #[.int .i64 x.2.1, .int .i64 x.2.2] 31 (0, 0)) ∧ a' = { tmps := #[.pointer p, .slice ao ts.length cap, undef, .pointer (some ⟨w.heap.size, 0, none⟩), .pointer (some ⟨w.heap.size + 1, 0, none⟩), .pointer (some ⟨w.heap.size + 1 + 1, 0, none⟩), .int .i64 (x.1 : Int), .pointer (some ⟨Bx, 0, none⟩), .pointer p, .func (.func 25) #[] #[.pointer (some ⟨w.heap.size + 1 + 1 + 1, 0, none⟩)], .int .i64 (x.1 : Int), .agg #[.int .i64 x.2.1, .int .i64 x.2.2], undef, undef, undef, undef, undef], defers := [] })
    (fun x a' _ X Y row hs hg hr => by
      obtain ⟨Bx, h1, h2, h3⟩ := hs
      exact ⟨Bx, h1, (hg.block Bx (Array.getElem?_eq_some_iff.1 h2).1 (fun e => by obtain ⟨_, o, ho, hc⟩ := hr Bx e.symm; rw [h2] at ho; cases ho; cases hc)).trans h2, h3⟩)
    ?assign ?body ?done ?stop
  case assign =>
    rintro lp pre x W K ⟨⟨⟨bT1, bR1⟩, bO1⟩, hB1, hno⟩ hK
    gi_wp2
    exact hK _ _ ((KeepsOthers.alloc _ _).from _) ⟨(Below.refl _ W).alloc hB1.size _, fun o h => (Below.heap_alloc W _ _ (Array.getElem?_eq_some_iff.1 h).1).trans h⟩ ⟨⟨⟨bT1.alloc _, bR1.alloc _⟩, bO1.alloc _⟩, hB1.alloc hB1.size _, hno⟩ ⟨W.heap.size, bO1.lt, World.alloc_heap_new W _, rfl⟩
  case body =>
    rintro lp pre x a' W hlp _ ⟨⟨⟨bT1, bR1⟩, bO1⟩, hB1, hno⟩ ⟨Bx, hBx, bX, rfl⟩ hlt
    have cT := bT1.cell
    have cR := bR1.cell
    have fR := bR1.frozen
    have cO := bO1.cell
    have fO := bO1.frozen
    have cX : W.cell? ⟨Bx, 0, none⟩ = some (.int .i64 x.2.1) := by simp [World.cell?, bX]
    have hcon := contains_any (w := W) x.2.1 ts ao cap hm (rd_below hrd hB1)
    have HNO := Lib.hid hno; clear hno
    cases he : Mail.has ts x.2.1 with
    | true =>
      rw [he] at hcon
      have HC := Lib.hid hcon; clear hcon
      have HE := Lib.hid he; clear he
      gi_wp2_with (refine ⟨trivial, (fun _ => (by omega)), ?_⟩; gi_at_call 23; refine (CallsIn.inRound lp (callsIn_wide.2 HC.out)).mono ?_; rintro e w' ⟨rfl, rfl⟩)
      exact ⟨((KeepsOthers.setCell _ _ _).trans (KeepsOthers.setCell _ _ _)).from _, ⟨(x.1 : Int), (bR1.set _).other (by omega) _, (bO1.other (by omega) _).set _, ⟨pre, x, rfl, rfl, HNO.out, HE.out⟩, rfl⟩,
        (hB1.setCell (p := ⟨w.heap.size + 1, 0, none⟩) (by simp) _).setCell (p := ⟨w.heap.size + 1 + 1, 0, none⟩) (by simp; omega) _⟩
    | false =>
      rw [he] at hcon
      have HC := Lib.hid hcon; clear hcon
      have HE := Lib.hid he; clear he
      gi_wp2_with (refine ⟨trivial, (fun _ => (by omega)), ?_⟩; gi_at_call 23; refine (CallsIn.inRound lp (callsIn_wide.2 HC.out)).mono ?_; rintro e w' ⟨rfl, rfl⟩)
      exact ⟨KeepsFrom.refl _ _, ⟨Below.refl _ _, fun _ h => h⟩, ⟨⟨⟨bT1, bR1⟩, bO1⟩, hB1, fun y hy => (List.mem_append.1 hy).elim (HNO.out y) (fun e => by simp at e; subst e; exact HE.out)⟩⟩
  case done =>
    rintro D ys W hD rfl ⟨⟨⟨bT1, bR1⟩, bO1⟩, hB1, hno⟩ hK
    have cR := bR1.cell
    have fR := bR1.frozen
    have cO := bO1.cell
    have fO := bO1.frozen
    have HF := Lib.hid (Mail.find_none ts l hno)
    clear hno
    gi_wp2
    have bR2 := (bR1.set (.int .i64 0)).other (B' := w.heap.size + 1 + 1) (by omega) (.bool false)
    have bO2 := (bO1.other (B' := w.heap.size + 1) (by omega) (.int .i64 0)).set (.bool false)
    have hK' := ((KeepsOthers.setCell W ⟨w.heap.size + 1, 0, none⟩ (.int .i64 0)).trans (KeepsOthers.setCell _ ⟨w.heap.size + 1 + 1, 0, none⟩ (.bool false))).same D _ hK rfl
    have hB2 := (hB1.setCell (p := ⟨w.heap.size + 1, 0, none⟩) (by simp) (.int .i64 0)).setCell (p := ⟨w.heap.size + 1 + 1, 0, none⟩) (by simp; omega) (.bool false)
    refine ⟨by simp, .inl ⟨_, _, rfl, run_takeDeferred hK', ?_⟩⟩
    have hc5 := cell_kept bR2.cell (grownBy_putObj' _ D (.deferred none)) (fun r e => by cases e; exact ⟨_, hK', rfl⟩)
    have hc6 := cell_kept bO2.cell (grownBy_putObj' _ D (.deferred none)) (fun r e => by cases e; exact ⟨_, hK', rfl⟩)
    refine ⟨.tuple #[.int .i64 0, .bool false], ?_, by rw [HF.out], hB2.trans (belowK_b (w := w) (Nat.le_refl _) _ D _ _ (by omega) hK' rfl rfl)⟩
    simp [results, Try.f13, go_sem, hc5, hc6]
  case stop =>
    rintro D c pre W hD ⟨k, hk, hpre⟩ ⟨⟨q, bR1, bO1, ⟨pre0, x, hp0, hq, hno, hx⟩, rfl⟩, hB1⟩ hK
    have HF := Lib.hid (Mail.find_some ts l k hk pre0 x (hpre.symm.trans hp0) hno hx)
    subst hq
    clear hno hx hpre hp0
    have cR := bR1.cell
    have cO := bO1.cell
    gi_wp2
    refine ⟨by simp, .inl ⟨_, _, rfl, run_takeDeferred hK, ?_⟩⟩
    have hc5 := cell_kept bR1.cell (grownBy_putObj' _ D (.deferred none)) (fun r e => by cases e; exact ⟨_, hK, rfl⟩)
    have hc6 := cell_kept bO1.cell (grownBy_putObj' _ D (.deferred none)) (fun r e => by cases e; exact ⟨_, hK, rfl⟩)
    refine ⟨.tuple #[.int .i64 (x.1 : Int), .bool true], ?_, by rw [HF.out], hB1.trans (belowK_b (w := w) (Nat.le_refl _) _ D _ _ (by omega) hK rfl rfl)⟩
    simp [results, Try.f13, go_sem, hc5, hc6]

theorem mfind_any {w0 : World} {L : List HP} {a : Nat} {l : List M} (ts : List Int) (ao : Option Addr) (cap : Nat) (hm : ts.length ≤ maxLen) (w : World) (hrd : Rd w ao (ts.map (Value.int .i64))) (hl : l.length ≤ 16) (hA : At w0 w (BoxC a l :: L)) :
    Calls Try.prog 13 #[.pointer (some ⟨a, 0, none⟩), .slice ao ts.length cap] w fun e w' => e = .returned (.tuple #[.int .i64 (Mail.find ts l 0).1, .bool (Mail.find ts l 0).2]) ∧ At w0 w' (BoxC a l :: L) :=
  (callsIn_wide.1 (mfind_in 3 (Nat.le_refl _) ts ao cap hm w hrd l _ (BoxAt.of hl hA))).mono fun _ _ h => ⟨h.1, hA.later h.2⟩
theorem mfind_nil {w0 : World} {L : List HP} (ts : List Int) (ao : Option Addr) (cap : Nat) (hm : ts.length ≤ maxLen) (w : World) (hrd : Rd w ao (ts.map (Value.int .i64))) (hA : At w0 w L) :
    Calls Try.prog 13 #[.pointer none, .slice ao ts.length cap] w fun e w' => e = .returned (.tuple #[.int .i64 0, .bool false]) ∧ At w0 w' L :=
  (callsIn_wide.1 (mfind_in 3 (Nat.le_refl _) ts ao cap hm w hrd [] _ (.inl ⟨rfl, rfl⟩))).mono fun _ _ h => ⟨h.1, hA.later h.2⟩
end Go.Proofs.Ytpilkneicakohaa
