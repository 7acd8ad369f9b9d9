/-
  The module's iterator: its contract.
-/
import Derived.Test.YtebolbjbfnolpafModO
import Derived.Test.YtebolbjbfnolpafLib3
import Derived.RangeFuncNested
import Derived.RangeFuncBound
import Derived.RangeFuncCalls
import Derived.RangeFuncLeaves
import Derived.RangeFuncBox
import Derived.Shelf.Abstract
import Derived.Shelf.RegionOpen
import Derived.OwnWalkIn
import Derived.TacticsInMore
import Derived.LoopNIn
import Derived.LoopIn
namespace Go.Proofs.Ytebolbjbfnolpaf
open Go.RowKit HP
open Go.Proofs.Ytebolbjbfnolpaf.Mod
attribute [local go_sem] Oper.semAt_some

namespace Mod
/-- an instruction and its place -/
abbrev E := (Nat × Nat) × (Int × Int)
def eachOf (k : Nat) : Nat → List PairD → List E
  | _, [] => []
  | j, i :: c => ((k, j), toP i) :: eachOf k (j + 1) c
def each : Nat → List ActD → List E
  | _, [] => []
  | k, a :: l => eachOf k 0 a.2.2.2.1 ++ each (k + 1) l
def rst0 (k j : Nat) : List ActD → List E
  | [] => []
  | a :: r => eachOf k j (a.2.2.2.1.drop j) ++ each (k + 1) r
/-- what is left when k actors are over and j instructions of the next -/
def rst (l : List ActD) (k j : Nat) : List E := rst0 k j (l.drop k)
theorem rst0_zero (k : Nat) (l : List ActD) : rst0 k 0 l = each k l := by cases l <;> rfl
theorem each_rst (l : List ActD) : each 0 l = rst l 0 0 := (rst0_zero 0 l).symm
theorem rst_end {l : List ActD} {k : Nat} (h : l.length ≤ k) (j : Nat) : rst l k j = [] := by rw [rst, List.drop_eq_nil_of_le h]; rfl
theorem rst_next {l : List ActD} {k j : Nat} (h : k < l.length) (h2 : l[k].2.2.2.1.length ≤ j) : rst l k j = rst l (k + 1) 0 := by
  rw [rst, List.drop_eq_getElem_cons h, rst0, List.drop_eq_nil_of_le h2, rst, rst0_zero]; rfl
theorem rst_cons {l : List ActD} {k j : Nat} (h : k < l.length) (h2 : j < l[k].2.2.2.1.length) : rst l k j = ((k, j), toP l[k].2.2.2.1[j]) :: rst l k (j + 1) := by
  rw [rst, rst, List.drop_eq_getElem_cons h, rst0, rst0, List.drop_eq_getElem_cons h2, eachOf]; rfl
end Mod

/-- what a round that goes on keeps: what lay when the call began, and one block more -/
def KpB (n₀ Bb : Nat) (W W' : World) : Prop := Below n₀ W W' ∧ ∀ o, W.heap[Bb]? = some o → W'.heap[Bb]? = some o
theorem KpB.t {n₀ Bb : Nat} {A B C : World} (h : KpB n₀ Bb A B) (k : KpB n₀ Bb B C) : KpB n₀ Bb A C := ⟨h.1.trans k.1, fun o e => k.2 o (h.2 o e)⟩
theorem KpB.b {n₀ Bb : Nat} {w : World} (hn : n₀ ≤ w.heap.size) (hB : Bb < w.heap.size) (W : World) (l : Nat) (o o' : Obj) (hl : w.heap.size ≤ l) (h : W.heap[l]? = some o) (h1 : o.isCells = false) (h2 : o.isWalk = false) : KpB n₀ Bb W (W.putObj l o') :=
  ⟨belowK_b hn W l o o' hl h h1 h2, fun x e => (World.putObj_heap_other (by omega)).trans e⟩
theorem KpB.al {n₀ Bb : Nat} (W : World) (o : Obj) (hn : n₀ ≤ W.heap.size) : KpB n₀ Bb W (W.alloc o) :=
  ⟨(Below.refl n₀ W).alloc hn _, fun x e => (Below.heap_alloc W o Bb (Array.getElem?_eq_some_iff.1 e).1).trans e⟩
abbrev eencs (x : Mod.E) : Array Value := #[.agg #[.int .i64 (x.1.1 : Int), .int .i64 (x.1.2 : Int)], .agg #[.int .i64 x.2.1, .int .i64 x.2.2]]
def EaRel (J : List Mod.E → World → Prop) (l : List ActD) (k n n₀ Bb : Nat) (W : World) (i : Value) (wr : World) : Prop :=
  ∃ (j : Nat) (pre : List Mod.E), j ≤ n ∧ i = .int .i64 j ∧ each 0 l = pre ++ rst l k j ∧ J pre wr ∧ KpB n₀ Bb W wr ∧ W.heap.size ≤ wr.heap.size
def EbRel (J : List Mod.E → World → Prop) (l : List ActD) (n n₀ Bb : Nat) (W : World) (i : Value) (wr : World) : Prop :=
  ∃ (k : Nat) (pre : List Mod.E), k ≤ n ∧ i = .int .i64 k ∧ each 0 l = pre ++ rst l k 0 ∧ J pre wr ∧ KpB n₀ Bb W wr ∧ W.heap.size ≤ wr.heap.size

theorem meach_any (ao : Option Addr) (n cap : Nat) (w : World) :
    Calls Try.prog 5 #[.agg #[.slice ao n cap]] w fun e w' => e = .returned (.func (.func 9) #[] #[.pointer (some ⟨w.heap.size, 0, none⟩)]) ∧ w' = w.alloc (.cells #[.slice ao n cap] 24) := by
  go_enter Try.func5, Try.ntmps5
  go_wp2
  go_returns
  exact ⟨rfl, rfl⟩

set_option maxRecDepth 100000 in
set_option maxHeartbeats 4000000 in
theorem meach1_in (n : Nat) (hn : 1 ≤ n) (lp Bb : Nat) (w : World) (l : List ActD) (ao : Option Addr) (q cap : Nat) (hq : l.length = q) (hm : q ≤ maxLen) (hrd : Kn.At_ kActor w ao l) (J Jx : List Mod.E → World → Prop)
    (hY : ∀ pre x W, J pre W → pre.length < (each 0 l).length → YieldAt Fence.wide (n - 1) Try.prog lp (eencs x) W fun e W' =>
      (e = .returned (.bool true) ∧ J (pre ++ [x]) W' ∧ KpB w.heap.size Bb W W') ∨ (e = .returned (.bool false) ∧ Jx (pre ++ [x]) W'))
    (W : World) (hJ : AbidesFrom W.heap.size J) (hb : Below w.heap.size w W) (hB : W.heap[Bb]? = some (.cells #[.slice ao q cap] 24 (0, 0))) (h0 : J [] W) :
    CallsIn Fence.wide n Try.prog 9 #[.func (.yield lp) #[] #[], .pointer (some ⟨Bb, 0, none⟩)] W fun e W' => (∃ v, e = .returned v) ∧
      ((∃ ys, ys = each 0 l ∧ J ys W') ∨ (∃ pre, pre <+: each 0 l ∧ Jx pre W')) := by
  have hcB : W.cell? ⟨Bb, 0, none⟩ = some (.slice ao q cap) := by simp [World.cell?, hB]
  unfold maxLen at hm
  have HQ := Lib.hid hq; clear hq
  refine callsIn_of_wp Try.func9 rfl trivial ?_ rfl
  simp only [Try.ntmps9, List.size_toArray, List.length_cons, List.length_nil, Nat.reduceAdd, Nat.reduceSub, Array.replicate_succ, Array.replicate_zero, List.push_toArray, List.append_toArray, List.nil_append, List.cons_append]
  gi_wp2
  gi_loopw [10] (fun i wr => EbRel J l q w.heap.size Bb W i wr) (fun i _ => q - (intOf i).toNat)
  case atStart => exact ⟨0, [], Nat.zero_le _, rfl, by rw [each_rst]; rfl, h0, ⟨Below.refl _ _, fun _ h => h⟩, Nat.le_refl _⟩
  case round =>
    obtain ⟨k, pre, hk, rfl, hpr, hJs, hkp, hsz⟩ := hrel
    by_cases hlt : k < q
    · have hkl : k < l.length := by rw [HQ.out]; exact hlt
      obtain ⟨b, off, rfl⟩ : ∃ b off, ao = some ⟨b, off, none⟩ := by
        rcases hrd with rfl | ⟨b, off, e, _⟩
        · simp at hkl
        · exact ⟨b, off, e⟩
      obtain ⟨aP, cP, aR, cR, aM, cM, aC, cC, aT, cT, ⟨d0, d1, d2, d3, d4⟩, ga⟩ := actor_at2 hrd k hkl
      obtain ⟨rP, rR, rM, rC, rT, lP, lR, lM, lC, lT⟩ := ga
      have hbw := hb.trans hkp.1
      have hnx := fun j (h2 : l[k].2.2.2.1.length ≤ j) => rst_next hkl h2
      have hcn := fun j (h2 : j < l[k].2.2.2.1.length) => rst_cons hkl h2
      generalize l[k] = t at *
      obtain ⟨p, r, m, c, ts, _⟩ := t
      simp only at d0 d1 d2 d3 d4 rC lC hnx hcn
      have e0 := (hbw.cell (World.block_lt_of_cell? w _ d0)).trans d0
      have e1 := (hbw.cell (World.block_lt_of_cell? w _ d1)).trans d1
      have e2 := (hbw.cell (World.block_lt_of_cell? w _ d2)).trans d2
      have e3 := (hbw.cell (World.block_lt_of_cell? w _ d3)).trans d3
      have e4 := (hbw.cell (World.block_lt_of_cell? w _ d4)).trans d4
      have hcn2 : ∀ (j : Nat) (h2 : j < (c.map toP).length), rst l k j = ((k, j), (c.map toP)[j]) :: rst l k (j + 1) := fun j h2 => by
        rw [List.getElem_map]; exact hcn j (by simpa using h2)
      have hxl : (c.map toP).length = c.length := by simp
      clear hcn d0 d1 d2 d3 d4 rP rR rM rT lP lR lM lT
      rw [hxl] at lC
      unfold maxLen at lC
      generalize c.map toP = X at *
      generalize c.length = u at *
      have HXL := Lib.hid hxl; clear hxl
      have HNX := Lib.hid hnx; clear hnx
      have HCN := Lib.hid hcn2; clear hcn2
      have HPR := Lib.hid hpr; clear hpr
      have z3 := ((At.start wr).alloc (.cells #[.slice aP p.length cP, .slice aR r.length cR, .slice aM m.length cM, .slice aC u cC, .slice aT ts.length cT] 37)).cell 3
      gi_wp2
      gi_loopw [18] (fun i wr => EaRel J l k u w.heap.size Bb W i wr) (fun i _ => u - (intOf i).toNat)
      case atStart => exact ⟨0, pre, Nat.zero_le _, rfl, HPR.out, hJ _ wr (wr.alloc _) none hJs (World.grownBy_alloc wr _ none) (fun r e => by cases e), hkp.t (KpB.al wr _ (by have := hb.size; omega)), by simp; omega⟩
      case round =>
        clear z3 e0 e1 e2 e3 e4
        obtain ⟨j, pre2, hj, rfl, hpr2, hJ2, hkp2, hsz2⟩ := hrel
        have HPR2 := Lib.hid hpr2; clear hpr2
        by_cases hlt2 : j < u
        · have hjX : j < X.length := by rw [HXL.out]; exact hlt2
          obtain ⟨b3, off3, rfl, hc⟩ := rC.some_ (by rw [pvs_len]; omega)
          obtain ⟨v1, v2⟩ := pvs_get .i64 .i64 X j hjX
          have hbw2 := hb.trans hkp2.1
          have f0 := (hbw2.cell (World.block_lt_of_cell? w _ (hc _ _ v1))).trans (hc _ _ v1)
          have f1 := (hbw2.cell (World.block_lt_of_cell? w _ (hc _ _ v2))).trans (hc _ _ v2)
          rw [← Nat.add_assoc] at f1
          have hx := HCN.out j hjX
          clear v1 v2 hc
          generalize X[j] = x at *
          obtain ⟨x1, x2⟩ := x
          simp only at f0 f1
          have HX := Lib.hid hx; clear hx
          have hJa := hJ _ wr (wr.alloc (.cells #[.int .i64 x1, .int .i64 x2] 32)) none hJ2 (World.grownBy_alloc wr _ none) (fun r e => by cases e)
          have g0 := ((At.start wr).alloc (.cells #[.int .i64 x1, .int .i64 x2] 32)).cell 0
          have g1 := ((At.start wr).alloc (.cells #[.int .i64 x1, .int .i64 x2] 32)).cell 1
          obtain ⟨fn, tmps, assign, body, hy, hR⟩ := hY _ ((k, j), (x1, x2)) (wr.alloc (.cells #[.int .i64 x1, .int .i64 x2] 32)) hJa (by rw [HPR2.out, HX.out]; simp)
          dsimp only [eencs] at hy
          gi_wp2
          refine hR.mono ?_
          rintro e W3 (⟨rfl, hJ3, hk3⟩ | ⟨rfl, hJx3⟩)
          · gi_wp2
            go_roundw
            case rel =>
              refine ⟨j + 1, pre2 ++ [((k, j), (x1, x2))], by omega, by go_num, by rw [HPR2.out, HX.out]; simp, hJ3, hkp2.t ((KpB.al wr _ (by have := hb.size; omega)).t hk3), ?_⟩
              have := hk3.1.size
              simp at this; omega
            case measure => simp [intOf]; omega
          · gi_wp2
            refine bodyPost_ret (results_none rfl _ _ _) rfl ?_
            exact ⟨⟨_, rfl⟩, .inr ⟨_, ⟨rst l k (j + 1), by rw [HPR2.out, HX.out]; simp⟩, hJx3⟩⟩
        · have hju : u = j := by omega
          subst hju
          gi_wp2
          go_roundw
          case rel => exact ⟨k + 1, pre2, by omega, by go_num, by rw [HPR2.out, HNX.out u (Nat.le_refl _)], hJ2, hkp2, hsz2⟩
          case measure => simp [intOf]; omega
    · have hkm : q = k := by omega
      have HE := Lib.hid (show rst l k 0 = [] from rst_end (by rw [HQ.out]; omega) 0)
      subst hkm
      gi_wp2
      go_end0
      exact ⟨⟨_, rfl⟩, .inl ⟨_, rfl, by rw [hpr, HE.out, List.append_nil]; exact hJs⟩⟩

theorem meach_stops (n : Nat) (hn : 1 ≤ n) (Bb : Nat) (w : World) (l : List ActD) (ao : Option Addr) (q cap : Nat) (hq : l.length = q) (hm : q ≤ maxLen) (hrd : Kn.At_ kActor w ao l) (w1 : World) (hb : Below w.heap.size w w1) (hB : w1.heap[Bb]? = some (.cells #[.slice ao q cap] 24 (0, 0))) :
    SeqStopsK Fence.wide n Try.prog 9 #[.pointer (some ⟨Bb, 0, none⟩)] eencs (KpB w.heap.size Bb) (fun ys => ys = each 0 l) (fun pre => pre <+: each 0 l) (each 0 l).length w1 := fun lp J Jx W hW hJ _ hY h0 =>
  meach1_in n hn lp Bb w l ao q cap hq hm hrd J Jx hY W hJ (hb.trans (hW.mono hb.size)) (by rw [hW.block Bb (Array.getElem?_eq_some_iff.1 hB).1]; exact hB) h0
end Go.Proofs.Ytebolbjbfnolpaf
