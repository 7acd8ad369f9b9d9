/-
  The law ModuleEach.
-/
import Derived.Test.YtebolbjbfnolpafModV
import Derived.Test.YtebolbjbfnolpafModEa
import Derived.Sort.BigQuietIn
namespace Go.Proofs.Ytebolbjbfnolpaf
open Go.RowKit HP
open Go.Proofs.Ytebolbjbfnolpaf.Mod
open BigFrame
attribute [local go_sem] Oper.semAt_some

/-! a region that only reads, in a round of a range over a function -/
def noDefer (ops : List Oper) : Bool := ops.all fun o => match o.op with | .defer _ => false | _ => true
section
variable {F : Fence} {n : Nat} {P : Program} {ops : Array Oper} {md : Region.Mode} {Q : Exit → Act → World → Prop}
theorem Oper.wpIn_round {o : Oper} {a : Act} {w : World} {K : Act → World → Prop} (lp : Nat) (hd : ∀ c, o.op ≠ .defer c) (hro : F.round = none) (h : o.wpIn F n P a w K Q) : o.wpIn (F.inRound lp) n P a w K Q := by
  unfold Oper.wpIn at *
  refine ⟨h.1, ?_⟩
  have h2 := h.2
  rw [hro, Oper.semAt_none] at h2
  rw [Fence.inRound_round, Oper.semAt_some _ _ _ hd]
  generalize (execOp a.eval o).run P w = r at *
  cases r with
  | ok x w' => cases x <;> simp only [Oper.uponIn] at h2 ⊢ <;> exact h2
  | halt x w' => cases x <;> simp only [Oper.uponIn] at h2 ⊢ <;> exact h2
theorem wpOpIn_round {i : Nat} {a : Act} {w : World} {K K' : Act → World → Prop} (lp : Nat) (hd : noDefer ops.toList = true) (hro : F.round = none) (hK : ∀ a w, K a w → K' a w) (h : wpOpIn F n P ops Q i K a w) : wpOpIn (F.inRound lp) n P ops Q i K' a w := by
  have h := wpOpIn_mono hK h
  unfold wpOpIn at h ⊢
  cases e : ops[i]? with
  | none => simpa [e] using h
  | some o =>
    simp only [e] at h ⊢
    have hm : o ∈ ops.toList := by
      have := Array.mem_of_getElem? e
      simpa using this
    have hdo : ∀ c, o.op ≠ .defer c := by
      intro c hc
      have := List.all_eq_true.1 hd o hm
      rw [hc] at this; simp at this
    split
    · rename_i hw; simp only [hw, if_true] at h; exact Oper.wpIn_round lp hdo hro h
    · rename_i hw; simp only [hw] at h; exact h
theorem wpAnyIn_round (lp : Nat) (hd : noDefer ops.toList = true) (hro : F.round = none) : ∀ (fuel : Nat) (listed : Array Bool) (a : Act) (w : World), wpAnyIn F n P md ops Q fuel listed a w → wpAnyIn (F.inRound lp) n P md ops Q fuel listed a w
  | 0, _, _, _, h => h
  | fuel + 1, _, _, _, h => ⟨h.1, fun i hi => wpOpIn_round lp hd hro (fun _ _ h => wpAnyIn_round lp hd hro fuel _ _ _ h) (h.2 i hi)⟩
theorem wpIn_quiet_round {id lp : Nat} {a : Act} {w : World} {l : List Oper} (hro : F.round = none) (hd : noDefer l = true) (hm : P.follows .mixedOrders = true) (hB : Region.lexB .any l.toArray = true)
    (h : wpQuietIn F n P l.toArray (fun w' => ∃ n, w' = w.drewN n) (fun a' => ∀ w', (∃ n, w' = w.drewN n) → Q .normal a' w') l a) : (Code.region id l.toArray true).wpIn (F.inRound lp) n P Q a w := by
  simp only [Region.lexB, Bool.and_eq_true] at hB
  refine wpIn_region_any hm (wpAnyIn_round lp (by simpa using hd) hro _ _ _ _ (wpAnyIn_of_quiet (C := fun w' => ∃ n, w' = w.drewN n) (Q := fun a' => ∀ w', (∃ n, w' = w.drewN n) → Q .normal a' w') hro (fun _ w' hw' h => h w' hw') _ _ _ _ ⟨1, rfl⟩ ?_))
  have := wpAnyQIn_lex (F := F) (n := n) (C := fun w' => ∃ n, w' = w.drewN n) (md := .any) hB.1 l.toArray.toList 0 (Array.replicate l.toArray.size false) a (by simp) (by simpa using hB.2) (by simpa using h)
  simpa using this
end

/-- the law's memory: the iterator's box, stop, n, at, k, the result, the module -/
def LeM (W0 X : World) (b2 b4 b5 b6 b7 b8 be : Nat) (ao : Option Addr) (q cap : Nat) (stop v7 v6 v5 : Int) (res : Bool) (M : List HP) : Prop :=
  At W0 X (M ++ [HP.one be (.cells #[.slice ao q cap] 24 (0, 0)), HP.one b8 (.cells #[.int .i64 stop] 3 (0, 0)), HP.one b7 (.cells #[.int .i64 v7] 3 (0, 0)), HP.one b6 (.cells #[.int .i64 v6] 3 (0, 0)), HP.one b5 (.cells #[.int .i64 v5] 3 (0, 0)), HP.one b4 (.cells #[.bool res] 4 (0, 0)), HP.one b2 (.cells #[.slice ao q cap] 24 (0, 0))])
theorem LeM.turn {W0 X Y : World} {b2 b4 b5 b6 b7 b8 be : Nat} {ao : Option Addr} {q cap : Nat} {stop v7 v6 v5 : Int} {res : Bool} {M : List HP} (hM : ∀ Q ∈ M, HP.Cells Q) {row' : Option Nat} {B : Nat} (hB : W0.heap.size ≤ B) (h : LeM W0 X b2 b4 b5 b6 b7 b8 be ao q cap stop v7 v6 v5 res M) (hg : X.grownBy Y row') (hr : ∀ r, row' = some r → B ≤ r ∧ ∃ o : Obj, X.heap[r]? = some o ∧ o.isCells = false) : LeM W0 Y b2 b4 b5 b6 b7 b8 be ao q cap stop v7 v6 v5 res M := by
  unfold LeM at h ⊢
  refine h.turn ?_ hg (fun r e => ⟨Nat.le_trans hB (hr r e).1, (hr r e).2⟩)
  intro Q hQ
  rcases List.mem_append.1 hQ with hQ | hQ
  · exact hM Q hQ
  · simp only [List.mem_cons, List.not_mem_nil, or_false] at hQ
    rcases hQ with rfl | rfl | rfl | rfl | rfl | rfl | rfl
    all_goals exact HP.Cells.one _ _ _ _
section
variable {w0 w : World} {M N : List HP} {b : Nat} {cs : Array Value} {T : TypeId}
theorem At.cellAt (h : At w0 w (M ++ HP.one b (.cells cs T (0, 0)) :: N)) (i : Nat) : w.cell? ⟨b, i, none⟩ = cs[i]? := (h.perm List.perm_middle).cell i
theorem At.freeAt (h : At w0 w (M ++ HP.one b (.cells cs T (0, 0)) :: N)) (i : Nat) : w.frozen? ⟨b, i, none⟩ = false := (h.perm List.perm_middle).free i
theorem At.setAt (h : At w0 w (M ++ HP.one b (.cells cs T (0, 0)) :: N)) (i : Nat) (v : Value) : At w0 (w.setCell ⟨b, i, none⟩ v) (M ++ HP.one b (.cells (cs.setIfInBounds i v) T (0, 0)) :: N) :=
  ((h.perm List.perm_middle).setCell i v).perm List.perm_middle.symm
end
section
variable {W0 X : World} {b2 b4 b5 b6 b7 b8 be : Nat} {ao : Option Addr} {q cap : Nat} {stop v7 v6 v5 : Int} {res : Bool} {M : List HP}
theorem LeM.old (h : LeM W0 X b2 b4 b5 b6 b7 b8 be ao q cap stop v7 v6 v5 res M) {a : Addr} {v : Value} (d : W0.cell? a = some v) : X.cell? a = some v := At.oldCell h d
theorem LeM.drewN (h : LeM W0 X b2 b4 b5 b6 b7 b8 be ao q cap stop v7 v6 v5 res M) (n : Nat) : LeM W0 (X.drewN n) b2 b4 b5 b6 b7 b8 be ao q cap stop v7 v6 v5 res M := At.drewN h n
theorem LeM.one {P : HP} (h : LeM W0 X b2 b4 b5 b6 b7 b8 be ao q cap stop v7 v6 v5 res (P :: M)) : LeM W0 X b2 b4 b5 b6 b7 b8 be ao q cap stop v7 v6 v5 res M := At.drop h
theorem LeM.al (h : LeM W0 X b2 b4 b5 b6 b7 b8 be ao q cap stop v7 v6 v5 res M) (o : Obj) : LeM W0 (X.alloc o) b2 b4 b5 b6 b7 b8 be ao q cap stop v7 v6 v5 res (HP.one X.heap.size o :: M) := At.alloc h o
theorem LeM.bel (h : LeM W0 X b2 b4 b5 b6 b7 b8 be ao q cap stop v7 v6 v5 res M) : Below W0.heap.size W0 X := At.below h
theorem LeM.h0 {b : Nat} {cs : Array Value} {T : TypeId} (h : LeM W0 X b2 b4 b5 b6 b7 b8 be ao q cap stop v7 v6 v5 res (HP.one b (.cells cs T (0, 0)) :: M)) (i : Nat) : X.cell? ⟨b, i, none⟩ = cs[i]? := At.cell h i
theorem LeM.h1 {b : Nat} {cs : Array Value} {T : TypeId} {P : HP} (h : LeM W0 X b2 b4 b5 b6 b7 b8 be ao q cap stop v7 v6 v5 res (P :: HP.one b (.cells cs T (0, 0)) :: M)) (i : Nat) : X.cell? ⟨b, i, none⟩ = cs[i]? := At.cell (At.pick2 h) i
theorem LeM.c2 (h : LeM W0 X b2 b4 b5 b6 b7 b8 be ao q cap stop v7 v6 v5 res M) : X.cell? ⟨b2, 0, none⟩ = some (.slice ao q cap) :=
  At.cellAt (M := M ++ [HP.one be _, HP.one b8 _, HP.one b7 _, HP.one b6 _, HP.one b5 _, HP.one b4 _]) (N := []) (by rw [List.append_assoc]; exact h) 0
theorem LeM.c4 (h : LeM W0 X b2 b4 b5 b6 b7 b8 be ao q cap stop v7 v6 v5 res M) : X.cell? ⟨b4, 0, none⟩ = some (.bool res) :=
  At.cellAt (M := M ++ [HP.one be _, HP.one b8 _, HP.one b7 _, HP.one b6 _, HP.one b5 _]) (N := [HP.one b2 _]) (by rw [List.append_assoc]; exact h) 0
theorem LeM.f4 (h : LeM W0 X b2 b4 b5 b6 b7 b8 be ao q cap stop v7 v6 v5 res M) (i : Nat) : X.frozen? ⟨b4, i, none⟩ = false :=
  At.freeAt (M := M ++ [HP.one be _, HP.one b8 _, HP.one b7 _, HP.one b6 _, HP.one b5 _]) (N := [HP.one b2 _]) (by rw [List.append_assoc]; exact h) i
theorem LeM.s4 (h : LeM W0 X b2 b4 b5 b6 b7 b8 be ao q cap stop v7 v6 v5 res M) (r : Bool) : LeM W0 (X.setCell ⟨b4, 0, none⟩ (.bool r)) b2 b4 b5 b6 b7 b8 be ao q cap stop v7 v6 v5 r M := by
  have := At.setAt (M := M ++ [HP.one be _, HP.one b8 _, HP.one b7 _, HP.one b6 _, HP.one b5 _]) (N := [HP.one b2 _]) (by rw [List.append_assoc]; exact h) 0 (.bool r)
  rw [List.append_assoc] at this; exact this
theorem LeM.c5 (h : LeM W0 X b2 b4 b5 b6 b7 b8 be ao q cap stop v7 v6 v5 res M) : X.cell? ⟨b5, 0, none⟩ = some (.int .i64 v5) :=
  At.cellAt (M := M ++ [HP.one be _, HP.one b8 _, HP.one b7 _, HP.one b6 _]) (N := [HP.one b4 _, HP.one b2 _]) (by rw [List.append_assoc]; exact h) 0
theorem LeM.f5 (h : LeM W0 X b2 b4 b5 b6 b7 b8 be ao q cap stop v7 v6 v5 res M) (i : Nat) : X.frozen? ⟨b5, i, none⟩ = false :=
  At.freeAt (M := M ++ [HP.one be _, HP.one b8 _, HP.one b7 _, HP.one b6 _]) (N := [HP.one b4 _, HP.one b2 _]) (by rw [List.append_assoc]; exact h) i
theorem LeM.s5 (h : LeM W0 X b2 b4 b5 b6 b7 b8 be ao q cap stop v7 v6 v5 res M) (z : Int) : LeM W0 (X.setCell ⟨b5, 0, none⟩ (.int .i64 z)) b2 b4 b5 b6 b7 b8 be ao q cap stop v7 v6 z res M := by
  have := At.setAt (M := M ++ [HP.one be _, HP.one b8 _, HP.one b7 _, HP.one b6 _]) (N := [HP.one b4 _, HP.one b2 _]) (by rw [List.append_assoc]; exact h) 0 (.int .i64 z)
  rw [List.append_assoc] at this; exact this
theorem LeM.c6 (h : LeM W0 X b2 b4 b5 b6 b7 b8 be ao q cap stop v7 v6 v5 res M) : X.cell? ⟨b6, 0, none⟩ = some (.int .i64 v6) :=
  At.cellAt (M := M ++ [HP.one be _, HP.one b8 _, HP.one b7 _]) (N := [HP.one b5 _, HP.one b4 _, HP.one b2 _]) (by rw [List.append_assoc]; exact h) 0
theorem LeM.f6 (h : LeM W0 X b2 b4 b5 b6 b7 b8 be ao q cap stop v7 v6 v5 res M) (i : Nat) : X.frozen? ⟨b6, i, none⟩ = false :=
  At.freeAt (M := M ++ [HP.one be _, HP.one b8 _, HP.one b7 _]) (N := [HP.one b5 _, HP.one b4 _, HP.one b2 _]) (by rw [List.append_assoc]; exact h) i
theorem LeM.s6 (h : LeM W0 X b2 b4 b5 b6 b7 b8 be ao q cap stop v7 v6 v5 res M) (z : Int) : LeM W0 (X.setCell ⟨b6, 0, none⟩ (.int .i64 z)) b2 b4 b5 b6 b7 b8 be ao q cap stop v7 z v5 res M := by
  have := At.setAt (M := M ++ [HP.one be _, HP.one b8 _, HP.one b7 _]) (N := [HP.one b5 _, HP.one b4 _, HP.one b2 _]) (by rw [List.append_assoc]; exact h) 0 (.int .i64 z)
  rw [List.append_assoc] at this; exact this
theorem LeM.c7 (h : LeM W0 X b2 b4 b5 b6 b7 b8 be ao q cap stop v7 v6 v5 res M) : X.cell? ⟨b7, 0, none⟩ = some (.int .i64 v7) :=
  At.cellAt (M := M ++ [HP.one be _, HP.one b8 _]) (N := [HP.one b6 _, HP.one b5 _, HP.one b4 _, HP.one b2 _]) (by rw [List.append_assoc]; exact h) 0
theorem LeM.f7 (h : LeM W0 X b2 b4 b5 b6 b7 b8 be ao q cap stop v7 v6 v5 res M) (i : Nat) : X.frozen? ⟨b7, i, none⟩ = false :=
  At.freeAt (M := M ++ [HP.one be _, HP.one b8 _]) (N := [HP.one b6 _, HP.one b5 _, HP.one b4 _, HP.one b2 _]) (by rw [List.append_assoc]; exact h) i
theorem LeM.s7 (h : LeM W0 X b2 b4 b5 b6 b7 b8 be ao q cap stop v7 v6 v5 res M) (z : Int) : LeM W0 (X.setCell ⟨b7, 0, none⟩ (.int .i64 z)) b2 b4 b5 b6 b7 b8 be ao q cap stop z v6 v5 res M := by
  have := At.setAt (M := M ++ [HP.one be _, HP.one b8 _]) (N := [HP.one b6 _, HP.one b5 _, HP.one b4 _, HP.one b2 _]) (by rw [List.append_assoc]; exact h) 0 (.int .i64 z)
  rw [List.append_assoc] at this; exact this
theorem LeM.c8 (h : LeM W0 X b2 b4 b5 b6 b7 b8 be ao q cap stop v7 v6 v5 res M) : X.cell? ⟨b8, 0, none⟩ = some (.int .i64 stop) :=
  At.cellAt (M := M ++ [HP.one be _]) (N := [HP.one b7 _, HP.one b6 _, HP.one b5 _, HP.one b4 _, HP.one b2 _]) (by rw [List.append_assoc]; exact h) 0
end
theorem KeepsOthers.drewN (W : World) (n : Nat) : KeepsOthers W (W.drewN n) := ⟨Nat.le_refl _, fun _ _ h _ => h⟩
theorem KpB.set {n₀ Bb b : Nat} (hb : n₀ ≤ b) (hne : b ≠ Bb) (W : World) (i : Nat) (v : Value) : KpB n₀ Bb W (W.setCell ⟨b, i, none⟩ v) :=
  ⟨(Below.refl n₀ W).setCell (p := ⟨b, i, none⟩) hb v, fun o e => (Below.heap_setCell W _ v Bb (by simpa using Ne.symm hne)).trans e⟩
theorem KpB.drewN {n₀ Bb : Nat} (W : World) (n : Nat) : KpB n₀ Bb W (W.drewN n) := ⟨⟨rfl, rfl, rfl, Nat.le_refl _, fun _ _ => rfl⟩, fun _ e => e⟩
theorem wrap_add (a b : Int) : wrap64 (wrap64 a + b) = wrap64 (a + b) := by unfold wrap64; omega

namespace Mod
theorem eachOf_len (k : Nat) : ∀ (c : List PairD) (j : Nat), (eachOf k j c).length = c.length
  | [], _ => rfl
  | i :: c, j => by rw [eachOf, List.length_cons, eachOf_len k c, List.length_cons]
theorem each_append (a : ActD) : ∀ (l : List ActD) (k : Nat), (each k (l ++ [a])).length = (each k l).length + a.2.2.2.1.length
  | [], k => by simp [each, eachOf_len]
  | x :: l, k => by
    rw [List.cons_append, each, each, List.length_append, List.length_append, each_append a l]; omega
theorem each_succ {l : List ActD} {j : Nat} (h : j < l.length) : (each 0 (l.take (j + 1))).length = (each 0 (l.take j)).length + l[j].2.2.2.1.length := by
  rw [List.take_succ_eq_append_getElem h, each_append]
theorem no_prefix_end {pre r : List E} {x : E} (h : r = pre ++ []) : ¬ pre ++ [x] <+: r := by
  intro hp
  have := hp.length_le
  rw [h] at this; simp at this; omega
theorem no_prefix_ne {pre r s : List E} {x y : E} (h : r = pre ++ (y :: s)) (hn : x ≠ y) : ¬ pre ++ [x] <+: r := by
  intro hp
  rw [h, List.prefix_append_right_inj] at hp
  obtain ⟨t, ht⟩ := hp
  injection ht with e _
  exact hn e
end Mod
def LeI (W0 : World) (l : List ActD) (b2 b4 b5 b6 b7 b8 be : Nat) (ao : Option Addr) (q cap : Nat) (stop : Int) (pre : List Mod.E) (X : World) : Prop :=
  ∃ k j : Nat, each 0 l = pre ++ rst l k j ∧ k ≤ q ∧ j ≤ 9223372036854775807 ∧ LeM W0 X b2 b4 b5 b6 b7 b8 be ao q cap stop (wrap64 (pre.length : Int)) j k false []
def LeIx (W0 : World) (l : List ActD) (b2 b4 b5 b6 b7 b8 be : Nat) (ao : Option Addr) (q cap : Nat) (stop : Int) (c : Code) (pre : List Mod.E) (X : World) : Prop :=
  c = .ret ∧ ∃ (v7 v6 v5 : Int) (res : Bool), (res = true ∨ ¬ pre <+: each 0 l) ∧ LeM W0 X b2 b4 b5 b6 b7 b8 be ao q cap stop v7 v6 v5 res []

/-- the loop that moves on to an actor that has an instruction -/
def LwRel (W0 W : World) (l : List ActD) (b2 b4 b5 b6 b7 b8 be : Nat) (ao : Option Addr) (q cap : Nat) (stop v7 : Int) (pre : List Mod.E) (M : List HP) (wr : World) : Prop :=
  ∃ k j : Nat, each 0 l = pre ++ rst l k j ∧ k ≤ q ∧ j ≤ 9223372036854775807 ∧ LeM W0 wr b2 b4 b5 b6 b7 b8 be ao q cap stop v7 j k false M ∧ KeepsOthers W wr ∧ KpB W0.heap.size be W wr

/-- the loop that counts -/
def SuRel (W0 W : World) (l : List ActD) (b2 b4 b5 b6 b7 b8 be : Nat) (ao : Option Addr) (q cap : Nat) (stop v7 : Int) (j k : Int) (s i : Value) (wr : World) : Prop :=
  ∃ (n : Nat) (v : Int), i = .int .i64 n ∧ s = .int .i64 v ∧ n ≤ q ∧ v = wrap64 ((each 0 (l.take n)).length : Int) ∧ LeM W0 wr b2 b4 b5 b6 b7 b8 be ao q cap stop v7 j k false [] ∧ KeepsOthers W wr

set_option maxHeartbeats 16000000 in
set_option maxRecDepth 100000 in
theorem moduleEach_in (l : List ActD) (ao : Option Addr) (q cap : Nat) (hq : l.length = q) (hm : q ≤ maxLen) (lv : Int) (h1 : -9223372036854775808 ≤ lv) (h2 : lv ≤ 9223372036854775807) (W0 : World) (hrd : Kn.At_ kActor W0 ao l) :
    CallsIn Fence.wide 4 Try.prog 3 #[.agg #[.slice ao q cap], .int .i64 lv] W0 fun e w' => e = .returned (.bool true) ∧ Below W0.heap.size W0 w' := by
  have hA0 := ((At.start W0).alloc (.cells #[.slice ao q cap] 24)).alloc (.cells #[.bool false] 4)
  rw [World.size_alloc] at hA0
  have HQ := Lib.hid hq; clear hq
  have HM := Lib.hid hm; unfold maxLen at hm
  have a0 := hA0.cell 0
  obtain ⟨stop, hs0, hs1, hst⟩ : ∃ stop : Int, 0 ≤ stop ∧ stop < 500 ∧ wrap64 ((IntKind.u64.wrap lv).tmod 500) = stop := by
    have g0 : 0 ≤ IntKind.u64.wrap lv := Int.emod_nonneg _ (by decide)
    have g1 : (IntKind.u64.wrap lv).tmod 500 = IntKind.u64.wrap lv % 500 := Int.tmod_eq_emod_of_nonneg g0
    rw [g1]
    refine ⟨IntKind.u64.wrap lv % 500, by omega, by omega, ?_⟩
    unfold wrap64
    omega
  refine callsIn_of_wp_marks Try.func3 rfl trivial ?_ rfl
  simp only [Try.ntmps3, List.size_toArray, List.length_cons, List.length_nil, Nat.reduceAdd, Nat.reduceSub, Array.replicate_succ, Array.replicate_zero, List.push_toArray, List.append_toArray, List.nil_append, List.cons_append]
  refine wpIn_wide.2 ?_
  go_wp2_with (first
    | (go_at_call 4; refine (lives_any hA0).mono ?_; rintro e w1 ⟨rfl, hA1⟩; have a1 := hA1.pick2.cell 0; have hA2 := (((hA1.alloc (.cells #[.int .i64 0] 3)).alloc (.cells #[.int .i64 0] 3)).alloc (.cells #[.int .i64 0] 3)).alloc (.cells #[.int .i64 stop] 3); simp only [World.size_alloc] at hA2; have a2 := hA2.pick6.cell 0)
    | (go_at_call 5; refine (meach_any _ _ _ _).mono ?_; rintro e w2 ⟨rfl, rfl⟩))
  have hL0 : LeM W0 (((((w1.alloc (.cells #[.int .i64 0] 3)).alloc (.cells #[.int .i64 0] 3)).alloc (.cells #[.int .i64 0] 3)).alloc (.cells #[.int .i64 stop] 3)).alloc (.cells #[.slice ao q cap] 24)) W0.heap.size (W0.heap.size + 1) w1.heap.size (w1.heap.size + 1) (w1.heap.size + 1 + 1) (w1.heap.size + 1 + 1 + 1) (w1.heap.size + 1 + 1 + 1 + 1) ao q cap stop 0 0 0 false [] := by
    have := hA2.alloc (.cells #[.slice ao q cap] 24)
    simp only [World.size_alloc] at this
    exact this
  have hsz : (((((w1.alloc (.cells #[.int .i64 0] 3)).alloc (.cells #[.int .i64 0] 3)).alloc (.cells #[.int .i64 0] 3)).alloc (.cells #[.int .i64 stop] 3)).alloc (.cells #[.slice ao q cap] 24)).heap.size = w1.heap.size + 5 := by simp
  have hs1 := hA1.below.size
  have bB : (((((w1.alloc (.cells #[.int .i64 0] 3)).alloc (.cells #[.int .i64 0] 3)).alloc (.cells #[.int .i64 0] 3)).alloc (.cells #[.int .i64 stop] 3)).alloc (.cells #[.slice ao q cap] 24)).heap[w1.heap.size + 1 + 1 + 1 + 1]? = some (.cells #[.slice ao q cap] 24 (0, 0)) := At.blk hL0
  obtain ⟨W2, hW2⟩ : ∃ W2, (((((w1.alloc (.cells #[.int .i64 0] 3)).alloc (.cells #[.int .i64 0] 3)).alloc (.cells #[.int .i64 0] 3)).alloc (.cells #[.int .i64 stop] 3)).alloc (.cells #[.slice ao q cap] 24)) = W2 := ⟨_, rfl⟩
  rw [hW2] at hL0 hsz bB ⊢
  clear hW2 hA2 a0 a1 a2 hA0
  obtain ⟨b2, h2b⟩ : ∃ b, b = W0.heap.size := ⟨_, rfl⟩
  obtain ⟨b4, h4b⟩ : ∃ b, b = W0.heap.size + 1 := ⟨_, rfl⟩
  obtain ⟨b5, h5b⟩ : ∃ b, b = w1.heap.size := ⟨_, rfl⟩
  obtain ⟨b6, h6b⟩ : ∃ b, b = w1.heap.size + 1 := ⟨_, rfl⟩
  obtain ⟨b7, h7b⟩ : ∃ b, b = w1.heap.size + 1 + 1 := ⟨_, rfl⟩
  obtain ⟨b8, h8b⟩ : ∃ b, b = w1.heap.size + 1 + 1 + 1 := ⟨_, rfl⟩
  obtain ⟨be, heb⟩ : ∃ b, b = w1.heap.size + 1 + 1 + 1 + 1 := ⟨_, rfl⟩
  rw [← heb, ← h8b, ← h7b, ← h6b, ← h5b, ← h4b] at hL0 ⊢
  rw [← heb] at bB
  have hbs : W0.heap.size ≤ b4 ∧ W0.heap.size ≤ b5 ∧ W0.heap.size ≤ b6 ∧ W0.heap.size ≤ b7 ∧ b4 < be ∧ b5 < be ∧ b6 < be ∧ b7 < be ∧ be < W2.heap.size := by have := hA1.below.size; omega
  rw [← h2b] at hL0
  rw [show Value.pointer (some ⟨W0.heap.size, 0, none⟩) = Value.pointer (some ⟨b2, 0, none⟩) from by rw [h2b]]
  clear h4b h5b h6b h7b h8b heb hsz hs1 hA1 h2b
  have hB0 := hL0.bel
  have hI0 : LeI W0 l b2 b4 b5 b6 b7 b8 be ao q cap stop [] W2 := ⟨0, 0, by rw [each_rst]; rfl, Nat.zero_le _, by omega, (by rw [show wrap64 (([] : List Mod.E).length : Int) = 0 from by simp [wrap64]]; exact hL0)⟩
  refine (wpIn_wide (n := 4)).1 ?_
  refine wpIn_rangeFunc_ownH rfl (by omega) (gf := 9) (lb := #[.pointer (some ⟨be, 0, none⟩)]) rfl trivial (enters_of Try.func9 (by kernel_rfl) rfl)
    (meach_stops (4 - 1) (by omega) be W0 l ao q cap HQ.out HM.out hrd W2 hB0 bB) KpB.t (KpB.b (by omega) (by omega)) (Below.refl _ _) (fun _ => rfl)
    (LeI W0 l b2 b4 b5 b6 b7 b8 be ao q cap stop)
    (LeIx W0 l b2 b4 b5 b6 b7 b8 be ao q cap stop)
    (fun s X Y row h hg hr => by
      obtain ⟨k, j, g1, g2, g3, g4⟩ := h
      exact ⟨k, j, g1, g2, g3, g4.turn (fun Q hQ => by cases hQ) hB0.size hg hr⟩)
    (fun c s X Y row h hg hr => by
      obtain ⟨g0, v7, v6, v5, res, g1, g2⟩ := h
      exact ⟨g0, v7, v6, v5, res, g1, g2.turn (fun Q hQ => by cases hQ) hB0.size hg hr⟩)
    hI0
    (fun x a' X => ∃ (B9 B10 k j : Nat) (v7 : Int), LeM W0 X b2 b4 b5 b6 b7 b8 be ao q cap stop v7 j k false [HP.one B10 (.cells #[.int .i64 x.2.1, .int .i64 x.2.2] 32 (0, 0)), HP.one B9 (.cells #[.int .i64 (x.1.1 : Int), .int .i64 (x.1.2 : Int)] 30 (0, 0))] ∧
      a' = { tmps := #[Value.agg #[Value.slice ao q cap], Value.int .i64 lv, Value.pointer (some ⟨b2, 0, none⟩), undef, Value.pointer (some ⟨b4, 0, none⟩), Value.pointer (some ⟨b5, 0, none⟩), Value.pointer (some ⟨b6, 0, none⟩), Value.pointer (some ⟨b7, 0, none⟩), Value.pointer (some ⟨b8, 0, none⟩), Value.pointer (some ⟨B9, 0, none⟩), Value.pointer (some ⟨B10, 0, none⟩), undef, undef, Value.bool true, Value.bool false, Value.int .i64 lv, Value.int .u64 (IntKind.u64.wrap lv), Value.int .u64 ((IntKind.u64.wrap lv).tmod 500), Value.int .i64 stop, Value.agg #[Value.slice ao q cap], Value.func (Fn.func 9) #[] #[Value.pointer (some ⟨be, 0, none⟩)], Value.agg #[Value.int .i64 (x.1.1 : Int), Value.int .i64 (x.1.2 : Int)], Value.agg #[Value.int .i64 x.2.1, Value.int .i64 x.2.2], undef, undef, undef, undef, undef, undef, undef, undef, undef, undef, undef, undef, undef, undef, undef, undef, undef, undef, undef, undef, undef, undef, undef, undef, undef, undef, undef, undef, undef, undef, undef, undef, undef, undef, undef, undef, undef, undef, undef, undef, undef, undef, undef, undef, undef, undef, undef, undef, undef, undef, undef, undef, undef, undef, undef, undef, undef, undef, undef, undef, undef, undef, undef, undef, undef, undef, undef, undef, undef, undef, undef, undef, undef, undef], defers := [] })
    (fun x a' _ X Y row hs hg hr => by
      obtain ⟨B9, B10, k, j, v7, g1, g2⟩ := hs
      exact ⟨B9, B10, k, j, v7, g1.turn (fun Q hQ => by
        simp only [List.mem_cons, List.not_mem_nil, or_false] at hQ
        rcases hQ with rfl | rfl
        all_goals exact HP.Cells.one _ _ _ _) hB0.size hg hr, g2⟩)
    ?assign ?body ?done ?stop
  case assign =>
    rintro lp pre x W K ⟨k, j, g1, g2, g3, g4⟩ hK
    have hsW := g4.bel.size
    gi_wp2
    exact hK _ _ (((KeepsOthers.alloc _ _).trans (KeepsOthers.alloc _ _)).from _) ((KpB.al _ _ hsW).t (KpB.al _ _ (by simp; omega))) ⟨k, j, g1, g2, g3, (g4.al _).one.al _ |>.one⟩ ⟨_, _, k, j, _, (g4.al _).al _, by simp only [World.size_alloc]⟩
  case body =>
    rintro lp pre x a' W hlp _ ⟨k, j, hpr, hk, hj, hL⟩ ⟨B9, B10, k', j', v7, hN, rfl⟩ hlt
    obtain ⟨rfl, rfl⟩ : k' = k ∧ j' = j := by
      have e5 := hN.c5.symm.trans hL.c5
      have e6 := hN.c6.symm.trans hL.c6
      injection e5 with e5; injection e5 with _ e5
      injection e6 with e6; injection e6 with _ e6
      omega
    have e7 := hN.c7.symm.trans hL.c7
    obtain rfl : v7 = wrap64 (pre.length : Int) := by
      injection e7 with e7; injection e7
    clear e7 hL
    obtain ⟨⟨p0, p1⟩, x0, x1⟩ := x
    simp only at hN
    obtain ⟨v7, hv7⟩ : ∃ v7, v7 = wrap64 (pre.length : Int) := ⟨_, rfl⟩
    rw [← hv7] at hN
    have HV7 := Lib.hid hv7; clear hv7
    obtain ⟨e4, e5, e6, e7, e4e, e5e, e6e, e7e, _⟩ := hbs
    gi_wp2
    gi_loopw [] (fun wr => LwRel W0 W l b2 b4 b5 b6 b7 b8 be ao q cap stop v7 pre [HP.one B10 (.cells #[.int .i64 x0, .int .i64 x1] 32 (0, 0)), HP.one B9 (.cells #[.int .i64 (p0 : Int), .int .i64 (p1 : Int)] 30 (0, 0))] wr) (fun wr => q - (intOf ((wr.cell? ⟨b5, 0, none⟩).getD undef)).toNat)
    case atStart => exact ⟨k', j', hpr, hk, hj, hN, KeepsOthers.refl _, ⟨Below.refl _ _, fun _ h => h⟩⟩
    case round =>
      clear hN hpr hk hj
      obtain ⟨k, j, hpr, hk, hj, hN, hko, hkb⟩ := hrel
      have HPR := Lib.hid hpr; clear hpr
      have c2 := hN.c2
      have c5 := hN.c5
      have c6 := hN.c6
      by_cases hkq : k < q
      · have hkl : k < l.length := by rw [HQ.out]; exact hkq
        obtain ⟨b, off, rfl⟩ : ∃ b off, ao = some ⟨b, off, none⟩ := by
          rcases hrd with rfl | ⟨b, off, e, _⟩
          · simp at hkl
          · exact ⟨b, off, e⟩
        obtain ⟨aP, cP, aR, cR, aM, cM, aC, cC, aT, cT, ⟨_, _, _, d3, _⟩, ga⟩ := actor_at2 hrd k hkl
        obtain ⟨rP, rR, rM, rC, rT, lP, lR, lM, lC, lT⟩ := ga
        have hnx := fun j (h2 : l[k].2.2.2.1.length ≤ j) => rst_next hkl h2
        have hcn := fun j (h2 : j < l[k].2.2.2.1.length) => rst_cons hkl h2
        generalize l[k] = t at *
        obtain ⟨p, r, m, c, ts, _⟩ := t
        simp only at d3 rC lC hnx hcn
        have D3 := Lib.hid d3
        have d3 := hN.old d3
        have hcn2 : ∀ (j : Nat) (h2 : j < (c.map toP).length), rst l k j = ((k, j), (c.map toP)[j]) :: rst l k (j + 1) := fun j h2 => by
          rw [List.getElem_map]; exact hcn j (by simpa using h2)
        have hxl : (c.map toP).length = c.length := by simp
        clear hcn rP rR rM rT lP lR lM lT
        rw [hxl] at lC
        unfold maxLen at lC
        generalize c.map toP = X at *
        generalize c.length = u at *
        have HXL := Lib.hid hxl; clear hxl
        have HNX := Lib.hid hnx; clear hnx
        have HCN := Lib.hid hcn2; clear hcn2
        have T27 : decide ((k : Int) < (q : Int)) = true := decide_eq_true (by omega)
        by_cases hju : u ≤ j
        · have T37 : decide ((u : Int) ≤ (j : Int)) = true := decide_eq_true (by omega)
          gi_wp2
          (refine wpIn_quiet_round (F := Fence.wide) rfl (by kernel_rfl) (by kernel_rfl) (by kernel_rfl) ?_; (repeat (gi_big_quiet_step (fail))); refine wpQuietIn_nil ?_; intro _ hw'; obtain ⟨nq, hw''⟩ := hw'; subst hw'')
          have hN1 := hN.drewN nq
          have m5 := hN1.c5
          have m5f := hN1.f5
          have hN2 := hN1.s5 ((k : Int) + 1)
          have m6 := hN2.c6
          have m6f := hN2.f6
          have hN3 := hN2.s6 0
          have hko3 := ((hko.trans (KeepsOthers.drewN _ nq)).trans (KeepsOthers.setCell _ ⟨b5, 0, none⟩ (.int .i64 ((k : Int) + 1)))).trans (KeepsOthers.setCell _ ⟨b6, 0, none⟩ (.int .i64 0))
          have hkb3 := ((hkb.t (KpB.drewN _ nq)).t (KpB.set e5 (by omega) _ 0 (.int .i64 ((k : Int) + 1)))).t (KpB.set e6 (by omega) _ 0 (.int .i64 0))
          gi_wp2
          go_roundw
          case rel => exact ⟨k + 1, 0, by rw [HPR.out, HNX.out j hju], by omega, by omega, hN3, hko3, hkb3⟩
          case measure =>
            rw [hN3.c5, c5]; simp [intOf]; omega
        · have T37 : decide ((u : Int) ≤ (j : Int)) = false := decide_eq_false (by omega)
          have hjX : j < X.length := by rw [HXL.out]; omega
          obtain ⟨b3, off3, rfl, hc⟩ := rC.some_ (by rw [pvs_len]; omega)
          obtain ⟨v1, v2⟩ := pvs_get .i64 .i64 X j hjX
          have Z1 := Lib.hid (hc _ _ v1)
          have Z2 := Lib.hid (hc _ _ v2)
          have hx := HCN.out j hjX
          clear v1 v2 hc
          generalize X[j] = y at *
          clear hjX
          obtain ⟨y0, y1⟩ := y
          have HX := Lib.hid hx; clear hx HCN HNX
          have T45 : decide ((q : Int) ≤ (k : Int)) = false := decide_eq_false (by omega)
          have T45n : decide (q ≤ k) = false := decide_eq_false (by omega)
          gi_wp2
          (refine wpIn_quiet_round (F := Fence.wide) rfl (by kernel_rfl) (by kernel_rfl) (by kernel_rfl) ?_; (repeat (gi_big_quiet_step (fail))); refine wpQuietIn_nil ?_; intro _ hw'; obtain ⟨nq, hw''⟩ := hw'; subst hw'')
          have hN1 := hN.drewN nq
          have hko1 := hko.trans (KeepsOthers.drewN _ nq)
          have hkb1 := hkb.t (KpB.drewN _ nq)
          clear hN hko hkb c2 c5 c6 d3
          generalize wr.drewN nq = wq at *
          have c2 := hN1.c2
          have c5 := hN1.c5
          have c6 := hN1.c6
          have d3 := hN1.old D3.out
          have z1 := hN1.old Z1.out
          have z2 := hN1.old Z2.out
          rw [← Nat.add_assoc] at z2
          have o0 := hN1.h0 0
          have o1 := hN1.h0 1
          have i0 := hN1.h1 0
          have i1 := hN1.h1 1
          by_cases g1 : p0 = k
          case neg =>
            have T50 : ((p0 : Int) != (k : Int)) = true := by simp; omega
            have T50n : (p0 != k) = true := by simp [g1]
            have HG := Lib.hid (no_prefix_ne (x := ((p0, p1), (x0, x1))) (HPR.out.trans (by rw [HX.out])) (fun e => g1 (by injection e with e _; injection e))); clear g1
            gi_wp2
            (refine wpIn_quiet_round (F := Fence.wide) rfl (by kernel_rfl) (by kernel_rfl) (by kernel_rfl) ?_; (repeat (gi_big_quiet_step (fail))); refine wpQuietIn_nil ?_; intro _ hw'; obtain ⟨nq, hw''⟩ := hw'; subst hw'')
            have hN2 := hN1.drewN nq
            have m4 := hN2.c4
            have m4f := hN2.f4
            gi_wp2
            exact ⟨((hko1.trans (KeepsOthers.drewN _ _)).trans (KeepsOthers.setCell _ _ _)).from _, rfl, _, _, _, _, .inr HG.out, ((hN2.s4 false).one).one⟩
          by_cases g2 : p1 = j
          case neg =>
            have T50 : ((p0 : Int) != (k : Int)) = false := by simp [g1]
            have T50n : (p0 != k) = false := by simp [g1]
            have T56 : ((p1 : Int) != (j : Int)) = true := by simp; omega
            have T56n : (p1 != j) = true := by simp [g2]
            have HG := Lib.hid (no_prefix_ne (x := ((p0, p1), (x0, x1))) (HPR.out.trans (by rw [HX.out])) (fun e => g2 (by injection e with e _; injection e))); clear g1 g2
            gi_wp2
            (refine wpIn_quiet_round (F := Fence.wide) rfl (by kernel_rfl) (by kernel_rfl) (by kernel_rfl) ?_; (repeat (gi_big_quiet_step (fail))); refine wpQuietIn_nil ?_; intro _ hw'; obtain ⟨nq, hw''⟩ := hw'; subst hw'')
            have hN2 := hN1.drewN nq
            have m4 := hN2.c4
            have m4f := hN2.f4
            gi_wp2
            exact ⟨((hko1.trans (KeepsOthers.drewN _ _)).trans (KeepsOthers.setCell _ _ _)).from _, rfl, _, _, _, _, .inr HG.out, ((hN2.s4 false).one).one⟩
          by_cases g3 : x0 = y0
          case neg =>
            have T50 : ((p0 : Int) != (k : Int)) = false := by simp [g1]
            have T50n : (p0 != k) = false := by simp [g1]
            have T56 : ((p1 : Int) != (j : Int)) = false := by simp [g2]
            have T56n : (p1 != j) = false := by simp [g2]
            have T69 : (x0 == y0) = false := by simp [g3]
            have HG := Lib.hid (no_prefix_ne (x := ((p0, p1), (x0, x1))) (HPR.out.trans (by rw [HX.out])) (fun e => g3 (by injection e with _ e; injection e))); clear g1 g2 g3
            gi_wp2
            (refine wpIn_quiet_round (F := Fence.wide) rfl (by kernel_rfl) (by kernel_rfl) (by kernel_rfl) ?_; (repeat (gi_big_quiet_step (fail))); refine wpQuietIn_nil ?_; intro _ hw'; obtain ⟨nq, hw''⟩ := hw'; subst hw'')
            have hN2 := hN1.drewN nq
            have m4 := hN2.c4
            have m4f := hN2.f4
            gi_wp2
            exact ⟨((hko1.trans (KeepsOthers.drewN _ _)).trans (KeepsOthers.setCell _ _ _)).from _, rfl, _, _, _, _, .inr HG.out, ((hN2.s4 false).one).one⟩
          by_cases g4 : x1 = y1
          case neg =>
            have T50 : ((p0 : Int) != (k : Int)) = false := by simp [g1]
            have T50n : (p0 != k) = false := by simp [g1]
            have T56 : ((p1 : Int) != (j : Int)) = false := by simp [g2]
            have T56n : (p1 != j) = false := by simp [g2]
            have T69 : (x1 == y1) = false := by simp [g4]
            have HG := Lib.hid (no_prefix_ne (x := ((p0, p1), (x0, x1))) (HPR.out.trans (by rw [HX.out])) (fun e => g4 (by injection e with _ e; injection e))); clear g1 g2 g4
            subst g3
            gi_wp2
            (refine wpIn_quiet_round (F := Fence.wide) rfl (by kernel_rfl) (by kernel_rfl) (by kernel_rfl) ?_; (repeat (gi_big_quiet_step (fail))); refine wpQuietIn_nil ?_; intro _ hw'; obtain ⟨nq, hw''⟩ := hw'; subst hw'')
            have hN2 := hN1.drewN nq
            have m4 := hN2.c4
            have m4f := hN2.f4
            gi_wp2
            exact ⟨((hko1.trans (KeepsOthers.drewN _ _)).trans (KeepsOthers.setCell _ _ _)).from _, rfl, _, _, _, _, .inr HG.out, ((hN2.s4 false).one).one⟩
          subst g1 g2 g3 g4
          have T50 : ((p0 : Int) != (p0 : Int)) = false := by simp
          have T56 : ((p1 : Int) != (p1 : Int)) = false := by simp
          have T50n : (p0 != p0) = false := by simp
          have T56n : (p1 != p1) = false := by simp
          gi_wp2
          (refine wpIn_quiet_round (F := Fence.wide) rfl (by kernel_rfl) (by kernel_rfl) (by kernel_rfl) ?_; (repeat (gi_big_quiet_step (fail))); refine wpQuietIn_nil ?_; intro _ hw'; obtain ⟨nq, hw''⟩ := hw'; subst hw'')
          have hN2 := hN1.drewN nq
          have m6 := hN2.c6
          have m6f := hN2.f6
          have hN3 := hN2.s6 ((p1 : Int) + 1)
          have m7 := hN3.c7
          have m7f := hN3.f7
          have hN4 := hN3.s7 (wrap64 (v7 + 1))
          have n7 := hN4.c7
          have n8 := hN4.c8
          have n4 := hN4.c4
          have n4f := hN4.f4
          have hko4 := ((hko1.trans (KeepsOthers.drewN _ nq)).trans (KeepsOthers.setCell _ ⟨b6, 0, none⟩ (.int .i64 ((p1 : Int) + 1)))).trans (KeepsOthers.setCell _ ⟨b7, 0, none⟩ (.int .i64 (wrap64 (v7 + 1))))
          have hkb4 := ((hkb1.t (KpB.drewN _ nq)).t (KpB.set e6 (by omega) _ 0 (.int .i64 ((p1 : Int) + 1)))).t (KpB.set e7 (by omega) _ 0 (.int .i64 (wrap64 (v7 + 1))))
          have hv : wrap64 (v7 + 1) = wrap64 ((pre ++ [((p0, p1), (x0, x1))]).length : Int) := by rw [HV7.out, wrap_add, List.length_append]; rfl
          have HV := Lib.hid hv; clear hv
          by_cases g5 : wrap64 (v7 + 1) = stop
          · have T77 : (wrap64 (v7 + 1) == stop) = true := by simp [g5]
            clear g5
            gi_wp2
            exact ⟨(hko4.trans (KeepsOthers.setCell _ _ _)).from _, rfl, _, _, _, _, .inl rfl, ((hN4.s4 true).one).one⟩
          · have T77 : (wrap64 (v7 + 1) == stop) = false := by simp [g5]
            clear g5
            gi_wp2
            exact ⟨hko4.from _, hkb4, p0, p1 + 1, by rw [HPR.out, HX.out]; simp, hk, by omega, (by rw [← HV.out]; exact (hN4.one).one)⟩
      · have hkq2 : k = q := by omega
        have T27 : decide ((k : Int) < (q : Int)) = false := decide_eq_false (by omega)
        have T45 : decide ((q : Int) ≤ (k : Int)) = true := decide_eq_true (by omega)
        have T45n : decide (q ≤ k) = true := decide_eq_true (by omega)
        have T27n : decide (k < q) = false := decide_eq_false (by omega)
        have HG := Lib.hid (fun x => no_prefix_end (x := x) (HPR.out.trans (by rw [rst_end (by rw [HQ.out]; omega)])))
        clear hkq2
        gi_wp2
        (refine wpIn_quiet_round (F := Fence.wide) rfl (by kernel_rfl) (by kernel_rfl) (by kernel_rfl) ?_; (repeat (gi_big_quiet_step (fail))); refine wpQuietIn_nil ?_; intro _ hw'; obtain ⟨nq, hw''⟩ := hw'; subst hw'')
        have hN1 := hN.drewN nq
        have hko1 := hko.trans (KeepsOthers.drewN _ nq)
        clear hN hko hkb c2 c5 c6
        generalize wr.drewN nq = wq at *
        have c2 := hN1.c2
        have c5 := hN1.c5
        have c6 := hN1.c6
        gi_wp2
        (refine wpIn_quiet_round (F := Fence.wide) rfl (by kernel_rfl) (by kernel_rfl) (by kernel_rfl) ?_; (repeat (gi_big_quiet_step (fail))); refine wpQuietIn_nil ?_; intro _ hw'; obtain ⟨nq, hw''⟩ := hw'; subst hw'')
        have hN2 := hN1.drewN nq
        have m4 := hN2.c4
        have m4f := hN2.f4
        gi_wp2
        exact ⟨((hko1.trans (KeepsOthers.drewN _ _)).trans (KeepsOthers.setCell _ _ _)).from _, rfl, _, _, _, _, .inr (HG.out _), ((hN2.s4 false).one).one⟩
  case done =>
    rintro D ys W hD rfl ⟨k, j, _, _, _, hL⟩ hK
    have hWD : W0.heap.size ≤ D := Nat.le_trans hB0.size hD
    obtain ⟨v7, hv7⟩ : ∃ v7, v7 = wrap64 ((each 0 l).length : Int) := ⟨_, rfl⟩
    rw [← hv7] at hL
    have HV7 := Lib.hid hv7; clear hv7
    have KK := Lib.hid hK; clear hK
    go_wp2
    go_loopw [11, 12] (fun s i wr => SuRel W0 W l b2 b4 b5 b6 b7 b8 be ao q cap stop v7 j k s i wr) (fun s i _ => q - (intOf i).toNat)
    case atStart => exact ⟨0, 0, rfl, rfl, Nat.zero_le _, by simp [each, wrap64], hL, KeepsOthers.refl _⟩
    case round =>
      clear hL
      obtain ⟨i, v, rfl, rfl, hi, hv, hL, hko⟩ := hrel
      have HV := Lib.hid hv; clear hv
      have c2 := hL.c2
      by_cases hiq : i < q
      · have hil : i < l.length := by rw [HQ.out]; exact hiq
        obtain ⟨b, off, rfl⟩ : ∃ b off, ao = some ⟨b, off, none⟩ := by
          rcases hrd with rfl | ⟨b, off, e, _⟩
          · simp at hil
          · exact ⟨b, off, e⟩
        obtain ⟨aP, cP, aR, cR, aM, cM, aC, cC, aT, cT, ⟨_, _, _, d3, _⟩, _⟩ := actor_at2 hrd i hil
        have d3 := hL.old d3
        have hsu := each_succ hil
        generalize l[i].2.2.2.1.length = u at *
        have HSU := Lib.hid hsu; clear hsu
        go_wp2
        go_roundw
        case rel => exact ⟨i + 1, wrap64 (v + u), by go_num, rfl, by omega, by rw [HV.out, wrap_add, HSU.out]; push_cast; rfl, hL, hko⟩
        case measure => simp [intOf]; omega
      · have hiq2 : q = i := by omega
        have hvv : v = v7 := by rw [HV.out, HV7.out, List.take_of_length_le (by rw [HQ.out]; omega)]
        have T : (v7 == v7) = true := by simp
        subst hvv
        subst hiq2
        have c7 := hL.c7
        have c4 := hL.c4
        have f4 := hL.f4
        have hL2 := hL.s4 true
        have hK' := (hko.trans (KeepsOthers.setCell _ ⟨b4, 0, none⟩ (.bool true))).same D _ KK.out rfl
        go_wp2
        refine ⟨by simp, .inl ⟨_, _, rfl, run_takeDeferred hK', ?_⟩⟩
        have hc4 := cell_kept hL2.c4 (grownBy_putObj' _ D (.deferred none)) (fun r e => by cases e; exact ⟨_, hK', rfl⟩)
        refine ⟨.bool true, ?_, rfl, hL2.bel.grown (grownBy_putObj' _ D (.deferred none)) hL2.bel.size (fun r e => by cases e; exact hWD)⟩
        simp [results, Try.f3, go_sem, hc4]
  case stop =>
    rintro D c pre W hD hpre ⟨rfl, v7, v6, v5, res, hr, hL⟩ hK
    have hWD : W0.heap.size ≤ D := Nat.le_trans hB0.size hD
    obtain rfl : res = true := by
      rcases hr with h | h
      · exact h
      · exact absurd hpre h
    have c4 := hL.c4
    refine wpIn_wide.2 ?_
    go_wp2
    refine ⟨by simp, .inl ⟨_, _, rfl, run_takeDeferred hK, ?_⟩⟩
    have hc4 := cell_kept hL.c4 (grownBy_putObj' _ D (.deferred none)) (fun r e => by cases e; exact ⟨_, hK, rfl⟩)
    refine ⟨.bool true, ?_, rfl, hL.bel.grown (grownBy_putObj' _ D (.deferred none)) hL.bel.size (fun r e => by cases e; exact hWD)⟩
    simp [results, Try.f3, go_sem, hc4]

namespace moduleEach
theorem moduleEach_walk (W : World) (l : List ActD × Unit) (cs : Array Value) (hR : kModule.R W l cs.toList) (lv : Int) (hw : (Lit.int .i64 lv).wf = true) :
    Calls Try.prog 3 #[.agg cs, .int .i64 lv] W fun e w' => e = .returned (.bool true) ∧ Below W.heap.size W w' := by
  obtain ⟨c1, c2, hc, ⟨ao, cap, rfl, h1, h2, h3, h4⟩, rfl⟩ := hR
  obtain rfl : cs = #[.slice ao l.1.length cap] := Array.toList_inj.1 hc
  obtain ⟨w1, w2⟩ := wf_i64m hw
  exact callsIn_wide.1 (moduleEach_in l.1 ao l.1.length cap rfl (by omega) lv w1 w2 W h4)
end moduleEach
end Go.Proofs.Ytebolbjbfnolpaf
