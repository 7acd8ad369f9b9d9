/-
  The mailbox's iterator: its contract.
-/
import Derived.Test.YtpilkneicakohaaMailC
import Derived.RangeFuncNested
import Derived.RangeFuncBound
import Derived.RangeFuncCalls
import Derived.RangeFuncLeaves
import Derived.RangeFuncBox
import Derived.Shelf.Abstract
import Derived.Shelf.RegionOpen
import Derived.OwnWalkIn
import Derived.TacticsInMore
import Derived.LoopNIn
import Derived.LoopIn
namespace Go.Proofs.Ytpilkneicakohaa
open Go.RowKit HP
open Mail (M)
attribute [local go_sem] Oper.semAt_some

/-- what a round that goes on keeps: what lay when the call began, and one block more -/
def KpB (n₀ Bb : Nat) (W W' : World) : Prop := Below n₀ W W' ∧ ∀ o, W.heap[Bb]? = some o → W'.heap[Bb]? = some o
theorem KpB.t {n₀ Bb : Nat} {A B C : World} (h : KpB n₀ Bb A B) (k : KpB n₀ Bb B C) : KpB n₀ Bb A C := ⟨h.1.trans k.1, fun o e => k.2 o (h.2 o e)⟩
theorem KpB.b {n₀ Bb : Nat} {w : World} (hn : n₀ ≤ w.heap.size) (hB : Bb < w.heap.size) (W : World) (l : Nat) (o o' : Obj) (hl : w.heap.size ≤ l) (h : W.heap[l]? = some o) (h1 : o.isCells = false) (h2 : o.isWalk = false) : KpB n₀ Bb W (W.putObj l o') :=
  ⟨belowK_b hn W l o o' hl h h1 h2, fun x e => (World.putObj_heap_other (by omega)).trans e⟩

/-- What has come when k rounds are over. -/
def msgs (l : List M) (k : Nat) : List (Nat × M) := (List.range k).map fun j => (j, l[j]?.getD (0, 0))
theorem msgs_succ (l : List M) (k : Nat) : msgs l (k + 1) = msgs l k ++ [(k, l[k]?.getD (0, 0))] := by simp [msgs, List.range_succ]
theorem msgs_length (l : List M) (k : Nat) : (msgs l k).length = k := by simp [msgs]
abbrev mencs (x : Nat × M) : Array Value := #[.int .i64 (x.1 : Int), .agg #[.int .i64 x.2.1, .int .i64 x.2.2]]

/-- the box's value: nil, or it lies there -/
def BoxAt (w : World) (l : List M) (pv : Value) : Prop :=
  (pv = .pointer none ∧ l = []) ∨ ∃ a ao cap, pv = .pointer (some ⟨a, 0, none⟩) ∧ l.length ≤ 16 ∧ w.cell? ⟨a, 0, none⟩ = some (.slice ao l.length cap) ∧ Rd w ao (mvs l)
theorem BoxAt.of {w0 w : World} {L : List HP} {a : Nat} {l : List M} (hl : l.length ≤ 16) (hA : At w0 w (BoxC a l :: L)) : BoxAt w l (.pointer (some ⟨a, 0, none⟩)) := by
  obtain ⟨ao, cap, hO⟩ := BoxC.op hA
  exact .inr ⟨a, ao, cap, rfl, hl, hO.cell 0, hO.drop.rd⟩
theorem rd_below {w W : World} {ao : Option Addr} {xs : List Value} (h : Rd w ao xs) (hb : Below w.heap.size w W) : Rd W ao xs := h.old (L := []) ⟨hb, fun _ => none, fun _ => rfl, fun _ _ h => by cases h⟩
theorem BoxAt.below {w W : World} {l : List M} {pv : Value} (h : BoxAt w l pv) (hb : Below w.heap.size w W) : BoxAt W l pv := by
  rcases h with h | ⟨a, ao, cap, h1, h2, h3, h4⟩
  · exact .inl h
  · exact .inr ⟨a, ao, cap, h1, h2, (hb.cell (World.block_lt_of_cell? w _ h3)).trans h3, rd_below h4 hb⟩
theorem BoxAt.len {w : World} {l : List M} {pv : Value} (h : BoxAt w l pv) :
    Calls Try.prog 18 #[pv] w fun e w' => e = .returned (.int .i64 l.length) ∧ w = w' := by
  rcases h with ⟨rfl, rfl⟩ | ⟨a, ao, cap, rfl, h2, h3, h4⟩
  · exact mlen_nil w
  · go_enter Try.func18, Try.ntmps18
    go_wp2
    go_returns
    exact ⟨rfl, rfl⟩

theorem mall_any (pv : Value) (w : World) (hp : ∃ p, pv = .pointer p) :
    Calls Try.prog 22 #[pv] w fun e w' => e = .returned (.func (.func 25) #[] #[.pointer (some ⟨w.heap.size, 0, none⟩)]) ∧ w' = w.alloc (.cells #[pv] 24) := by
  obtain ⟨p, rfl⟩ := hp
  go_enter Try.func22, Try.ntmps22
  go_wp2
  go_returns
  exact ⟨rfl, rfl⟩

set_option maxRecDepth 100000 in
set_option maxHeartbeats 2000000 in
theorem mall1_in (n : Nat) (hn : 1 ≤ n) (lp Bb : Nat) (w : World) (l : List M) (pv : Value) (hbox : BoxAt w l pv) (J Jx : List (Nat × M) → World → Prop)
    (hY : ∀ pre x W, J pre W → pre.length < l.length → YieldAt Fence.wide (n - 1) Try.prog lp (mencs x) W fun e W' =>
      (e = .returned (.bool true) ∧ J (pre ++ [x]) W' ∧ KpB w.heap.size Bb W W') ∨ (e = .returned (.bool false) ∧ Jx (pre ++ [x]) W'))
    (W : World) (hb : Below w.heap.size w W) (hB : W.heap[Bb]? = some (.cells #[pv] 24 (0, 0))) (h0 : J [] W) :
    CallsIn Fence.wide n Try.prog 25 #[.func (.yield lp) #[] #[], .pointer (some ⟨Bb, 0, none⟩)] W fun e W' => (∃ v, e = .returned v) ∧
      ((∃ ys, ys = msgs l l.length ∧ J ys W') ∨ (∃ pre, (∃ k, k ≤ l.length ∧ pre = msgs l k) ∧ Jx pre W')) := by
  have hcB : W.cell? ⟨Bb, 0, none⟩ = some pv := by simp [World.cell?, hB]
  have hlen := (hbox.below hb).len
  have hl16 : l.length ≤ 16 := by
    rcases hbox with ⟨_, rfl⟩ | ⟨_, _, _, _, h, _⟩
    · simp
    · exact h
  refine callsIn_of_wp Try.func25 rfl trivial ?_ rfl
  simp only [Try.ntmps25, List.size_toArray, List.length_cons, List.length_nil, Nat.reduceAdd, Nat.reduceSub, Array.replicate_succ, Array.replicate_zero, List.push_toArray, List.append_toArray, List.nil_append, List.cons_append]
  gi_wp2_with (refine ⟨trivial, ?_⟩; gi_at_call 18; refine (callsIn_wide.2 hlen).mono ?_; rintro e w' ⟨rfl, rfl⟩)
  gi_loopw [6] (fun i wr => ∃ k : Nat, k ≤ l.length ∧ i = .int .i64 k ∧ J (msgs l k) wr ∧ KpB w.heap.size Bb W wr) (fun i _ => l.length - (intOf i).toNat)
  case atStart => exact ⟨0, Nat.zero_le _, rfl, h0, Below.refl _ _, fun _ h => h⟩
  case round =>
    obtain ⟨k, hk, rfl, hJs, hkp⟩ := hrel
    by_cases hlt : k < l.length
    · rcases hbox.below (hb.trans hkp.1) with ⟨_, rfl⟩ | ⟨a, ao, cap, rfl, _, hc0, hrd⟩
      · simp at hlt
      obtain ⟨b, off, rfl, hc⟩ := hrd.some_ (by rw [mvs_len]; omega)
      obtain ⟨v1, v2⟩ := mvs_get l k hlt
      have d0 := hc _ _ v1
      have d1 := hc _ _ v2
      rw [← Nat.add_assoc] at d1
      have hms := msgs_succ l k
      rw [List.getElem?_eq_getElem hlt, Option.getD_some] at hms
      generalize l[k] = m at *
      obtain ⟨m1, m2⟩ := m
      simp only at d0 d1
      have HMS := Lib.hid hms; clear hms v1 v2 hc
      obtain ⟨fn, tmps, assign, body, hy, hR⟩ := hY _ (k, (m1, m2)) wr hJs (by rw [msgs_length]; exact hlt)
      have cB : wr.cell? ⟨Bb, 0, none⟩ = some (.pointer (some ⟨a, 0, none⟩)) := by simp [World.cell?, hkp.2 _ hB]
      dsimp only [mencs] at hy
      gi_wp2
      refine hR.mono ?_
      rintro e W3 (⟨rfl, hJ3, hk3⟩ | ⟨rfl, hJx3⟩)
      · gi_wp2
        go_roundw
        case rel => exact ⟨k + 1, by omega, by go_num, by rw [HMS.out]; exact hJ3, hkp.t hk3⟩
        case measure => simp [intOf]; omega
      · gi_wp2
        refine bodyPost_ret (results_none rfl _ _ _) rfl ?_
        exact ⟨⟨_, rfl⟩, .inr ⟨_, ⟨k + 1, by omega, HMS.out.symm⟩, hJx3⟩⟩
    · obtain rfl : k = l.length := by omega
      gi_wp2
      go_end0
      exact ⟨⟨_, rfl⟩, .inl ⟨_, rfl, hJs⟩⟩

theorem mall_stops (n : Nat) (hn : 1 ≤ n) (Bb : Nat) (w : World) (l : List M) (pv : Value) (hbox : BoxAt w l pv) (w1 : World) (hb : Below w.heap.size w w1) (hB : w1.heap[Bb]? = some (.cells #[pv] 24 (0, 0))) :
    SeqStopsK Fence.wide n Try.prog 25 #[.pointer (some ⟨Bb, 0, none⟩)] mencs (KpB w.heap.size Bb) (fun ys => ys = msgs l l.length) (fun pre => ∃ k, k ≤ l.length ∧ pre = msgs l k) l.length w1 := fun lp J Jx W hW _ _ hY h0 =>
  mall1_in n hn lp Bb w l pv hbox J Jx hY W (hb.trans (hW.mono hb.size)) (by rw [hW.block Bb (Array.getElem?_eq_some_iff.1 hB).1]; exact hB) h0
end Go.Proofs.Ytpilkneicakohaa
