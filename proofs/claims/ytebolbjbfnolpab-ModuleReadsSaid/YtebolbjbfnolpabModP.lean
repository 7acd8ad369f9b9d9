/-
  The module's writer: numbers, lists of types.
-/
import Derived.Test.YtebolbjbfnolpabModO
import Derived.Test.YtebolbjbfnolpabInstrB
namespace Go.Proofs.Ytebolbjbfnolpab
open Go.RowKit HP

namespace Mod
def wtypes (W : Reel.W) (l : List Int) : Reel.W := l.foldl Reel.W.byte (W.num l.length)
def wins (W : Reel.W) (i : Int × Int) : Reel.W := W.instr i.1 i.2
def wcode (W : Reel.W) (c : List (Int × Int)) : Reel.W := c.foldl wins (W.num c.length)
def wclause (W : Reel.W) (c : Int × Int) : Reel.W := (W.num c.1.toNat).num c.2.toNat
def wtab (W : Reel.W) (t : Tab) : Reel.W := (t.1.foldl wclause (W.num t.1.length)).int t.2
def wact (W : Reel.W) (a : Act) : Reel.W := a.tabs.foldl wtab ((wcode (wtypes (wtypes (wtypes W a.params) a.regs) a.msgs) a.code).num a.tabs.length)
def whead : Reel.W := (((Reel.new 1048576).byte 67).byte 66).byte 49
def wmod (m : List Act) : Reel.W := m.foldl wact (whead.num m.length)
def bytes (m : List Act) : List UInt8 × Int := if err m = 0 then (wmod m).done else ([], err m)
/-- what a writer's state is -/
structure Fit (W : Reel.W) : Prop where
  h0 : 0 ≤ W.room
  h1 : W.room + W.out.length = 1048576
theorem Fit.add {W : Reel.W} (h : Fit W) (l : List UInt8) : Fit (W.add l) := by
  obtain ⟨h0, h1⟩ := h
  unfold Reel.W.add
  split
  · exact ⟨h0, h1⟩
  · refine ⟨by simp only; omega, ?_⟩
    simp only [List.length_append]; omega
theorem Fit.err {W : Reel.W} (h : Fit W) (e : Int) : Fit { W with err := e } := ⟨h.h0, h.h1⟩
theorem Fit.num {W : Reel.W} (h : Fit W) (n : Nat) : Fit (W.num n) := by unfold Reel.W.num; split <;> first | exact h.add _ | exact h
theorem Fit.int {W : Reel.W} (h : Fit W) (n : Int) : Fit (W.int n) := h.num _
theorem Fit.byte {W : Reel.W} (h : Fit W) (n : Int) : Fit (W.byte n) := by
  unfold Reel.W.byte
  split
  · split
    · exact h.err 4
    · exact h.add _
  · exact h
theorem Fit.instr {W : Reel.W} (h : Fit W) (n a : Int) : Fit (W.instr n a) := by unfold Reel.W.instr; split <;> first | exact (h.byte n).int a | exact h.byte n
theorem Fit.fold {α : Type} {f : Reel.W → α → Reel.W} (hf : ∀ W x, Fit W → Fit (f W x)) : ∀ (l : List α) (W : Reel.W), Fit W → Fit (l.foldl f W)
  | [], _, h => h
  | x :: l, W, h => Fit.fold hf l (f W x) (hf W x h)
theorem Fit.types {W : Reel.W} (h : Fit W) (l : List Int) : Fit (wtypes W l) := Fit.fold (fun _ x h => h.byte x) _ _ (h.num _)
theorem Fit.code {W : Reel.W} (h : Fit W) (l : List (Int × Int)) : Fit (wcode W l) := Fit.fold (fun _ x h => h.instr x.1 x.2) _ _ (h.num _)
theorem Fit.clause {W : Reel.W} (h : Fit W) (c : Int × Int) : Fit (wclause W c) := (h.num _).num _
theorem Fit.tab {W : Reel.W} (h : Fit W) (t : Tab) : Fit (wtab W t) := (Fit.fold (fun _ x h => h.clause x) _ _ (h.num _)).int _
theorem Fit.act {W : Reel.W} (h : Fit W) (a : Act) : Fit (wact W a) := Fit.fold (fun _ x h => h.tab x) _ _ ((((h.types _).types _).types _).code _ |>.num _)
theorem Fit.b1 {W : Reel.W} (h : Fit W) : W.out.length ≤ 140737488355317 := by have := h.h0; have := h.h1; omega
theorem Fit.b1' {W : Reel.W} (h : Fit W) : W.out.length ≤ 140737488355318 ∨ W.out.length + W.room ≤ 140737488355328 := .inl (by have := h.b1; omega)
theorem Fit.b2 {W : Reel.W} (h : Fit W) : W.room ≤ 9223372036854775807 := by have := h.h0; have := h.h1; omega
theorem Fit.head : Fit whead := ((Fit.byte (W := Reel.new 1048576) ⟨by decide, by decide⟩ _).byte _).byte _
theorem foldl_take_succ {α β : Type} (f : β → α → β) (z : β) (l : List α) (k : Nat) (h : k < l.length) : (l.take (k + 1)).foldl f z = f ((l.take k).foldl f z) l[k] := by
  rw [List.take_succ_eq_append_getElem h, List.foldl_append]; rfl
end Mod
open Go.Proofs.Ytebolbjbfnolpab.Mod

section
variable {w0 w : World} {L : List HP} {a : Nat} {W : Reel.W}

theorem wcount_any (k : Nat) (hk : k ≤ 9223372036854775807) (hf : Fit W) (hA : At w0 w (WriterC a W :: L)) :
    Calls Try.prog 28 #[.agg #[.pointer (some ⟨a, 0, none⟩)], .int .i64 k] w fun e w' => e = .returned (.tuple #[]) ∧ At w0 w' (WriterC a (W.num k) :: L) := by
  have hB := hA.alloc (.cells #[.pointer (some ⟨a, 0, none⟩)] 64)
  have c0 := hB.cell 0
  have hc := wnum_any k (by unfold U64; omega) hB.pick2 hf.b1' hf.h0 hf.b2
  have HC := Lib.hid hc; clear hc
  go_enter Try.func28, Try.ntmps28
  go_wp2_with (go_at_call 54; refine HC.out.mono ?_; rintro e w3 ⟨rfl, hV⟩)
  go_returns
  exact ⟨rfl, hV.pick2.drop⟩

def WtRel {α : Type} (f : Reel.W → α → Reel.W) (l : List α) (z : Reel.W) (w0 : World) (a : Nat) (M : List HP) (n : Nat) (i : Value) (wr : World) : Prop :=
  ∃ k : Nat, i = .int .i64 k ∧ k ≤ n ∧ At w0 wr (WriterC a ((l.take k).foldl f z) :: M)

theorem wtypes_any (l : List Int) (ao : Option Addr) (n cap : Nat) (hn : l.length = n) (hm : n ≤ maxLen) (hrd : Rd w0 ao (l.map (Value.int .i64))) (hf : Fit W) (hA : At w0 w (WriterC a W :: L)) :
    Calls Try.prog 55 #[.agg #[.pointer (some ⟨a, 0, none⟩)], .slice ao n cap] w fun e w' => e = .returned (.tuple #[]) ∧ At w0 w' (WriterC a (wtypes W l) :: L) := by
  unfold maxLen at hm
  have hB := (hA.alloc (.cells #[.pointer (some ⟨a, 0, none⟩)] 64)).pick2
  have c0 := hB.pick2.cell 0
  have hc := wcount_any n (by omega) hf hB
  have HC := Lib.hid hc; clear hc
  have HF := Lib.hid hf; clear hf
  have HN := Lib.hid hn; clear hn
  obtain ⟨bw, hbw⟩ : ∃ bw, bw = w.heap.size := ⟨_, rfl⟩
  go_enter Try.func55, Try.ntmps55
  go_wp2_with (go_at_call 28; refine HC.out.mono ?_; rintro e w3 ⟨rfl, hV⟩)
  rw [← hbw] at hV ⊢
  clear hbw HC hB c0
  go_loopw [12] (fun i wr => WtRel Reel.W.byte l (W.num n) w0 a (HP.one bw (.cells #[.pointer (some ⟨a, 0, none⟩)] 64 (0, 0)) :: L) n i wr) (fun i _ => n - (intOf i).toNat)
  case atStart => exact ⟨0, rfl, by omega, hV⟩
  case round =>
    clear hV
    obtain ⟨k, rfl, hk, hV⟩ := hrel
    by_cases hlt : k < n
    · have hlt1 : k < l.length := by rw [HN.out]; exact hlt
      have HS := Lib.hid (foldl_take_succ Reel.W.byte (W.num n) l k hlt1)
      have hx : (l.map (Value.int .i64))[k]? = some (.int .i64 l[k]) := by simp [hlt1]
      obtain ⟨b, off, rfl, hc⟩ := hrd.some_ (by rw [List.length_map]; omega)
      have d0 := hV.oldCell (hc _ _ hx)
      have c0 := hV.pick2.cell 0
      have hft : Fit ((l.take k).foldl Reel.W.byte (W.num n)) := Fit.fold (fun _ x h => h.byte x) _ _ (HF.out.num _)
      generalize (l.take k).foldl Reel.W.byte (W.num n) = V at *
      generalize l[k] = x at *
      have hcb := wbyte_any x hV hft.b1' hft.h0 hft.b2
      have HB := Lib.hid hcb; clear hcb hc hx
      go_wp2_with (go_at_call 27; refine HB.out.mono ?_; rintro e w3 ⟨rfl, hU⟩)
      go_roundw
      case rel => exact ⟨k + 1, by go_num, by omega, by rw [HS.out]; exact hU⟩
      case measure => simp [intOf]; omega
    · have hkl : k = n := by omega
      have HT := Lib.hid (show l.take k = l from List.take_of_length_le (by rw [HN.out]; omega))
      subst hkl
      go_wp2
      go_returns
      refine ⟨rfl, ?_⟩
      rw [HT.out] at hV
      unfold wtypes
      rw [HN.out]
      exact hV.pick2.drop
end
end Go.Proofs.Ytebolbjbfnolpab
