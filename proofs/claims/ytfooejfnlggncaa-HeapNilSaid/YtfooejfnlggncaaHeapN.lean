/-
  The law HeapNil.
-/
import Derived.Test.YtfooejfnlggncaaHeapJ
namespace Go.Proofs.Ytfooejfnlggncaa
open Go.RowKit HP
open Heap (Th)
open HI (Hc enc)

set_option maxRecDepth 100000 in
theorem heapNil_any (k t x : Int) (w : World) :
    Calls Try.prog 9 #[.agg #[.int .i64 k, .int .i64 t, .int .i64 x]] w fun e w' => e = .returned (.bool true) ∧ Below w.heap.size w w' := by
  obtain ⟨W0, hW⟩ : ∃ W0, W0 = w := ⟨_, rfl⟩
  have hA : At W0 w [] := hW ▸ At.start w
  have HW := Lib.hid hW; clear hW
  go_enter Try.func9, Try.ntmps9
  go_wp2_with (first
    | (go_at_call 10; refine (lives_any (hA.alloc _)).mono ?_; rintro e w1 ⟨rfl, hA1⟩; have c1 := hA1.cell 1; have c2 := hA1.cell 2)
    | (go_at_call 14; refine (HI.pop_nil _ hA1).mono ?_; rintro e w2 ⟨rfl, hA2⟩; have d1 := hA2.cell 1; have d2 := hA2.cell 2)
    | (go_at_call 16; refine (HI.next_nil _).mono ?_; rintro e w3 ⟨rfl, rfl⟩)
    | (go_at_call 12; refine (HI.put_nil _ _ hA2).mono ?_; rintro e w4 ⟨rfl, hA4⟩; have f2 := hA4.cell 2)
    | (go_at_call 13; refine (HI.cancel_nil _ hA4).mono ?_; rintro e w5 ⟨rfl, hA5⟩)
    | (go_at_call 15; refine (HI.len_nil _).mono ?_; rintro e w6 ⟨rfl, rfl⟩)
    | (go_at_call 29; refine (given_any [] none (.inl ⟨rfl, rfl⟩) [] none 0 (by simp) (Rd.nil _ _) rfl hA5).mono ?_; rintro e w7 ⟨rfl, hA7⟩))
  go_returns
  exact ⟨rfl, HW.out ▸ hA7.below⟩
namespace heapNil
theorem heapNil_walk (W : World) (l : OpD) (cs : Array Value) (hR : kOp.R W l cs.toList) :
    Calls Try.prog 9 #[.agg cs] W fun e w' => e = .returned (.bool true) ∧ Below W.heap.size W w' := by
  obtain ⟨c1, _, h, ⟨rfl, h1⟩, c2, _, rfl, ⟨rfl, _⟩, c3, _, rfl, ⟨rfl, _⟩, rfl⟩ := hR
  obtain rfl : cs = #[.int .i64 l.1, .int .i64 l.2.1, .int .i64 l.2.2.1] := Array.toList_inj.1 h
  exact heapNil_any _ _ _ W
end heapNil
end Go.Proofs.Ytfooejfnlggncaa
