/-
  The law LinksNil.
-/
import Derived.Test.YtihpcaklknbjiaaLnkE
import Derived.Test.YtihpcaklknbjiaaOpen
namespace Go.Proofs.Ytihpcaklknbjiaa
open Go.RowKit HP
open Go.Proofs.Ytihpcaklknbjiaa.Lnk

theorem wf_i64l {a : Int} (h : (Lit.int .i64 a).wf = true) : -9223372036854775808 ≤ a ∧ a ≤ 9223372036854775807 := by
  simpa [Lit.wf, IntKind.min, IntKind.max, IntKind.signed, IntKind.bits] using h
namespace linksNil
theorem linksNil_walk (W : World) (a : Int) (wa : (Lit.int .i64 a).wf = true) (b : Int) (_wb : (Lit.int .i64 b).wf = true) :
    Calls Try.prog 7 #[.int .i64 a, .int .i64 b] W fun e w' => e = .returned (.bool true) ∧ Below W.heap.size W w' := by
  have hA := At.start W
  have ha := wf_i64l wa
  have k1 := fun w => nlink_any a b w
  have k2 := fun w => nof_any a w
  have k3 := fun w => ncut_any a w
  have k4 := fun (w : World) (h : At W w []) => nfall_any a ha h
  have k5 := fun w => nlinked_any a b w
  have K1 := Lib.hid k1; clear k1
  have K2 := Lib.hid k2; clear k2
  have K3 := Lib.hid k3; clear k3
  have K4 := Lib.hid k4; clear k4
  have K5 := Lib.hid k5; clear k5
  go_enter Try.func7, Try.ntmps7
  go_wp2_with (first
    | (go_at_call 9; with_reducible refine (lives_any hA).mono ?_; rintro e w1 ⟨rfl, h1⟩)
    | (go_at_call 15; with_reducible refine (K1.out _).mono ?_; rintro e w2 ⟨rfl, rfl⟩)
    | (go_at_call 19; with_reducible refine (K2.out _).mono ?_; rintro e w2 ⟨rfl, rfl⟩)
    | (go_at_call 13; with_reducible refine (K3.out _).mono ?_; rintro e w2 ⟨rfl, rfl⟩)
    | (go_at_call 21; with_reducible refine (K4.out _ h1).mono ?_; rintro e w3 ⟨ao, cap, rfl, h2⟩)
    | (go_at_call 17; with_reducible refine (K5.out _).mono ?_; rintro e w4 ⟨rfl, rfl⟩))
  go_returns
  exact ⟨rfl, h2.below⟩
end linksNil
end Go.Proofs.Ytihpcaklknbjiaa
