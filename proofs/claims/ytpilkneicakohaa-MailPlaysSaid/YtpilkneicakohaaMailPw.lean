/-
  The law MailPlays: its argument opened.
-/
import Derived.Test.YtpilkneicakohaaMailP
namespace Go.Proofs.Ytpilkneicakohaa
open Go.RowKit HP
namespace mailPlays
theorem mailPlays_walk (W : World) (l : List OpD) (v : Value) (hR : kOps.R W l [v]) :
    Calls Try.prog 3 #[v] W fun e w' => e = .returned (.bool true) ∧ Below W.heap.size W w' := by
  obtain ⟨ao, cap, hv, h1, h2, _, hi⟩ := hR
  injection hv with hv _
  subst hv
  exact mailPlays_any l ao cap (by omega) W hi
end mailPlays
end Go.Proofs.Ytpilkneicakohaa
