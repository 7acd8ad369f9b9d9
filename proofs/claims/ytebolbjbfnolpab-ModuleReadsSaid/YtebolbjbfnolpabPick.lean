/-
  Bringing a piece to the front.
-/
import Derived.Test.YtebolbjbfnolpabOwn
namespace Go.Proofs.Ytebolbjbfnolpab
open Go.RowKit HP
section
variable {w0 w : World} {L : List HP}
theorem At.pick6 {P0 P1 P2 P3 P4 P5 : HP} (h : At w0 w (P0 :: P1 :: P2 :: P3 :: P4 :: P5 :: L)) : At w0 w (P5 :: P0 :: P1 :: P2 :: P3 :: P4 :: L) := h.perm (List.perm_middle (l₁ := [P0, P1, P2, P3, P4]))
theorem At.pick7 {P0 P1 P2 P3 P4 P5 P6 : HP} (h : At w0 w (P0 :: P1 :: P2 :: P3 :: P4 :: P5 :: P6 :: L)) : At w0 w (P6 :: P0 :: P1 :: P2 :: P3 :: P4 :: P5 :: L) := h.perm (List.perm_middle (l₁ := [P0, P1, P2, P3, P4, P5]))
theorem At.pick8 {P0 P1 P2 P3 P4 P5 P6 P7 : HP} (h : At w0 w (P0 :: P1 :: P2 :: P3 :: P4 :: P5 :: P6 :: P7 :: L)) : At w0 w (P7 :: P0 :: P1 :: P2 :: P3 :: P4 :: P5 :: P6 :: L) := h.perm (List.perm_middle (l₁ := [P0, P1, P2, P3, P4, P5, P6]))
theorem At.pick9 {P0 P1 P2 P3 P4 P5 P6 P7 P8 : HP} (h : At w0 w (P0 :: P1 :: P2 :: P3 :: P4 :: P5 :: P6 :: P7 :: P8 :: L)) : At w0 w (P8 :: P0 :: P1 :: P2 :: P3 :: P4 :: P5 :: P6 :: P7 :: L) := h.perm (List.perm_middle (l₁ := [P0, P1, P2, P3, P4, P5, P6, P7]))
theorem At.pick10 {P0 P1 P2 P3 P4 P5 P6 P7 P8 P9 : HP} (h : At w0 w (P0 :: P1 :: P2 :: P3 :: P4 :: P5 :: P6 :: P7 :: P8 :: P9 :: L)) : At w0 w (P9 :: P0 :: P1 :: P2 :: P3 :: P4 :: P5 :: P6 :: P7 :: P8 :: L) := h.perm (List.perm_middle (l₁ := [P0, P1, P2, P3, P4, P5, P6, P7, P8]))
theorem At.pick11 {P0 P1 P2 P3 P4 P5 P6 P7 P8 P9 P10 : HP} (h : At w0 w (P0 :: P1 :: P2 :: P3 :: P4 :: P5 :: P6 :: P7 :: P8 :: P9 :: P10 :: L)) : At w0 w (P10 :: P0 :: P1 :: P2 :: P3 :: P4 :: P5 :: P6 :: P7 :: P8 :: P9 :: L) := h.perm (List.perm_middle (l₁ := [P0, P1, P2, P3, P4, P5, P6, P7, P8, P9]))
theorem At.pick12 {P0 P1 P2 P3 P4 P5 P6 P7 P8 P9 P10 P11 : HP} (h : At w0 w (P0 :: P1 :: P2 :: P3 :: P4 :: P5 :: P6 :: P7 :: P8 :: P9 :: P10 :: P11 :: L)) : At w0 w (P11 :: P0 :: P1 :: P2 :: P3 :: P4 :: P5 :: P6 :: P7 :: P8 :: P9 :: P10 :: L) := h.perm (List.perm_middle (l₁ := [P0, P1, P2, P3, P4, P5, P6, P7, P8, P9, P10]))
end
end Go.Proofs.Ytebolbjbfnolpab
