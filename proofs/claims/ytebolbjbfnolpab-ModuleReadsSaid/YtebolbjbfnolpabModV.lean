/-
  The law's lives.
-/
import Derived.Test.YtebolbjbfnolpabModU
namespace Go.Proofs.Ytebolbjbfnolpab
open Go.RowKit HP
open Go.Proofs.Ytebolbjbfnolpab.Mod

def liveL : List ActD := [([], [], [], [(0, 0, ())], [], ())]
def liveB : List UInt8 := [67, 66, 49, 1, 0, 0, 0, 1, 0, 0]
theorem live_bytes : Mod.bytes (liveL.map toAct) = (liveB, 0) := by decide +kernel
theorem live_read : mread liveB = (liveL, 0) := by kernel_rfl

section
variable {w0 w : World} {L : List HP}
theorem ksl_nil {P : Program} {t : TypeId} {α : Type} (K : Kn P t α) (w : World) : KSl K w [] none 0 0 := ⟨rfl, Nat.le_refl _, by simp [maxLen], fun _ => rfl, .inl rfl⟩

set_option maxRecDepth 100000 in
set_option maxHeartbeats 4000000 in
theorem lives_any (hA : At w0 w L) : Calls Try.prog 4 #[] w fun e w' => e = .returned (.bool true) ∧ At w0 w' L := by
  have h1 := hA.alloc (.cells #[.int .i64 0, .int .i64 0] 32)
  have h2 := h1.alloc (.cells #[.slice none 0 0, .slice none 0 0, .slice none 0 0, .slice (some ⟨w.heap.size, 0, none⟩) 1 1, .slice none 0 0] 37)
  have h3 := h2.alloc (.cells #[.slice (some ⟨w.heap.size + 1, 0, none⟩) 1 1] 25)
  simp only [World.size_alloc] at h2 h3
  have hI : At w0 _ (HP.row 32 kIns.sz (some ⟨w.heap.size, 0, none⟩) 1 1 ([[.int .i64 0, .int .i64 0]] : List (List Value)).flatten :: _) := h3.pick3.row_of_one (size := 2) 1 1 (by decide) (by decide) (by rfl)
  have hI2 := ((hI.own_emp (R := fun w => All2 (kIns.R w) [(0, 0, ())] [[.int .i64 0, .int .i64 0]]) fun w => (All2.nil _).snoc ⟨[.int .i64 0], _, rfl, ⟨rfl, wf_of (x := 0) (by decide)⟩, [.int .i64 0], _, rfl, ⟨rfl, wf_of (x := 0) (by decide)⟩, rfl⟩).pick2).row_kn kIns (by decide)
  have hB : At w0 _ (HP.row 37 kActor.sz (some ⟨w.heap.size + 1, 0, none⟩) 1 1 ([[.slice none 0 0, .slice none 0 0, .slice none 0 0, .slice (some ⟨w.heap.size, 0, none⟩) 1 1, .slice none 0 0]] : List (List Value)).flatten :: _) := hI2.pick3.row_of_one (size := 5) 1 1 (by decide) (by decide) (by rfl)
  have hB2 := ((hB.pick2.own_imp (R' := fun w2 => All2 (kActor.R w2) liveL [[.slice none 0 0, .slice none 0 0, .slice none 0 0, .slice (some ⟨w.heap.size, 0, none⟩) 1 1, .slice none 0 0]]) fun w2 h => (All2.nil _).snoc (actor_of (ksl_nil _ w2) (ksl_nil _ w2) (ksl_nil _ w2) h (ksl_nil _ w2))).pick2).row_kn kActor (by decide)
  have c0 := hB2.pick2.cell 0
  have hmb := mbytes_any liveL (some ⟨w.heap.size + 1, 0, none⟩) 1 1 rfl (by decide) hB2.own.2.2.2.2 hB2
  rw [live_bytes] at hmb
  have hmr : ∀ (w : World) (L : List HP) (_ : At w0 w L), Calls Try.prog 5 #[.string (str liveB)] w fun e w' => ∃ ao cap, e = .returned (.tuple #[.agg #[.slice ao 1 cap], .int .i64 0]) ∧ At w0 w' (HP.Own (fun w => KSl kActor w liveL ao 1 cap) :: L) := by
    intro w L h
    have := mread_any liveB (by decide) h
    rw [live_read] at this
    exact this
  have hms1 := fun (w : World) (L : List HP) (b ao : Option Addr) (cap : Nat) (h : At w0 w L) (k1 : KSl kActor w liveL b 1 1) (k2 : KSl kActor w liveL ao 1 cap) => msame_any liveL liveL b ao 1 1 1 cap rfl rfl (by decide) (by decide) k1.2.2.2.2 k2.2.2.2.2 h
  have hms2 := fun (w : World) (L : List HP) (b : Option Addr) (h : At w0 w L) (k1 : KSl kActor w liveL b 1 1) => msame_any liveL [] b none 1 0 1 0 rfl rfl (by decide) (by decide) k1.2.2.2.2 (.inl rfl) h
  rw [show decide (liveL.map toAct = liveL.map toAct) = true from by simp] at hms1
  rw [show decide (liveL.map toAct = ([] : List ActD).map toAct) = false from by decide] at hms2
  have HS1 := Lib.hid hms1; clear hms1
  have HS2 := Lib.hid hms2; clear hms2
  have HMB := Lib.hid hmb; clear hmb
  have HMR := Lib.hid hmr; clear hmr
  have T1 : ((str liveB).toList == [67, 66, 49, 1, 0, 0, 0, 1, 0, 0]) = true := by rw [str_list]; decide
  go_enter Try.func4, Try.ntmps4
  go_wp2_with (first
    | (go_at_call 8; with_reducible refine HMB.out.mono ?_; rintro e w1 ⟨rfl, hV⟩)
    | (go_at_call 5; with_reducible refine (HMR.out _ _ hV).mono ?_; rintro e w2 ⟨ao, cap, rfl, hU⟩; have hN := hU.alloc (.cells #[.slice ao 1 cap] 25); have n0 := hN.cell 0; have n1 := hN.pick4.cell 0)
    | (go_at_call 9; with_reducible refine (HS1.out _ _ _ _ _ hN hN.pick3.own hN.pick2.own).mono ?_; rintro e w3 ⟨rfl, hX⟩; have n2 := hX.pick4.cell 0)
    | (go_at_call 9; with_reducible refine (HS2.out _ _ _ hX hX.pick3.own).mono ?_; rintro e w4 ⟨rfl, hY⟩))
  go_returns
  exact ⟨rfl, hY.drop.drop.drop.drop⟩
end
end Go.Proofs.Ytebolbjbfnolpab
