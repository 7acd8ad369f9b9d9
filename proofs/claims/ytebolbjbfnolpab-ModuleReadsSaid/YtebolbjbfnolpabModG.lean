/-
  The contracts of slices.Grow (from nil) and slices.Concat of three lists of types.
-/
import Derived.Test.YtebolbjbfnolpabModF
import Derived.Lib.AppendZerosOnto
namespace Go.Proofs.Ytebolbjbfnolpab
open Go.RowKit HP

theorem under_types : Try.prog.underlying 34 = some (.slice 84) := by kernel_rfl
theorem info_type : (Try.prog.info? 84).map (fun i => (i.zero, i.size, i.bytes)) = some (some (.int .i64 0), 1, 8) := by kernel_rfl

section
variable {w0 w : World} {L : List HP}

theorem growT_any (n : Nat) (hn : n ≤ 1000) (hA : At w0 w L) :
    Calls Try.prog 78 #[.slice none 0 0, .int .i64 n] w fun e w' => ∃ ao cap, e = .returned (.slice ao 0 cap) ∧ At w0 w' (row 84 1 ao 0 cap [] :: L) := by
  by_cases h0 : n = 0
  · subst h0
    have hF := hA.row_nil 84 1
    go_enter Try.func78, Try.ntmps78
    go_wp2
    go_returns
    exact ⟨none, 0, rfl, hF⟩
  · obtain ⟨i, hi, hz, hsize, hby⟩ := info_parts info_type
    have hG1 := grownCap_ge w (0 + n) 0 84
    have hG2 := grownCap_le_maxLen w (0 + n) 0 84 (by unfold maxLen; omega)
    have hr := fun ty => Lib.run_append_grow_zeros w 34 3 ty 84 i (.int .i64 0) .i64 .i64 under_types Try.underlying3 hi hz none 0 0 [] (by simp [Builtin.firstCells]) n (by omega) (by rw [hsize]; decide) (by omega) (by omega) (by rw [hby]; omega) (growslice_fits (by omega) (by rw [hby]; omega))
    have hF := (hA.drew.alloc (.cells (([] : List Value).toArray ++ Builtin.zeroCells (Value.int .i64 0).cells n ++ Builtin.zeroCells (Value.int .i64 0).cells (grownCap w (0 + n) 0 84 - (0 + n))) 84)).row_of_one (size := 1) 0 (grownCap w (0 + n) 0 84) (Nat.zero_le _) hG2 (by
      have hz1 : (Value.int .i64 0).cells.size = 1 := rfl
      simp only [Array.size_append, List.size_toArray, size_zeroCells, hz1, List.length_nil]
      omega)
    generalize hg : grownCap w (0 + n) 0 84 = G at *
    clear hg hi hz hsize hby
    unfold maxLen at hG2
    have HR := Lib.hid hr; clear hr
    go_enter Try.func78, Try.ntmps78
    go_wp2_with (at_builtin; refine Lib.wpList_append_run _ rfl _ _ _ _ rfl _ _ rfl rfl _ _ (HR.out _) ?_)
    go_returns
    exact ⟨_, _, rfl, by have hF2 := hF; simp [Value.cells] at hF2; exact hF2⟩

def Cat1 (n0 n1 n2 : Nat) (i s : Value) : Prop :=
  (i = .int .i64 0 ∧ s = .int .i64 0) ∨ (i = .int .i64 1 ∧ s = .int .i64 n0) ∨ (i = .int .i64 2 ∧ s = .int .i64 (n0 + n1 : Nat)) ∨ (i = .int .i64 3 ∧ s = .int .i64 (n0 + n1 + n2 : Nat))
def Cat2 (w0 : World) (L : List HP) (l0 l1 l2 : List Int) (n0 n1 n2 : Nat) (i v : Value) (wr : World) : Prop :=
  ∃ ao cap, (i = .int .i64 0 ∧ v = .slice ao 0 cap ∧ At w0 wr (row 84 1 ao 0 cap [] :: L))
    ∨ (i = .int .i64 1 ∧ v = .slice ao (0 + n0) cap ∧ At w0 wr (row 84 1 ao (0 + n0) cap ([] ++ l0.map (Value.int .i64)) :: L))
    ∨ (i = .int .i64 2 ∧ v = .slice ao (0 + n0 + n1) cap ∧ At w0 wr (row 84 1 ao (0 + n0 + n1) cap ([] ++ l0.map (Value.int .i64) ++ l1.map (Value.int .i64)) :: L))
    ∨ (i = .int .i64 3 ∧ v = .slice ao (0 + n0 + n1 + n2) cap ∧ At w0 wr (row 84 1 ao (0 + n0 + n1 + n2) cap ([] ++ l0.map (Value.int .i64) ++ l1.map (Value.int .i64) ++ l2.map (Value.int .i64)) :: L))
theorem ints_one (l : List Int) : ∀ u ∈ l.map (Value.int .i64), u.oneCell' = true := by
  intro u hu; rw [List.mem_map] at hu; obtain ⟨x, _, rfl⟩ := hu; rfl

theorem concat_any (l0 l1 l2 : List Int) (a0 a1 a2 : Option Addr) (n0 n1 n2 c0 c1 c2 : Nat) (e0 : l0.length = n0) (e1 : l1.length = n1) (e2 : l2.length = n2) (h0 : n0 ≤ 300) (h1 : n1 ≤ 300) (h2 : n2 ≤ 300)
    (r0 : Rd w0 a0 (l0.map (Value.int .i64))) (r1 : Rd w0 a1 (l1.map (Value.int .i64))) (r2 : Rd w0 a2 (l2.map (Value.int .i64))) (B : Nat) (hA : At w0 w (one B (.cells #[.slice a0 n0 c0, .slice a1 n1 c1, .slice a2 n2 c2] 34) :: L)) :
    Calls Try.prog 61 #[.slice (some ⟨B, 0, none⟩) 3 3] w fun e w' => ∃ ao cap, e = .returned (.slice ao (0 + n0 + n1 + n2) cap) ∧
      At w0 w' (row 84 1 ao (0 + n0 + n1 + n2) cap ([] ++ l0.map (Value.int .i64) ++ l1.map (Value.int .i64) ++ l2.map (Value.int .i64)) :: one B (.cells #[.slice a0 n0 c0, .slice a1 n1 c1, .slice a2 n2 c2] 34) :: L) := by
  have b0 := hA.cell 0
  have b1 := hA.cell 1
  have b2 := hA.cell 2
  have z0 := ints_one l0
  have z1 := ints_one l1
  have z2 := ints_one l2
  go_enter Try.func61, Try.ntmps61
  go_wp2
  go_loopw [11, 3] (fun i s wr => Cat1 n0 n1 n2 i s ∧ wr = w) (fun i _ _ => 3 - (intOf i).toNat)
  case atStart => exact ⟨.inl ⟨rfl, rfl⟩, rfl⟩
  case round =>
    obtain ⟨hrel, rfl⟩ := hrel
    rcases hrel with ⟨rfl, rfl⟩ | ⟨rfl, rfl⟩ | ⟨rfl, rfl⟩ | ⟨rfl, rfl⟩
    · go_wp2
      go_roundw
      case rel => exact ⟨.inr (.inl ⟨by go_num, by first | rfl | trivial | go_num⟩), by first | rfl | trivial⟩
      case measure => simp [intOf]
    · go_wp2
      go_roundw
      case rel => exact ⟨.inr (.inr (.inl ⟨by go_num, by first | rfl | trivial | go_num⟩)), by first | rfl | trivial⟩
      case measure => simp [intOf]
    · go_wp2
      go_roundw
      case rel => exact ⟨.inr (.inr (.inr ⟨by go_num, by first | rfl | trivial | go_num⟩)), by first | rfl | trivial⟩
      case measure => simp [intOf]
    · go_wp2_with (go_at_call 78; refine (growT_any (n0 + n1 + n2) (by omega) hA).mono ?_; rintro e w' ⟨ao, cap, rfl, hW⟩)
      go_loopw [27, 6] (fun i v wr => Cat2 w0 (one B (.cells #[.slice a0 n0 c0, .slice a1 n1 c1, .slice a2 n2 c2] 34) :: L) l0 l1 l2 n0 n1 n2 i v wr) (fun i _ _ => 3 - (intOf i).toNat)
      case atStart => exact ⟨ao, cap, .inl ⟨rfl, rfl, hW⟩⟩
      case round =>
        clear hW
        obtain ⟨ao, cap, hrel⟩ := hrel
        rcases hrel with ⟨rfl, rfl, hW⟩ | ⟨rfl, rfl, hW⟩ | ⟨rfl, rfl, hW⟩ | ⟨rfl, rfl, hW⟩
        · have d0 := hW.pick2.cell 0
          go_wp2_with (at_builtin; refine wpList_append_row rfl _ _ 34 rfl (.int .i64 0) 8 under_types info_type rfl (by decide) hW rfl a0 n0 c0 (l0.map (Value.int .i64)) rfl (by simp [e0]) (r0.old hW) z0 (by unfold maxLen; omega) (by omega) ?_; intro ao' cap' w1 hV)
          go_roundw
          case rel => exact ⟨ao', cap', .inr (.inl ⟨by first | rfl | trivial | go_num, by first | rfl | trivial | (congr 1; omega) | simp, hV⟩)⟩
          case measure => simp [intOf]
        · have d0 := hW.pick2.cell 1
          go_wp2_with (at_builtin; refine wpList_append_row rfl _ _ 34 rfl (.int .i64 0) 8 under_types info_type rfl (by decide) hW rfl a1 n1 c1 (l1.map (Value.int .i64)) rfl (by simp [e1]) (r1.old hW) z1 (by unfold maxLen; omega) (by omega) ?_; intro ao' cap' w1 hV)
          go_roundw
          case rel => exact ⟨ao', cap', .inr (.inr (.inl ⟨by first | rfl | trivial | go_num, by first | rfl | trivial | (congr 1; omega) | simp, hV⟩))⟩
          case measure => simp [intOf]
        · have d0 := hW.pick2.cell 2
          go_wp2_with (at_builtin; refine wpList_append_row rfl _ _ 34 rfl (.int .i64 0) 8 under_types info_type rfl (by decide) hW rfl a2 n2 c2 (l2.map (Value.int .i64)) rfl (by simp [e2]) (r2.old hW) z2 (by unfold maxLen; omega) (by omega) ?_; intro ao' cap' w1 hV)
          go_roundw
          case rel => exact ⟨ao', cap', .inr (.inr (.inr ⟨by first | rfl | trivial | go_num, by first | rfl | trivial | (congr 1; omega) | simp, hV⟩))⟩
          case measure => simp [intOf]
        · go_wp2
          go_returns
          exact ⟨ao, cap, rfl, hW⟩
end
end Go.Proofs.Ytebolbjbfnolpab
