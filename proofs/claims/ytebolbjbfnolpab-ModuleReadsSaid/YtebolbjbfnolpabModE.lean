/-
  The contracts of tables: module.table, the closures of module.right, IndexFunc and ContainsFunc of instructions.
-/
import Derived.Test.YtebolbjbfnolpabModD
import Derived.Test.YtebolbjbfnolpabLib3
namespace Go.Proofs.Ytebolbjbfnolpab
open Go.RowKit HP

section
variable {w0 w : World} {L : List HP}

theorem ins1_any (op a : Int) (hA : At w0 w L) : Calls Try.prog 63 #[.agg #[.int .i64 op, .int .i64 a]] w fun e w' => e = .returned (.bool (!Instr.right op a)) ∧ At w0 w' L := by
  have hA0 := hA.alloc (.cells #[.int .i64 op, .int .i64 a] 32)
  have c0 := hA0.cell 0
  have c1 := hA0.cell 1
  have hR := right_any op a hA0
  go_enter Try.func63, Try.ntmps63
  go_wp2_with (go_at_call 64; refine hR.mono ?_; rintro e w' ⟨rfl, hW⟩)
  go_returns
  exact ⟨rfl, hW.drop⟩

def TabRel (w : World) (B : Nat) (l : List (Int × Int)) (t : Int) (ao : Option Addr) (n cap : Nat) (i : Value) (wr : World) : Prop :=
  ∃ k : Nat, i = .int .i64 k ∧ k ≤ n ∧ l.all Mod.clause = (l.drop k).all Mod.clause ∧ At w wr [one B (.cells #[.slice ao n cap, .int .i64 t] 74)]

theorem table_any (l : List (Int × Int)) (t : Int) (ao : Option Addr) (n cap : Nat) (hn : l.length = n) (hm : n ≤ maxLen) (hA : At w0 w L) (hrd : Rd w ao (pvs .i64 .i64 l)) :
    Calls Try.prog 67 #[.agg #[.slice ao n cap, .int .i64 t]] w fun e w' => e = .returned (.bool (Mod.tab (l, t))) ∧ At w0 w' L := by
  unfold maxLen at hm
  suffices h : Calls Try.prog 67 #[.agg #[.slice ao n cap, .int .i64 t]] w fun e w' => e = .returned (.bool (Mod.tab (l, t))) ∧ At w w' [] from
    h.mono fun e w' h => ⟨h.1, hA.join h.2⟩
  clear hA
  have hB := (At.start w).alloc (.cells #[.slice ao n cap, .int .i64 t] 74)
  have c0 := hB.cell 0
  have c1 := hB.cell 1
  have HN := Lib.hid hn; clear hn
  go_enter Try.func67, Try.ntmps67
  go_wp2
  go_loopw [8] (fun i wr => TabRel w w.heap.size l t ao n cap i wr) (fun i _ => n - (intOf i).toNat)
  case atStart => exact ⟨0, rfl, by omega, rfl, hB⟩
  case round =>
    obtain ⟨k, rfl, hk, hx, hW⟩ := hrel
    have HX := Lib.hid hx; clear hx
    have b0 := hW.cell 0
    have b1 := hW.cell 1
    by_cases hlt : k < n
    · have hlt1 : k < l.length := by rw [HN.out]; exact hlt
      have hrd1 := hrd.old hW
      obtain ⟨b, off, rfl, hc⟩ := hrd1.some_ (by rw [pvs_len]; omega)
      have d0 := hc _ _ (pvs_get .i64 .i64 l k hlt1).1
      have d1 := hc _ _ (pvs_get .i64 .i64 l k hlt1).2
      rw [← Nat.add_assoc] at d1
      clear hc hrd1
      have HD := Lib.hid (show l.drop k = l[k] :: l.drop (k + 1) from List.drop_eq_getElem_cons hlt1)
      obtain ⟨x, y, hxy⟩ : ∃ x y, l[k] = (x, y) := ⟨_, _, rfl⟩
      rw [hxy] at d0 d1 HD
      have hW2 := hW.alloc (.cells #[.int .i64 x, .int .i64 y] 77)
      have e0 := hW2.cell 0
      have e1 := hW2.cell 1
      cases hp : Mod.place x 8 with
      | false =>
        have HP_ := Lib.hid hp; clear hp
        go_wp2_with (go_at_call 81; refine (place_any _ _ _).mono ?_; rw [HP_.out]; rintro e w' ⟨rfl, rfl⟩)
        go_returns
        exact ⟨ret_bool (by rw [Mod.tab, HX.out, HD.out]; simp [Mod.clause, HP_.out]), hW2.drop.drop⟩
      | true =>
        have HP_ := Lib.hid hp; clear hp
        cases hq : Mod.place y 200 with
        | false =>
          have HQ := Lib.hid hq; clear hq
          go_wp2_with (go_at_call 81; refine (place_any _ _ _).mono ?_; (first | rw [HP_.out] | rw [HQ.out]); rintro e w' ⟨rfl, rfl⟩)
          go_returns
          exact ⟨ret_bool (by rw [Mod.tab, HX.out, HD.out]; simp [Mod.clause, HP_.out, HQ.out]), hW2.drop.drop⟩
        | true =>
          have HQ := Lib.hid hq; clear hq
          go_wp2_with (go_at_call 81; refine (place_any _ _ _).mono ?_; (first | rw [HP_.out] | rw [HQ.out]); rintro e w' ⟨rfl, rfl⟩)
          go_roundw
          case rel => exact ⟨k + 1, by go_num, by omega, by rw [HX.out, HD.out]; simp [Mod.clause, HP_.out, HQ.out], hW2.drop⟩
          case measure => simp [intOf]; omega
    · have hkl : k = n := by omega
      have hall : l.all Mod.clause = true := by rw [HX.out, List.drop_of_length_le (by rw [HN.out]; omega)]; rfl
      have HL := Lib.hid hall; clear hall
      subst hkl
      by_cases ht : t = -1
      · subst ht
        go_wp2
        go_returns
        exact ⟨ret_bool (by simp [Mod.tab, HL.out]), hW.drop⟩
      · have T : (t == -1) = false := by simp [ht]
        go_wp2_with (go_at_call 81; refine (place_any _ _ _).mono ?_; rintro e w' ⟨rfl, rfl⟩)
        go_returns
        exact ⟨ret_bool (by simp [Mod.tab, HL.out, ht]), hW.drop⟩

theorem tab1_any (l : List (Int × Int)) (t : Int) (ao : Option Addr) (n cap : Nat) (hn : l.length = n) (hm : n ≤ maxLen) (hA : At w0 w L) (hrd : Rd w ao (pvs .i64 .i64 l)) :
    Calls Try.prog 66 #[.agg #[.slice ao n cap, .int .i64 t]] w fun e w' => e = .returned (.bool (!Mod.tab (l, t))) ∧ At w0 w' L := by
  have hA0 := hA.alloc (.cells #[.slice ao n cap, .int .i64 t] 74)
  have c0 := hA0.cell 0
  have c1 := hA0.cell 1
  have hrd0 : Rd (w.alloc (.cells #[.slice ao n cap, .int .i64 t] 74)) ao (pvs .i64 .i64 l) := hrd.old ((At.start w).alloc _)
  have hR := table_any l t ao n cap hn hm hA0 hrd0
  go_enter Try.func66, Try.ntmps66
  go_wp2_with (go_at_call 67; refine hR.mono ?_; rintro e w' ⟨rfl, hW⟩)
  go_returns
  exact ⟨rfl, hW.drop⟩
end
end Go.Proofs.Ytebolbjbfnolpab
