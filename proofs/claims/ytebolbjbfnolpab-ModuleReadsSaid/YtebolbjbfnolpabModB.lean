/-
  The contracts of lists of types: kinds.All, kinds.Same, and the reference's.
-/
import Derived.Test.YtebolbjbfnolpabModA
namespace Go.Proofs.Ytebolbjbfnolpab
open Go.RowKit HP

section
variable {w0 w : World} {L : List HP}

theorem kall1_any (t n : Int) (B : Nat) (hB : w.cell? ⟨B, 0, none⟩ = some (.int .i64 n)) : Calls Try.prog 76 #[.int .i64 t, .pointer (some ⟨B, 0, none⟩)] w fun e w' => e = .returned (.bool (!Mod.ty t n)) ∧ w = w' := by
  go_enter Try.func76, Try.ntmps76
  go_wp2_with (go_at_call 77; refine (kright_any _ _ _).mono ?_; rintro e w' ⟨rfl, rfl⟩)
  go_returns
  exact ⟨rfl, rfl⟩

theorem kindex_any (n : Int) (B : Nat) (hB : w.cell? ⟨B, 0, none⟩ = some (.int .i64 n)) (l : List Int) (ao : Option Addr) (cap : Nat) (hm : l.length ≤ maxLen) (hrd : Rd w ao (l.map (Value.int .i64))) :
    Calls Try.prog 84 #[.slice ao l.length cap, .func (.func 76) #[] #[.pointer (some ⟨B, 0, none⟩)]] w fun e w' => e = .returned (.int .i64 (Mod.bad (fun t => Mod.ty t n) l 0)) ∧ w = w' := by
  unfold maxLen at hm
  go_enter Try.func84, Try.ntmps84
  go_wp2
  go_loop [8] (fun i => ∃ k : Nat, i = .int .i64 k ∧ k ≤ l.length ∧ Mod.bad (fun t => Mod.ty t n) l 0 = Mod.bad (fun t => Mod.ty t n) (l.drop k) k) (fun i => l.length - (intOf i).toNat)
  case atStart => exact ⟨0, rfl, by omega, rfl⟩
  case round =>
    obtain ⟨k, rfl, hk, hx⟩ := hrel
    have HX := Lib.hid hx; clear hx
    by_cases hlt : k < l.length
    · obtain ⟨b, off, rfl, hc⟩ := hrd.some_ (by simp; omega)
      have hck := hc k (.int .i64 l[k]) (by simp [hlt])
      clear hc
      have HD := Lib.hid (show l.drop k = l[k] :: l.drop (k + 1) from List.drop_eq_getElem_cons hlt)
      generalize l[k] = x at *
      have hcl := kall1_any (w := w) x n B hB
      cases he : Mod.ty x n with
      | false =>
        rw [he] at hcl
        have HC := Lib.hid hcl; clear hcl
        have HE := Lib.hid he; clear he
        go_wp2_with (go_at_call 76; refine HC.out.mono ?_; rintro e w' ⟨rfl, rfl⟩)
        go_returns
        exact ⟨ret_int (by rw [HX.out, HD.out, Mod.bad, if_neg (by rw [HE.out]; decide)]), rfl⟩
      | true =>
        rw [he] at hcl
        have HC := Lib.hid hcl; clear hcl
        have HE := Lib.hid he; clear he
        go_wp2_with (go_at_call 76; refine HC.out.mono ?_; rintro e w' ⟨rfl, rfl⟩)
        go_round
        case rel => exact ⟨k + 1, by go_num, by omega, by rw [HX.out, HD.out, Mod.bad, if_pos HE.out]⟩
        case measure => simp [intOf]; omega
    · have hkl : k = l.length := by omega
      subst hkl
      go_wp2
      go_returns
      exact ⟨ret_int (by rw [HX.out]; simp [Mod.bad]), rfl⟩

theorem kall_any (n : Int) (l : List Int) (ao : Option Addr) (cap : Nat) (hm : l.length ≤ maxLen) (hA : At w0 w L) (hrd : Rd w ao (l.map (Value.int .i64))) :
    Calls Try.prog 60 #[.slice ao l.length cap, .int .i64 n] w fun e w' => e = .returned (.bool (Mod.tys l n)) ∧ At w0 w' L := by
  have hA1 := hA.alloc (.cells #[.int .i64 n] 3)
  have hB := hA1.cell 0
  have hrd1 : Rd (w.alloc (.cells #[.int .i64 n] 3)) ao (l.map (Value.int .i64)) := by
    rcases hrd with h | ⟨b, off, e, h⟩
    · exact .inl h
    · exact .inr ⟨b, off, e, fun j u hj => ((Below.refl _ w).alloc (Nat.le_refl _) _).cell (World.block_lt_of_cell? w _ (h j u hj)) |>.trans (h j u hj)⟩
  have hidx := kindex_any n w.heap.size hB l ao cap hm hrd1
  have HI := Lib.hid hidx; clear hidx
  have hba := Mod.bad_all (fun t => Mod.ty t n) l 0
  have hty : Mod.tys l n = !decide (0 ≤ Mod.bad (fun t => Mod.ty t n) l 0) := by rw [hba]; simp [Mod.tys]
  rw [hty]
  clear hba hty
  have hcf : Calls Try.prog 75 #[.slice ao l.length cap, .func (.func 76) #[] #[.pointer (some ⟨w.heap.size, 0, none⟩)]] (w.alloc (.cells #[.int .i64 n] 3)) fun e w' => e = .returned (.bool (decide (0 ≤ Mod.bad (fun t => Mod.ty t n) l 0))) ∧ w.alloc (.cells #[.int .i64 n] 3) = w' := by
    go_enter Try.func75, Try.ntmps75
    go_wp2_with (go_at_call 84; refine HI.out.mono ?_; rintro e w' ⟨rfl, rfl⟩)
    go_returns
    exact ⟨rfl, rfl⟩
  have HCF := Lib.hid hcf; clear hcf
  go_enter Try.func60, Try.ntmps60
  go_wp2_with (go_at_call 75; refine HCF.out.mono ?_; rintro e w' ⟨rfl, rfl⟩)
  go_returns
  exact ⟨rfl, hA1.drop⟩

theorem rkall_any (n : Int) (l : List Int) (ao : Option Addr) (cap : Nat) (hm : l.length ≤ maxLen) (hrd : Rd w ao (l.map (Value.int .i64))) :
    Calls Try.prog 73 #[.slice ao l.length cap, .int .i64 n] w fun e w' => e = .returned (.bool (Mod.tys l n)) ∧ w = w' := by
  unfold maxLen at hm
  go_enter Try.func73, Try.ntmps73
  go_wp2
  go_loop [5] (fun i => ∃ k : Nat, i = .int .i64 k ∧ k ≤ l.length ∧ Mod.tys l n = Mod.tys (l.drop k) n) (fun i => l.length - (intOf i).toNat)
  case atStart => exact ⟨0, rfl, by omega, rfl⟩
  case round =>
    obtain ⟨k, rfl, hk, hx⟩ := hrel
    have HX := Lib.hid hx; clear hx
    by_cases hlt : k < l.length
    · obtain ⟨b, off, rfl, hc⟩ := hrd.some_ (by simp; omega)
      have hck := hc k (.int .i64 l[k]) (by simp [hlt])
      clear hc
      have HD := Lib.hid (show l.drop k = l[k] :: l.drop (k + 1) from List.drop_eq_getElem_cons hlt)
      generalize l[k] = x at *
      have hcl := fun w => rkright_any x n w
      cases he : Mod.ty x n with
      | false =>
        rw [he] at hcl
        have HC := Lib.hid hcl; clear hcl
        have HE := Lib.hid he; clear he
        go_wp2_with (go_at_call 83; refine (HC.out _).mono ?_; rintro e w' ⟨rfl, rfl⟩)
        go_returns
        exact ⟨ret_bool (by rw [HX.out, HD.out]; simp [Mod.tys, HE.out]), rfl⟩
      | true =>
        rw [he] at hcl
        have HC := Lib.hid hcl; clear hcl
        have HE := Lib.hid he; clear he
        go_wp2_with (go_at_call 83; refine (HC.out _).mono ?_; rintro e w' ⟨rfl, rfl⟩)
        go_round
        case rel => exact ⟨k + 1, by go_num, by omega, by rw [HX.out, HD.out]; simp [Mod.tys, HE.out]⟩
        case measure => simp [intOf]; omega
    · have hkl : k = l.length := by omega
      subst hkl
      go_wp2
      go_returns
      exact ⟨ret_bool (by rw [HX.out]; simp [Mod.tys]), rfl⟩
end
end Go.Proofs.Ytebolbjbfnolpab
