/-
  The contracts of the reel's reader.
-/
import Derived.Test.YtebolbjbfnolpabReelW
import Derived.Laws.BitsAllLaws
import Derived.Laws.Bits64b
namespace Go.Proofs.Ytebolbjbfnolpab
open Go.RowKit HP

def ReaderC (a : Nat) (R : Reel.R) : HP := one a (.cells #[.string (str R.text), .int .i64 R.pos, .int .i64 R.err] 81 (0, 0))

section
variable {w0 w : World} {L : List HP} {a : Nat} {R : Reel.R}

theorem rnew_any (text : List UInt8) (hA : At w0 w L) :
    Calls Try.prog 10 #[.string (str text)] w fun e w' => ∃ a, e = .returned (.pointer (some ⟨a, 0, none⟩)) ∧ At w0 w' (ReaderC a (Reel.read text) :: L) := by
  go_enter Try.func10, Try.ntmps10
  go_wp2
  go_returns
  exact ⟨_, rfl, hA.alloc _⟩

theorem rfail_any {t : List UInt8} {x y : Value} (e : Int) (p : Nat) (hA : At w0 w (one a (.cells #[.string (str t), x, y] 81 (0, 0)) :: L)) :
    Calls Try.prog 58 #[.pointer (some ⟨a, 0, none⟩), .int .i64 e, .int .i64 p] w fun e' w' => e' = .returned (.tuple #[]) ∧ At w0 w' (ReaderC a ⟨t, p, e⟩ :: L) := by
  have c1 := At.cell hA 1
  have c2 := At.cell hA 2
  have f1 := At.free hA 1
  have f2 := At.free hA 2
  go_enter Try.func58, Try.ntmps58
  go_wp2
  go_returns
  exact ⟨rfl, At.setCell (At.setCell hA 2 _) 1 _⟩

theorem rleft_any (hp : R.pos ≤ R.text.length) (hl : R.text.length ≤ 140737488355328) (hA : At w0 w (ReaderC a R :: L)) :
    Calls Try.prog 42 #[.pointer (some ⟨a, 0, none⟩)] w fun e w' => e = .returned (.int .i64 R.left) ∧ ∃ n, w' = w.drewN n := by
  have c0 := At.cell hA 0
  have c1 := At.cell hA 1
  have hs : (str R.text).size = R.text.length := rfl
  go_enter Try.func42, Try.ntmps42
  go_wp2
  go_quiet (fail)
  go_wp2
  go_returns
  exact ⟨ret_int (by unfold Reel.R.left; omega), _, rfl⟩
theorem rleft_nil (w : World) :
    Calls Try.prog 42 #[.pointer none] w fun e w' => e = .returned (.int .i64 0) ∧ w = w' := by
  go_enter Try.func42, Try.ntmps42
  go_wp2
  go_returns
  exact ⟨rfl, rfl⟩

theorem rend_any (hp : R.pos ≤ R.text.length) (hl : R.text.length ≤ 140737488355328) (hA : At w0 w (ReaderC a R :: L)) :
    Calls Try.prog 15 #[.pointer (some ⟨a, 0, none⟩)] w fun e w' => e = .returned (.int .i64 R.fin) ∧ ∃ n, w' = w.drewN n := by
  have c2 := At.cell hA 2
  by_cases he : R.err = 0
  · have HE : (R.err != 0) = false := by simp [he]
    by_cases hz : 0 < R.left
    · go_enter Try.func15, Try.ntmps15
      go_wp2_with (go_at_call 42; refine (rleft_any hp hl hA).mono ?_; rintro e w' ⟨rfl, n, rfl⟩)
      go_returns
      exact ⟨ret_int (by rw [Reel.R.fin, if_pos he, if_pos hz]), _, rfl⟩
    · go_enter Try.func15, Try.ntmps15
      go_wp2_with (go_at_call 42; refine (rleft_any hp hl hA).mono ?_; rintro e w' ⟨rfl, n, rfl⟩)
      go_returns
      exact ⟨ret_int (by rw [Reel.R.fin, if_pos he, if_neg (by omega)]), _, rfl⟩
  · have HE : (R.err != 0) = true := by simp [he]
    go_enter Try.func15, Try.ntmps15
    go_wp2
    go_returns
    exact ⟨ret_int (by rw [Reel.R.fin, if_neg he]), 0, rfl⟩
theorem rend_nil (w : World) :
    Calls Try.prog 15 #[.pointer none] w fun e w' => e = .returned (.int .i64 1) ∧ w = w' := by
  go_enter Try.func15, Try.ntmps15
  go_wp2
  go_returns
  exact ⟨rfl, rfl⟩

theorem run_index_str (l : List UInt8) (k : Nat) (i : Int) (hi : i = (k : Int)) (c : UInt8) (hc : l[k]? = some c) (w : World) :
    (Instr.index 9 (.string (str l)) (.int .i64 i)).run Try.prog w = .ok (.int .u8 (c.toNat : Int)) w := by
  subst hi
  obtain ⟨h, e⟩ := List.getElem?_eq_some_iff.1 hc
  have h' : k < (str l).size := h
  rw [run_index_string (h := under_str)]
  simp [h']
  exact congrArg (fun x : UInt8 => (x.toNat : Int)) e
theorem str_get (l : List UInt8) (k : Nat) (h : k < (str l).size) : (str l)[k] = l[k]'h := rfl

theorem u8_clear : ∀ x : Fin 256, bits BinOp.andNot IntKind.u8 (x.val : Int) 128 = ((x.val % 128 : Nat) : Int) := by decide +kernel
theorem num_or (k acc : Nat) (c : UInt8) (hk : k ≤ 9) (hacc : acc < 128 ^ k) (h9 : k = 9 → c.toNat ≤ 1) :
    bits BinOp.or IntKind.u64 (acc : Int) (IntKind.u64.wrap (IntKind.u64.wrap (bits BinOp.andNot IntKind.u8 (c.toNat : Int) 128) * 2 ^ (7 * k))) = ((acc + 128 ^ k * (c.toNat % 128) : Nat) : Int) := by
  have h1 := u8_clear ⟨c.toNat, c.toNat_lt⟩
  simp only at h1
  rw [h1]
  have hm : c.toNat % 128 < 128 := Nat.mod_lt _ (by decide)
  have hp : (2 : Nat) ^ (7 * k) = 128 ^ k := by rw [Nat.pow_mul]
  have hle : 128 ^ k * (c.toNat % 128) < 18446744073709551616 := by
    by_cases e : k = 9
    · subst e
      have := h9 rfl
      have h2 : c.toNat % 128 ≤ 1 := by omega
      have := Nat.mul_le_mul_left (128 ^ 9) h2
      exact Nat.lt_of_le_of_lt this (by decide)
    · have h8 : 128 ^ k ≤ 128 ^ 8 := Nat.pow_le_pow_right (by decide) (by omega)
      have h3 := Nat.mul_le_mul h8 (show c.toNat % 128 ≤ 127 by omega)
      exact Nat.lt_of_le_of_lt h3 (by decide)
  have hacc' : acc < 18446744073709551616 := Nat.lt_of_lt_of_le hacc (Nat.le_trans (Nat.pow_le_pow_right (by decide) hk) (by decide))
  have e1 : IntKind.u64.wrap (((c.toNat % 128 : Nat) : Int)) = ((c.toNat % 128 : Nat) : Int) := by rw [IntKind.wrap_u64]; omega
  have e2 : ((c.toNat % 128 : Nat) : Int) * 2 ^ (7 * k) = ((128 ^ k * (c.toNat % 128) : Nat) : Int) := by
    rw [← hp]; push_cast; rw [Int.mul_comm]
  have e3 : IntKind.u64.wrap ((128 ^ k * (c.toNat % 128) : Nat) : Int) = ((128 ^ k * (c.toNat % 128) : Nat) : Int) := by
    rw [IntKind.wrap_u64]; generalize 128 ^ k * (c.toNat % 128) = q at *; omega
  rw [e1, e2, e3, bits_or_u64_nat _ _ hacc' hle]
  congr 1
  rw [Nat.add_comm, Nat.or_comm]
  exact nat_join (7 * k) _ _ (by rw [hp, Nat.mul_mod_right]) (by rw [hp]; exact hacc)
theorem num_or9 (acc : Nat) (c : UInt8) (hacc : acc < 128 ^ 9) (h9 : c.toNat ≤ 1) :
    bits BinOp.or IntKind.u64 (acc : Int) (IntKind.u64.wrap (IntKind.u64.wrap (bits BinOp.andNot IntKind.u8 (c.toNat : Int) 128) * 9223372036854775808)) = ((acc + 128 ^ 9 * (c.toNat % 128) : Nat) : Int) :=
  num_or 9 acc c (by omega) hacc fun _ => h9

set_option maxHeartbeats 2000000 in
set_option maxRecDepth 100000 in
theorem rnum_any (hp : R.pos ≤ R.text.length) (hl : R.text.length ≤ 140737488355328) (hA : At w0 w (ReaderC a R :: L)) :
    Calls Try.prog 38 #[.pointer (some ⟨a, 0, none⟩)] w fun e w' => e = .returned (.int .u64 R.num.1) ∧ At w0 w' (ReaderC a R.num.2 :: L) := by
  have c0 := At.cell hA 0
  have c1 := At.cell hA 1
  have c2 := At.cell hA 2
  by_cases he : R.err = 0
  · have HE : (R.err != 0) = false := by simp [he]
    go_enter Try.func38, Try.ntmps38
    go_wp2
    go_loopw [4, 5] (fun nv iv wr => ∃ (k acc : Nat), nv = .int .u64 acc ∧ iv = .int .i64 k ∧ k ≤ 9 ∧ acc < 128 ^ k ∧ R.pos + k ≤ R.text.length ∧
        At w0 wr (ReaderC a { R with pos := R.pos + k } :: L) ∧ Reel.comb k acc (Reel.rdNum k (R.text.drop (R.pos + k))) = Reel.rdNum 0 (R.text.drop R.pos))
      (fun _ iv _ => 10 - (intOf iv).toNat)
    case atStart => exact ⟨0, 0, rfl, rfl, by omega, by simp, by omega, hA, Reel.comb_zero _⟩
    case round =>
      obtain ⟨k, acc, rfl, rfl, hk, hacc, hpk, hAr, hc⟩ := hrel
      clear c0 c1 c2
      have c0 := At.cell hAr 0
      have c1 := At.cell hAr 1
      have f1 := At.free hAr 1
      have HC := Lib.hid hc; clear hc
      have HACC := Lib.hid hacc; clear hacc
      have hs : (str R.text).size = R.text.length := rfl
      by_cases hend : R.pos + k = R.text.length
      · go_wp2
        go_quiet (fail)
        go_wp2_with (go_at_call 58; refine (rfail_any 2 R.pos (hAr.drewN _)).mono ?_; rintro e w' ⟨rfl, hA2⟩)
        go_returns
        have hc := HC.out
        rw [List.drop_of_length_le (by omega), Reel.comb_nil] at hc
        rw [Reel.R.num, if_pos he, if_neg (by rw [← hc]; decide), ← hc]
        exact ⟨rfl, hA2⟩
      · obtain ⟨c, hc⟩ : ∃ c, R.text[R.pos + k]? = some c := ⟨_, List.getElem?_eq_getElem (by omega)⟩
        have hix := run_index_str R.text (R.pos + k) ((R.pos : Int) + k) (by omega) c hc
        have hdrop : R.text.drop (R.pos + k) = c :: R.text.drop (R.pos + (k + 1)) := by
          obtain ⟨h, e⟩ := List.getElem?_eq_some_iff.1 hc
          rw [List.drop_eq_getElem_cons h, e]; rfl
        have HD := Lib.hid hdrop; clear hdrop
        have HCC := Lib.hid hc; clear hc
        have hor := num_or k acc c hk HACC.out
        rcases Nat.lt_or_ge 8 k with h9 | h9
        · obtain rfl : k = 9 := by omega
          clear hor hix
          have hor := num_or9 acc c HACC.out
          have hix := run_index_str R.text (R.pos + 9) ((R.pos : Int) + 9) (by omega) c HCC.out
          rcases Nat.lt_or_ge 1 c.toNat with h1 | h1
          · clear hor
            go_wp2
            go_quiet (fail)
            go_wp2
            go_quiet (fail)
            go_wp2_with (go_at_call 58; refine (rfail_any 4 R.pos (At.setCell (hAr.drewN _) 1 _)).mono ?_; rintro e w' ⟨rfl, hA2⟩)
            go_returns
            have hc := HC.out
            rw [HD.out, Reel.comb_bad (by omega)] at hc
            rw [Reel.R.num, if_pos he, if_neg (by rw [← hc]; decide), ← hc]
            exact ⟨rfl, hA2⟩
          · rcases Nat.lt_or_ge 0 c.toNat with h0 | h0
            · have hz : ((c.toNat : Int) == 0) = false := by simp; omega
              replace hor := hor (by omega)
              go_wp2
              go_quiet (fail)
              go_wp2
              go_quiet (fail)
              go_wp2
              go_returns
              have hc := HC.out
              rw [HD.out, Reel.comb_end (by omega) (by omega)] at hc
              rw [Reel.R.num, if_pos he, if_pos (by rw [← hc]), ← hc]
              have e1 : ((acc : Int) + 9223372036854775808 * ((c.toNat : Int) % 128)) = ((acc + 128 ^ 9 * c.toNat : Nat) : Int) := by rw [show (128 : Nat) ^ 9 = 9223372036854775808 from rfl]; omega
              have e2 : ((R.pos : Int) + 9 + 1) = ((R.pos + (9 + 1) : Nat) : Int) := by omega
              rw [e2]
              exact ⟨ret_int e1, At.setCell (hAr.drewN _) 1 _⟩
            · have hz : ((c.toNat : Int) == 0) = true := by simp; omega
              clear hor
              go_wp2
              go_quiet (fail)
              go_wp2
              go_quiet (fail)
              go_wp2_with (go_at_call 58; refine (rfail_any 4 R.pos (At.setCell (hAr.drewN _) 1 _)).mono ?_; rintro e w' ⟨rfl, hA2⟩)
              go_returns
              have hc := HC.out
              rw [HD.out, Reel.comb_bad (by omega)] at hc
              rw [Reel.R.num, if_pos he, if_neg (by rw [← hc]; decide), ← hc]
              exact ⟨rfl, hA2⟩
        · rcases Nat.lt_or_ge 0 k with hk0 | hk0
          · rcases Nat.lt_or_ge 0 c.toNat with h0 | h0
            · rcases Nat.lt_or_ge c.toNat 128 with h128 | h128
              · replace hor := hor (by omega)
                go_wp2
                go_quiet (fail)
                go_wp2
                go_quiet (fail)
                go_wp2
                go_returns
                have hc := HC.out
                rw [HD.out, Reel.comb_end (by omega) (by omega)] at hc
                rw [Reel.R.num, if_pos he, if_pos (by rw [← hc]), ← hc]
                have e1 : ((acc : Int) + 128 ^ k * ((c.toNat : Int) % 128)) = ((acc + 128 ^ k * c.toNat : Nat) : Int) := by rw [Int.emod_eq_of_lt (by omega) (by omega)]; push_cast; rfl
                have e2 : ((R.pos : Int) + k + 1) = ((R.pos + (k + 1) : Nat) : Int) := by omega
                rw [e2]
                exact ⟨ret_int e1, At.setCell (hAr.drewN _) 1 _⟩
              · replace hor := hor (by omega)
                go_wp2
                go_quiet (fail)
                go_wp2
                go_quiet (fail)
                go_wp2
                go_roundw
                case rel =>
                  have e2 : ((R.pos : Int) + k + 1) = ((R.pos + (k + 1) : Nat) : Int) := by omega
                  have hc := HC.out
                  rw [HD.out, Reel.comb_step (by omega) (by omega)] at hc
                  rw [e2]
                  exact ⟨k + 1, acc + 128 ^ k * (c.toNat % 128), by push_cast; rfl, by push_cast; rfl, by omega, Reel.acc_step HACC.out, by omega, At.setCell (hAr.drewN _) 1 _, hc⟩
                case measure => simp [intOf]; omega
            · clear hor
              go_wp2
              go_quiet (fail)
              go_wp2
              go_quiet (fail)
              go_wp2_with (go_at_call 58; refine (rfail_any 4 R.pos (At.setCell (hAr.drewN _) 1 _)).mono ?_; rintro e w' ⟨rfl, hA2⟩)
              go_returns
              have hc := HC.out
              rw [HD.out, Reel.comb_bad (by omega)] at hc
              rw [Reel.R.num, if_pos he, if_neg (by rw [← hc]; decide), ← hc]
              exact ⟨rfl, hA2⟩
          · rcases Nat.lt_or_ge c.toNat 128 with h128 | h128
            · replace hor := hor (by omega)
              go_wp2
              go_quiet (fail)
              go_wp2
              go_quiet (fail)
              go_wp2
              go_returns
              have hc := HC.out
              rw [HD.out, Reel.comb_end (by omega) (by omega)] at hc
              rw [Reel.R.num, if_pos he, if_pos (by rw [← hc]), ← hc]
              have e1 : ((acc : Int) + 128 ^ k * ((c.toNat : Int) % 128)) = ((acc + 128 ^ k * c.toNat : Nat) : Int) := by rw [Int.emod_eq_of_lt (by omega) (by omega)]; push_cast; rfl
              have e2 : ((R.pos : Int) + k + 1) = ((R.pos + (k + 1) : Nat) : Int) := by omega
              rw [e2]
              exact ⟨ret_int e1, At.setCell (hAr.drewN _) 1 _⟩
            · replace hor := hor (by omega)
              go_wp2
              go_quiet (fail)
              go_wp2
              go_quiet (fail)
              go_wp2
              go_roundw
              case rel =>
                have e2 : ((R.pos : Int) + k + 1) = ((R.pos + (k + 1) : Nat) : Int) := by omega
                have hc := HC.out
                rw [HD.out, Reel.comb_step (by omega) (by omega)] at hc
                rw [e2]
                exact ⟨k + 1, acc + 128 ^ k * (c.toNat % 128), by push_cast; rfl, by push_cast; rfl, by omega, Reel.acc_step HACC.out, by omega, At.setCell (hAr.drewN _) 1 _, hc⟩
              case measure => simp [intOf]; omega
  · have HE : (R.err != 0) = true := by simp [he]
    go_enter Try.func38, Try.ntmps38
    go_wp2
    go_returns
    rw [Reel.R.num, if_neg he]
    exact ⟨rfl, hA⟩
end

end Go.Proofs.Ytebolbjbfnolpab
