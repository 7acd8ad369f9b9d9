/-
  The contracts of the reference's writer (the rest) and reader.
-/
import Derived.Test.YtebolbjbfnolpabReelRef
import Derived.Test.YtebolbjbfnolpabReelR2
import Derived.Deep.DeepFit
namespace Go.Proofs.Ytebolbjbfnolpab
open Go.RowKit HP

section
variable {w0 w : World} {L : List HP} {a : Nat} {W : Reel.W}

theorem wbyte_put (W : Reel.W) (n : Int) (b : Bool) (hb : b = (decide (0 ≤ n) && decide (n ≤ 255))) : W.put [UInt8.ofNat (n % 256).toNat] b = W.byte n := by
  subst hb
  unfold Reel.W.put Reel.W.byte
  by_cases he : W.err = 0
  · rw [if_pos he, if_pos he]
    by_cases h : n < 0 ∨ 255 < n
    · rw [if_pos h, if_neg (by simp; omega)]
    · rw [if_neg h, if_pos (by simp; omega)]
      congr 3; omega
  · rw [if_neg he, if_neg he]

theorem runfold_any (n : Nat) (hn : U64 n) (w : World) :
    Calls Try.prog 72 #[.int .u64 n] w fun e w' => e = .returned (.int .i64 (Reel.unfold_ n)) ∧ w = w' := by
  have HN := Lib.hid hn; clear hn
  rcases Nat.mod_two_eq_zero_or_one n with h | h
  · have hb : (((n : Int) % 2) == 1) = false := by simp; omega
    have HH := Lib.hid h; clear h
    go_enter Try.func72, Try.ntmps72
    go_wp2
    go_returns
    refine ⟨ret_int ?_, rfl⟩
    have hn := HN.out
    have hh := HH.out
    unfold U64 at hn
    simp only [IntKind.wrap_u64]
    unfold wrap64 Reel.unfold_
    split <;> omega
  · have hb : (((n : Int) % 2) == 1) = true := by simp; omega
    have HH := Lib.hid h; clear h
    go_enter Try.func72, Try.ntmps72
    go_wp2
    go_returns
    refine ⟨ret_int ?_, rfl⟩
    have hn := HN.out
    have hh := HH.out
    unfold U64 at hn
    simp only [IntKind.wrap_u64]
    unfold wrap64 Reel.unfold_
    split <;> omega
end

def RReaderC (a : Nat) (R : Reel.R) : HP := one a (.cells #[.string (str (R.text.drop R.pos)), .int .i64 R.err] 53 (0, 0))

section
variable {w0 w : World} {L : List HP} {a : Nat} {R : Reel.R}

theorem rrend_any (hA : At w0 w (RReaderC a R :: L)) :
    Calls Try.prog 22 #[.pointer (some ⟨a, 0, none⟩)] w fun e w' => e = .returned (.int .i64 R.fin) ∧ w = w' := by
  have c0 := At.cell hA 0
  have c1 := At.cell hA 1
  have hs : (str (R.text.drop R.pos)).size = R.text.length - R.pos := by rw [str_size]; simp
  by_cases he : R.err = 0
  · have HE : (R.err != 0) = false := by simp [he]
    by_cases hz : 0 < R.left
    · have hz' : 0 < R.text.length - R.pos := hz
      go_enter Try.func22, Try.ntmps22
      go_wp2
      go_returns
      exact ⟨ret_int (by rw [Reel.R.fin, if_pos he, if_pos hz]), rfl⟩
    · have hz' : ¬ 0 < R.text.length - R.pos := hz
      go_enter Try.func22, Try.ntmps22
      go_wp2
      go_returns
      exact ⟨ret_int (by rw [Reel.R.fin, if_pos he, if_neg hz]), rfl⟩
  · have HE : (R.err != 0) = true := by simp [he]
    go_enter Try.func22, Try.ntmps22
    go_wp2
    go_returns
    exact ⟨ret_int (by rw [Reel.R.fin, if_neg he]), rfl⟩

theorem num_sum (k acc : Nat) (c : UInt8) (hk : k ≤ 9) (hacc : acc < 128 ^ k) (h9 : k = 9 → c.toNat ≤ 1) :
    IntKind.u64.wrap ((acc : Int) + IntKind.u64.wrap ((c.toNat : Int) % 128 * 2 ^ (7 * k))) = ((acc + 128 ^ k * (c.toNat % 128) : Nat) : Int) := by
  have hp : (2 : Nat) ^ (7 * k) = 128 ^ k := by rw [Nat.pow_mul]
  have hle : acc + 128 ^ k * (c.toNat % 128) < 18446744073709551616 := by
    by_cases e : k = 9
    · subst e
      have := h9 rfl
      have h2 : c.toNat % 128 ≤ 1 := by omega
      have := Nat.mul_le_mul_left (128 ^ 9) h2
      have h3 : (128 : Nat) ^ 9 = 9223372036854775808 := rfl
      rw [h3] at *
      omega
    · have h8 : 128 ^ k ≤ 128 ^ 8 := Nat.pow_le_pow_right (by decide) (by omega)
      have h3 := Nat.mul_le_mul h8 (show c.toNat % 128 ≤ 127 by omega)
      have h4 : (128 : Nat) ^ 8 = 72057594037927936 := rfl
      rw [h4] at *
      omega
  have e2 : ((c.toNat : Int) % 128) * 2 ^ (7 * k) = ((128 ^ k * (c.toNat % 128) : Nat) : Int) := by
    rw [← hp]; push_cast; rw [Int.mul_comm]
  rw [e2, IntKind.wrap_u64, IntKind.wrap_u64]
  generalize 128 ^ k * (c.toNat % 128) = q at *
  omega
theorem num_sum9 (acc : Nat) (c : UInt8) (hacc : acc < 128 ^ 9) (h9 : c.toNat ≤ 1) :
    IntKind.u64.wrap ((acc : Int) + (c.toNat : Int) % 128 * 9223372036854775808) = ((acc + 128 ^ 9 * (c.toNat % 128) : Nat) : Int) := by
  have := num_sum 9 acc c (by omega) hacc fun _ => h9
  rw [← this, show ((2 : Int) ^ (7 * 9)) = 9223372036854775808 from by decide +kernel]
  simp only [IntKind.wrap_u64]
  omega

set_option maxHeartbeats 2000000 in
set_option maxRecDepth 100000 in
/-- the number at a text's beginning -/
theorem rrnumber_any (l : List UInt8) (hl : l.length ≤ 140737488355328) (w : World) :
    Calls Try.prog 68 #[.string (str l)] w fun e w' => e = .returned (.tuple #[.int .u64 (Reel.rdNum 0 l).2.1, .int .i64 (Reel.rdNum 0 l).2.2, .int .i64 (Reel.rdNum 0 l).1]) ∧ w = w' := by
  have hs : (str l).size = l.length := rfl
  go_enter Try.func68, Try.ntmps68
  go_wp2
  go_loopw [5, 6] (fun nv iv wr => ∃ (k acc : Nat), nv = .int .u64 acc ∧ iv = .int .i64 k ∧ k ≤ 9 ∧ acc < 128 ^ k ∧ k ≤ l.length ∧ w = wr ∧
        Reel.comb k acc (Reel.rdNum k (l.drop k)) = Reel.rdNum 0 l)
      (fun _ iv _ => 10 - (intOf iv).toNat)
  case atStart => exact ⟨0, 0, rfl, rfl, by omega, by simp, by omega, rfl, Reel.comb_zero _⟩
  case round =>
    obtain ⟨k, acc, rfl, rfl, hk, hacc, hpk, rfl, hc⟩ := hrel
    have HC := Lib.hid hc; clear hc
    have HACC := Lib.hid hacc; clear hacc
    by_cases hend : l.length ≤ k
    · have h1 : decide ((k : Int) < (l.length : Int)) = false := by simp; omega
      go_wp2
      go_returns
      have hc := HC.out
      rw [List.drop_of_length_le hend, Reel.comb_nil] at hc
      rw [← hc]
      exact ⟨rfl, rfl⟩
    · obtain ⟨c, hc⟩ : ∃ c, l[k]? = some c := ⟨_, List.getElem?_eq_getElem (by omega)⟩
      have hix := run_index_str l k (k : Int) rfl c hc
      have hdrop : l.drop k = c :: l.drop (k + 1) := by
        obtain ⟨h, e⟩ := List.getElem?_eq_some_iff.1 hc
        rw [List.drop_eq_getElem_cons h, e]
      have HD := Lib.hid hdrop; clear hdrop
      have HCC := Lib.hid hc; clear hc
      have hlt := c.toNat_lt
      have hwr : IntKind.u64.wrap (c.toNat : Int) = (c.toNat : Int) := by rw [IntKind.wrap_u64]; omega
      have hsum := num_sum k acc c hk HACC.out
      rcases Nat.lt_or_ge 8 k with h9 | h9
      · obtain rfl : k = 9 := by omega
        clear hsum hix
        have hsum := num_sum9 acc c HACC.out
        have hix := run_index_str l 9 9 rfl c HCC.out
        rcases Nat.lt_or_ge 1 c.toNat with h1 | h1
        · clear hsum
          go_wp2
          go_returns
          have hc := HC.out
          rw [HD.out, Reel.comb_bad (by omega)] at hc
          rw [← hc]
          exact ⟨rfl, rfl⟩
        · rcases Nat.lt_or_ge 0 c.toNat with h0 | h0
          · replace hsum := hsum (by omega)
            have hz : ((c.toNat : Int) == 0) = false := by simp; omega
            go_wp2
            go_returns
            have hc := HC.out
            rw [HD.out, Reel.comb_end (by omega) (by omega)] at hc
            rw [← hc]
            exact ⟨ret_int3 (by show (acc : Int) + 9223372036854775808 * ((c.toNat : Int) % 128) = ((acc + 128 ^ 9 * c.toNat : Nat) : Int); rw [show (128 : Nat) ^ 9 = 9223372036854775808 from rfl]; omega) rfl rfl, rfl⟩
          · clear hsum
            have hz : ((c.toNat : Int) == 0) = true := by simp; omega
            go_wp2
            go_returns
            have hc := HC.out
            rw [HD.out, Reel.comb_bad (by omega)] at hc
            rw [← hc]
            exact ⟨rfl, rfl⟩
      · replace hsum := hsum (by omega)
        have h9' : ((k : Int) == 9) = false := by simp; omega
        rcases Nat.lt_or_ge 0 c.toNat with h0 | h0
        · have hz : ((c.toNat : Int) == 0) = false := by simp; omega
          rcases Nat.lt_or_ge c.toNat 128 with h128 | h128
          · skip
            go_wp2
            go_returns
            have hc := HC.out
            rw [HD.out, Reel.comb_end (by omega) (by omega)] at hc
            rw [← hc]
            exact ⟨ret_int3 (by rw [Int.emod_eq_of_lt (by omega) (by omega)]; push_cast; rfl) (by push_cast; rfl) rfl, rfl⟩
          · skip
            go_wp2
            go_roundw
            case rel =>
              have hc := HC.out
              rw [HD.out, Reel.comb_step (by omega) (by omega)] at hc
              exact ⟨k + 1, acc + 128 ^ k * (c.toNat % 128), by push_cast; rfl, by push_cast; rfl, by omega, Reel.acc_step HACC.out, by omega, by first | rfl | trivial, hc⟩
            case measure => simp [intOf]; omega
        · have hz : ((c.toNat : Int) == 0) = true := by simp; omega
          rcases Nat.lt_or_ge 0 k with hk0 | hk0
          · skip
            go_wp2
            go_returns
            have hc := HC.out
            rw [HD.out, Reel.comb_bad (by omega)] at hc
            rw [← hc]
            exact ⟨rfl, rfl⟩
          · skip
            go_wp2
            go_returns
            have hc := HC.out
            rw [HD.out, Reel.comb_end (by omega) (by omega)] at hc
            rw [← hc]
            exact ⟨ret_int3 (by rw [Int.emod_eq_of_lt (by omega) (by omega)]; push_cast; rfl) (by push_cast; rfl) rfl, rfl⟩
end

end Go.Proofs.Ytebolbjbfnolpab
