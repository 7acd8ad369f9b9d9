/-
  The contracts of the reference's writer (the rest) and reader.
-/
import Derived.Test.YtebolbjbfnolpafReelRef
import Derived.Test.YtebolbjbfnolpafReelR2
import Derived.Deep.DeepFit
namespace Go.Proofs.Ytebolbjbfnolpaf
open Go.RowKit HP

section
variable {w0 w : World} {L : List HP} {a : Nat} {W : Reel.W}

theorem wbyte_put (W : Reel.W) (n : Int) (b : Bool) (hb : b = (decide (0 ≤ n) && decide (n ≤ 255))) : W.put [UInt8.ofNat (n % 256).toNat] b = W.byte n := by
  subst hb
  unfold Reel.W.put Reel.W.byte
  by_cases he : W.err = 0
  · rw [if_pos he, if_pos he]
    by_cases h : n < 0 ∨ 255 < n
    · rw [if_pos h, if_neg (by simp; omega)]
    · rw [if_neg h, if_pos (by simp; omega)]
      congr 3; omega
  · rw [if_neg he, if_neg he]

end

section
variable {w0 w : World} {L : List HP} {a : Nat} {R : Reel.R}

theorem num_sum (k acc : Nat) (c : UInt8) (hk : k ≤ 9) (hacc : acc < 128 ^ k) (h9 : k = 9 → c.toNat ≤ 1) :
    IntKind.u64.wrap ((acc : Int) + IntKind.u64.wrap ((c.toNat : Int) % 128 * 2 ^ (7 * k))) = ((acc + 128 ^ k * (c.toNat % 128) : Nat) : Int) := by
  have hp : (2 : Nat) ^ (7 * k) = 128 ^ k := by rw [Nat.pow_mul]
  have hle : acc + 128 ^ k * (c.toNat % 128) < 18446744073709551616 := by
    by_cases e : k = 9
    · subst e
      have := h9 rfl
      have h2 : c.toNat % 128 ≤ 1 := by omega
      have := Nat.mul_le_mul_left (128 ^ 9) h2
      have h3 : (128 : Nat) ^ 9 = 9223372036854775808 := rfl
      rw [h3] at *
      omega
    · have h8 : 128 ^ k ≤ 128 ^ 8 := Nat.pow_le_pow_right (by decide) (by omega)
      have h3 := Nat.mul_le_mul h8 (show c.toNat % 128 ≤ 127 by omega)
      have h4 : (128 : Nat) ^ 8 = 72057594037927936 := rfl
      rw [h4] at *
      omega
  have e2 : ((c.toNat : Int) % 128) * 2 ^ (7 * k) = ((128 ^ k * (c.toNat % 128) : Nat) : Int) := by
    rw [← hp]; push_cast; rw [Int.mul_comm]
  rw [e2, IntKind.wrap_u64, IntKind.wrap_u64]
  generalize 128 ^ k * (c.toNat % 128) = q at *
  omega
theorem num_sum9 (acc : Nat) (c : UInt8) (hacc : acc < 128 ^ 9) (h9 : c.toNat ≤ 1) :
    IntKind.u64.wrap ((acc : Int) + (c.toNat : Int) % 128 * 9223372036854775808) = ((acc + 128 ^ 9 * (c.toNat % 128) : Nat) : Int) := by
  have := num_sum 9 acc c (by omega) hacc fun _ => h9
  rw [← this, show ((2 : Int) ^ (7 * 9)) = 9223372036854775808 from by decide +kernel]
  simp only [IntKind.wrap_u64]
  omega

end

end Go.Proofs.Ytebolbjbfnolpaf
