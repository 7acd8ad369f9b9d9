/-
  The plain laws of the reel's numbers: what is written is read again, what is read is written as it stood.
-/
import Derived.Test.YtebolbjbfnolpabReelFns
namespace Go.Proofs.Ytebolbjbfnolpab
namespace Reel

theorem R.byte_text (R : Reel.R) : R.byte.2.text = R.text := by
  unfold Reel.R.byte; split
  · split <;> rfl
  · rfl
theorem R.byte_pos (R : Reel.R) (h : R.pos ≤ R.text.length) : R.byte.2.pos ≤ R.text.length := by
  unfold Reel.R.byte; split
  · split
    · exact h
    · rename_i c r hd
      have := congrArg List.length hd
      simp at this ⊢; omega
  · exact h
theorem R.txt_text (R : Reel.R) : R.txt.2.text = R.text := by
  unfold Reel.R.txt; split
  · split
    · exact R.num_text
    · rfl
  · exact R.num_text
theorem R.txt_pos (R : Reel.R) (h : R.pos ≤ R.text.length) : R.txt.2.pos ≤ R.text.length := by
  have := R.num_pos h
  unfold Reel.R.txt; split
  · split
    · simp only; omega
    · exact h
  · exact this
/-- A number behind its first byte is no zero. -/
theorem rdNum_pos (l : List UInt8) : ∀ i, 0 < i → (rdNum i l).1 = 0 → 0 < (rdNum i l).2.1 := by
  induction l with
  | nil => intro i _ h; simp [rdNum] at h
  | cons c r ih =>
    intro i hi h
    simp only [rdNum] at h ⊢
    split at h
    · simp at h
    · rename_i h1
      rw [if_neg h1]
      split at h
      · rename_i h2; rw [if_pos h2]; simp only; omega
      · rename_i h2
        rw [if_neg h2]
        split at h
        · rename_i h3
          rw [if_pos h3]
          have := ih (i + 1) (by omega) h3
          simp only; omega
        · rename_i h3; exact absurd h h3
/-- What was read as a number is how the number is written. -/
theorem rdNum_digits (l : List UInt8) : ∀ i, (rdNum i l).1 = 0 → digits (rdNum i l).2.1 = l.take (rdNum i l).2.2 := by
  induction l with
  | nil => intro i h; simp [rdNum] at h
  | cons c r ih =>
    intro i h
    have hc := c.toNat_lt
    simp only [rdNum] at h ⊢
    split at h
    · simp at h
    · rename_i h1
      rw [if_neg h1]
      split at h
      · rename_i h2; rw [if_pos h2]; simp only; rw [digits_small h2]; simp
      · rename_i h2
        rw [if_neg h2]
        split at h
        · rename_i h3
          rw [if_pos h3]
          have hp := rdNum_pos r (i + 1) (by omega) h3
          have := ih (i + 1) h3
          simp only
          rw [digits_big (by omega), show (c.toNat % 128 + 128 * (rdNum (i + 1) r).2.1) % 128 = c.toNat % 128 by omega, show (c.toNat % 128 + 128 * (rdNum (i + 1) r).2.1) / 128 = (rdNum (i + 1) r).2.1 by omega, this,
            show c.toNat % 128 + 128 = c.toNat by omega]
          simp
        · rename_i h3; exact absurd h h3
/-- A number that was written is read. -/
theorem rdNum_of (r : List UInt8) : ∀ i n, i ≤ 9 → (0 < i → 0 < n) → n < 2 ^ (64 - 7 * i) → rdNum i (digits n ++ r) = (0, n, (digits n).length) := by
  suffices ∀ n i, i ≤ 9 → (0 < i → 0 < n) → n < 2 ^ (64 - 7 * i) → rdNum i (digits n ++ r) = (0, n, (digits n).length) from fun i n => this n i
  intro n
  induction n using Nat.strongRecOn with
  | _ n ih =>
    intro i hi h0 hn
    by_cases hs : n < 128
    · rw [digits_small hs]
      have e : (UInt8.ofNat n).toNat = n := by simp; omega
      simp only [List.singleton_append, rdNum, e]
      rw [if_neg, if_pos hs]
      · rfl
      · rintro (⟨rfl, h1⟩ | ⟨h1, h2⟩)
        · simp at hn; omega
        · have := h0 h1; omega
    · rw [digits_big hs]
      have e : (UInt8.ofNat (n % 128 + 128)).toNat = n % 128 + 128 := by simp; omega
      have hi9 : i ≠ 9 := by rintro rfl; simp at hn; omega
      have hn2 : n / 128 < 2 ^ (64 - 7 * (i + 1)) := by
        rw [Nat.div_lt_iff_lt_mul (by decide), show (128 : Nat) = 2 ^ 7 from rfl, ← Nat.pow_add, show 64 - 7 * (i + 1) + 7 = 64 - 7 * i by omega]
        exact hn
      have := ih (n / 128) (by omega) (i + 1) (by omega) (by omega) hn2
      simp only [List.cons_append, rdNum, e, this]
      rw [if_neg (by omega), if_neg (by omega), if_pos trivial]
      simp
      omega

theorem fold_unfold (n : Nat) : fold (unfold_ n) = n := by
  unfold fold unfold_
  split <;> split <;> omega
theorem unfold_fold (n : Int) : unfold_ (fold n) = n := by
  unfold fold unfold_
  split <;> split <;> omega

end Reel
end Go.Proofs.Ytebolbjbfnolpab
