/-
  What the reel's writer does, as plain functions on lists of bytes.
-/
namespace Go.Proofs.Ytebolbjbfnolpab
namespace Reel
/-- A number's bytes: seven bits a byte, the lowest first. -/
def digits (n : Nat) : List UInt8 :=
  if n < 128 then [UInt8.ofNat n] else UInt8.ofNat (n % 128 + 128) :: digits (n / 128)
decreasing_by omega

theorem digits_small {n : Nat} (h : n < 128) : digits n = [UInt8.ofNat n] := by rw [digits, if_pos h]
theorem digits_big {n : Nat} (h : ¬ n < 128) : digits n = UInt8.ofNat (n % 128 + 128) :: digits (n / 128) := by rw [digits, if_neg h]
theorem digits_pos (n : Nat) : 0 < (digits n).length := by
  by_cases h : n < 128
  · rw [digits_small h]; simp
  · rw [digits_big h]; simp
/-- no more bytes than the number wants -/
theorem digits_len (k : Nat) : ∀ n, n < 128 ^ (k + 1) → (digits n).length ≤ k + 1 := by
  induction k with
  | zero => intro n h; rw [digits_small (by simpa using h)]; simp
  | succ k ih =>
    intro n h
    by_cases hs : n < 128
    · rw [digits_small hs]; simp
    · rw [digits_big hs]
      have : n / 128 < 128 ^ (k + 1) := by
        rw [Nat.div_lt_iff_lt_mul (by decide)]; rw [Nat.pow_succ] at h; exact h
      have := ih _ this
      simp; omega
theorem digits_len10 {n : Nat} (h : n < 18446744073709551616) : (digits n).length ≤ 10 :=
  digits_len 9 n (Nat.lt_of_lt_of_le h (by decide))

/-- what stands behind a last byte c and what is left of the number -/
def tail_ (c : UInt8) (m : Nat) : List UInt8 := if m = 0 then [c] else UInt8.ofNat (c.toNat + 128) :: digits m
theorem tail_eq (n : Nat) : tail_ (UInt8.ofNat (n % 128)) (n / 128) = digits n := by
  unfold tail_
  by_cases h : n < 128
  · rw [digits_small h, if_pos (by omega), Nat.mod_eq_of_lt h]
  · rw [digits_big h, if_neg (by omega)]
    congr 2
    simp; omega
theorem tail_pos (c : UInt8) (m : Nat) : 0 < (tail_ c m).length := by unfold tail_; split <;> simp
theorem tail_step {c : UInt8} {m : Nat} (h : 0 < m) : tail_ c m = UInt8.ofNat (c.toNat + 128) :: tail_ (UInt8.ofNat (m % 128)) (m / 128) := by
  rw [tail_eq]; unfold tail_; rw [if_neg (by omega)]
theorem tail_zero {c : UInt8} (_h : c.toNat < 128) : tail_ c 0 = [c] := rfl

/-- A writer: what was written, how many bytes more may be, the error. -/
structure W where
  out : List UInt8
  room : Int
  err : Int

def W.add (w : W) (b : List UInt8) : W := if w.room < b.length then { w with err := 3 } else { w with out := w.out ++ b, room := w.room - b.length }
def W.num (w : W) (n : Nat) : W := if w.err = 0 then w.add (digits n) else w
/-- a number with a sign as one without -/
def fold (n : Int) : Nat := if 0 ≤ n then (2 * n).toNat else (-2 * n - 1).toNat
def W.int (w : W) (n : Int) : W := w.num (fold n)
def W.byte (w : W) (n : Int) : W := if w.err = 0 then (if n < 0 ∨ 255 < n then { w with err := 4 } else w.add [UInt8.ofNat n.toNat]) else w
def W.text (w : W) (s : List UInt8) : W := if w.err = 0 then (if 65535 < s.length then { w with err := 4 } else w.add (digits s.length ++ s)) else w
def W.done (w : W) : List UInt8 × Int := if w.err = 0 then (w.out, 0) else ([], w.err)
def W.put (w : W) (l : List UInt8) (right : Bool) : W := if w.err = 0 then (if right then w.add l else { w with err := 4 }) else w
def new (limit : Int) : W := ⟨[], max limit 0, 0⟩

/-- A number at the beginning of a text (behind i bytes of it): the error, the number, how many bytes it has. -/
def rdNum (i : Nat) : List UInt8 → Int × Nat × Nat
  | [] => (2, 0, 0)
  | c :: r =>
    if (i = 9 ∧ 1 < c.toNat) ∨ (0 < i ∧ c.toNat = 0) then (4, 0, 0)
    else if c.toNat < 128 then (0, c.toNat, 1)
    else if (rdNum (i + 1) r).1 = 0 then (0, c.toNat % 128 + 128 * (rdNum (i + 1) r).2.1, (rdNum (i + 1) r).2.2 + 1) else ((rdNum (i + 1) r).1, 0, 0)
/-- .. with what has come already -/
def comb (k acc : Nat) (p : Int × Nat × Nat) : Int × Nat × Nat := if p.1 = 0 then (0, acc + 128 ^ k * p.2.1, k + p.2.2) else (p.1, 0, 0)
theorem rdNum_err (i : Nat) (l : List UInt8) (h : (rdNum i l).1 ≠ 0) : rdNum i l = ((rdNum i l).1, 0, 0) := by
  induction l generalizing i with
  | nil => rfl
  | cons c r ih =>
    simp only [rdNum] at h ⊢
    split
    · rfl
    · rename_i h1
      rw [if_neg h1] at h
      split
      · rename_i h2; rw [if_pos h2] at h; simp at h
      · rename_i h2
        rw [if_neg h2] at h
        split
        · rename_i h3; rw [if_pos h3] at h; simp at h
        · rfl
theorem comb_zero (l : List UInt8) : comb 0 0 (rdNum 0 l) = rdNum 0 l := by
  unfold comb
  by_cases h : (rdNum 0 l).1 = 0
  · rw [if_pos h]; simp [← h]
  · rw [if_neg h]; exact (rdNum_err 0 l h).symm
theorem comb_nil (k acc : Nat) : comb k acc (rdNum k []) = (2, 0, 0) := by simp [comb, rdNum]
theorem comb_bad {k acc : Nat} {c : UInt8} {r : List UInt8} (h : (k = 9 ∧ 1 < c.toNat) ∨ (0 < k ∧ c.toNat = 0)) : comb k acc (rdNum k (c :: r)) = (4, 0, 0) := by
  simp only [rdNum, if_pos h, comb]; simp
theorem comb_end {k acc : Nat} {c : UInt8} {r : List UInt8} (h : ¬ ((k = 9 ∧ 1 < c.toNat) ∨ (0 < k ∧ c.toNat = 0))) (h2 : c.toNat < 128) : comb k acc (rdNum k (c :: r)) = (0, acc + 128 ^ k * c.toNat, k + 1) := by
  simp only [rdNum, if_neg h, if_pos h2, comb]; simp
theorem comb_step {k acc : Nat} {c : UInt8} {r : List UInt8} (h : ¬ ((k = 9 ∧ 1 < c.toNat) ∨ (0 < k ∧ c.toNat = 0))) (h2 : ¬ c.toNat < 128) :
    comb k acc (rdNum k (c :: r)) = comb (k + 1) (acc + 128 ^ k * (c.toNat % 128)) (rdNum (k + 1) r) := by
  simp only [rdNum, if_neg h, if_neg h2, comb]
  by_cases h3 : (rdNum (k + 1) r).1 = 0
  · simp only [h3, if_true, Nat.pow_succ, Nat.mul_add]
    refine Prod.ext rfl (Prod.ext ?_ ?_)
    · simp only [Nat.mul_assoc]; omega
    · simp; omega
  · simp only [h3, if_false]

theorem acc_step {k acc : Nat} {c : UInt8} (h : acc < 128 ^ k) : acc + 128 ^ k * (c.toNat % 128) < 128 ^ (k + 1) := by
  have h1 : c.toNat % 128 ≤ 127 := by omega
  have h2 := Nat.mul_le_mul_left (128 ^ k) h1
  rw [Nat.pow_succ]; omega

theorem rdNum_fits (l : List UInt8) : ∀ i, i ≤ 9 → (rdNum i l).1 = 0 → (rdNum i l).2.1 + 1 ≤ 2 ^ (64 - 7 * i) := by
  induction l with
  | nil => intro i _ h; simp [rdNum] at h
  | cons c r ih =>
    intro i hi h
    simp only [rdNum] at h ⊢
    have hc := c.toNat_lt
    split at h
    · simp at h
    · rename_i h1
      rw [if_neg h1]
      split at h
      · rename_i h2
        rw [if_pos h2]
        simp only
        by_cases e : i = 9
        · subst e
          have : c.toNat ≤ 1 := by omega
          simp; omega
        · have h7 : 2 ^ 8 ≤ 2 ^ (64 - 7 * i) := Nat.pow_le_pow_right (by decide) (by omega)
          omega
      · rename_i h2
        rw [if_neg h2]
        split at h
        · rename_i h3
          rw [if_pos h3]
          simp only
          have e : i ≠ 9 := by rintro rfl; exact h1 (.inl ⟨rfl, by omega⟩)
          have := ih (i + 1) (by omega) h3
          have hp : 2 ^ (64 - 7 * i) = 128 * 2 ^ (64 - 7 * (i + 1)) := by
            rw [show 64 - 7 * i = 7 + (64 - 7 * (i + 1)) by omega, Nat.pow_add]
          rw [hp]
          have := Nat.mul_le_mul_left 128 this
          omega
        · rename_i h3; exact absurd h h3

/-- A reader: the text, where it stands, the error. -/
structure R where
  text : List UInt8
  pos : Nat
  err : Int
def R.num (r : R) : Nat × R :=
  if r.err = 0 then
    (if (rdNum 0 (r.text.drop r.pos)).1 = 0 then ((rdNum 0 (r.text.drop r.pos)).2.1, { r with pos := r.pos + (rdNum 0 (r.text.drop r.pos)).2.2 })
     else (0, { r with err := (rdNum 0 (r.text.drop r.pos)).1 }))
  else (0, r)
theorem R.num_fits (r : R) : r.num.1 < 18446744073709551616 := by
  unfold R.num
  split
  · split
    · rename_i h; have := rdNum_fits _ 0 (by decide) h; simp only; omega
    · simp
  · simp
theorem rdNum_size (l : List UInt8) : ∀ i, (rdNum i l).2.2 ≤ l.length := by
  induction l with
  | nil => intro i; simp [rdNum]
  | cons c r ih =>
    intro i
    simp only [rdNum]
    split
    · simp
    · split
      · simp
      · split
        · have := ih (i + 1); simp; omega
        · simp
theorem R.num_text (r : R) : r.num.2.text = r.text := by
  unfold R.num; split
  · split <;> rfl
  · rfl
theorem R.num_pos (r : R) (h : r.pos ≤ r.text.length) : r.num.2.pos ≤ r.text.length := by
  unfold R.num; split
  · split
    · have := rdNum_size (r.text.drop r.pos) 0; simp at this ⊢; omega
    · exact h
  · exact h
/-- a number without a sign as one with -/
def unfold_ (n : Nat) : Int := if n % 2 = 0 then (n / 2 : Nat) else -((n / 2 : Nat) : Int) - 1
def R.int (r : R) : Int × R := (unfold_ r.num.1, r.num.2)
def R.byte (r : R) : Int × R :=
  if r.err = 0 then (match r.text.drop r.pos with | [] => (0, { r with err := 2 }) | c :: _ => ((c.toNat : Int), { r with pos := r.pos + 1 })) else (0, r)
def R.txt (r : R) : List UInt8 × R :=
  if r.num.2.err = 0 then
    (if r.num.1 ≤ r.text.length - r.num.2.pos then (((r.text.drop r.num.2.pos).take r.num.1), { r.num.2 with pos := r.num.2.pos + r.num.1 })
     else ([], { r with err := 2 }))
  else ([], r.num.2)
def R.left (r : R) : Nat := r.text.length - r.pos
def R.fin (r : R) : Int := if r.err = 0 then (if 0 < r.left then 5 else 0) else r.err
def read (text : List UInt8) : R := ⟨text, 0, 0⟩

end Reel
end Go.Proofs.Ytebolbjbfnolpab
