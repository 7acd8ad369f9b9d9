/-
  The plain laws of the reel: what is written is read again, what is read is written as it stood.
-/
import Derived.Test.YtohlphclhjmcaaaLawsB
namespace Go.Proofs.Ytohlphclhjmcaaa
namespace Reel

theorem R.byte_text (R : Reel.R) : R.byte.2.text = R.text := by
  unfold Reel.R.byte; split
  · split <;> rfl
  · rfl
theorem R.byte_pos (R : Reel.R) (h : R.pos ≤ R.text.length) : R.byte.2.pos ≤ R.text.length := by
  unfold Reel.R.byte; split
  · split
    · exact h
    · rename_i c r hd
      have := congrArg List.length hd
      simp at this ⊢; omega
  · exact h
theorem R.txt_text (R : Reel.R) : R.txt.2.text = R.text := by
  unfold Reel.R.txt; split
  · split
    · exact R.num_text
    · rfl
  · exact R.num_text
theorem R.txt_pos (R : Reel.R) (h : R.pos ≤ R.text.length) : R.txt.2.pos ≤ R.text.length := by
  have := R.num_pos h
  unfold Reel.R.txt; split
  · split
    · simp only; omega
    · exact h
  · exact this
theorem R.read1_text (R : Reel.R) (k : Int) : (R.read1 k).text = R.text := by
  unfold Reel.R.read1; split
  · exact R.num_text
  · split
    · exact R.num_text
    · split
      · exact R.byte_text
      · exact R.txt_text
theorem R.read1_pos (R : Reel.R) (k : Int) (h : R.pos ≤ R.text.length) : (R.read1 k).pos ≤ (R.read1 k).text.length := by
  rw [R.read1_text]
  unfold Reel.R.read1; split
  · exact R.num_pos h
  · split
    · exact R.num_pos h
    · split
      · exact R.byte_pos h
      · exact R.txt_pos h

/-- A number behind its first byte is no zero. -/
theorem rdNum_pos (l : List UInt8) : ∀ i, 0 < i → (rdNum i l).1 = 0 → 0 < (rdNum i l).2.1 := by
  induction l with
  | nil => intro i _ h; simp [rdNum] at h
  | cons c r ih =>
    intro i hi h
    simp only [rdNum] at h ⊢
    split at h
    · simp at h
    · rename_i h1
      rw [if_neg h1]
      split at h
      · rename_i h2; rw [if_pos h2]; simp only; omega
      · rename_i h2
        rw [if_neg h2]
        split at h
        · rename_i h3
          rw [if_pos h3]
          have := ih (i + 1) (by omega) h3
          simp only; omega
        · rename_i h3; exact absurd h h3
/-- What was read as a number is how the number is written. -/
theorem rdNum_digits (l : List UInt8) : ∀ i, (rdNum i l).1 = 0 → digits (rdNum i l).2.1 = l.take (rdNum i l).2.2 := by
  induction l with
  | nil => intro i h; simp [rdNum] at h
  | cons c r ih =>
    intro i h
    have hc := c.toNat_lt
    simp only [rdNum] at h ⊢
    split at h
    · simp at h
    · rename_i h1
      rw [if_neg h1]
      split at h
      · rename_i h2; rw [if_pos h2]; simp only; rw [digits_small h2]; simp
      · rename_i h2
        rw [if_neg h2]
        split at h
        · rename_i h3
          rw [if_pos h3]
          have hp := rdNum_pos r (i + 1) (by omega) h3
          have := ih (i + 1) h3
          simp only
          rw [digits_big (by omega), show (c.toNat % 128 + 128 * (rdNum (i + 1) r).2.1) % 128 = c.toNat % 128 by omega, show (c.toNat % 128 + 128 * (rdNum (i + 1) r).2.1) / 128 = (rdNum (i + 1) r).2.1 by omega, this,
            show c.toNat % 128 + 128 = c.toNat by omega]
          simp
        · rename_i h3; exact absurd h h3
/-- A number that was written is read. -/
theorem rdNum_of (r : List UInt8) : ∀ i n, i ≤ 9 → (0 < i → 0 < n) → n < 2 ^ (64 - 7 * i) → rdNum i (digits n ++ r) = (0, n, (digits n).length) := by
  suffices ∀ n i, i ≤ 9 → (0 < i → 0 < n) → n < 2 ^ (64 - 7 * i) → rdNum i (digits n ++ r) = (0, n, (digits n).length) from fun i n => this n i
  intro n
  induction n using Nat.strongRecOn with
  | _ n ih =>
    intro i hi h0 hn
    by_cases hs : n < 128
    · rw [digits_small hs]
      have e : (UInt8.ofNat n).toNat = n := by simp; omega
      simp only [List.singleton_append, rdNum, e]
      rw [if_neg, if_pos hs]
      · rfl
      · rintro (⟨rfl, h1⟩ | ⟨h1, h2⟩)
        · simp at hn; omega
        · have := h0 h1; omega
    · rw [digits_big hs]
      have e : (UInt8.ofNat (n % 128 + 128)).toNat = n % 128 + 128 := by simp; omega
      have hi9 : i ≠ 9 := by rintro rfl; simp at hn; omega
      have hn2 : n / 128 < 2 ^ (64 - 7 * (i + 1)) := by
        rw [Nat.div_lt_iff_lt_mul (by decide), show (128 : Nat) = 2 ^ 7 from rfl, ← Nat.pow_add, show 64 - 7 * (i + 1) + 7 = 64 - 7 * i by omega]
        exact hn
      have := ih (n / 128) (by omega) (i + 1) (by omega) (by omega) hn2
      simp only [List.cons_append, rdNum, e, this]
      rw [if_neg (by omega), if_neg (by omega), if_pos trivial]
      simp
      omega

theorem fold_unfold (n : Nat) : fold (unfold_ n) = n := by
  unfold fold unfold_
  split <;> split <;> omega
theorem unfold_fold (n : Int) : unfold_ (fold n) = n := by
  unfold fold unfold_
  split <;> split <;> omega

end Reel

/-- An item's bytes; whether it has any. -/
def Item.enc (x : Item) : List UInt8 :=
  if x.k % 4 = 0 then Reel.digits x.u else if x.k % 4 = 1 then Reel.digits (Reel.fold x.n) else if x.k % 4 = 2 then [UInt8.ofNat x.n.toNat] else Reel.digits x.s.length ++ x.s
def Item.Ok (x : Item) : Prop := (x.k % 4 = 2 → 0 ≤ x.n ∧ x.n ≤ 255) ∧ (x.k % 4 = 3 → x.s.length ≤ 65535)

namespace Reel
theorem W.write_bad (W : Reel.W) (x : Item) (h : W.err ≠ 0) : W.write x = W := by
  unfold Reel.W.write Reel.W.int Reel.W.num Reel.W.byte Reel.W.text
  simp [h]
theorem W.write_ok (W : Reel.W) (x : Item) (h : W.err = 0) (hx : x.Ok) : W.write x = W.add x.enc := by
  obtain ⟨h2, h3⟩ := hx
  unfold Reel.W.write Reel.W.int Reel.W.num Reel.W.byte Reel.W.text Item.enc
  simp only [h, if_true]
  split
  · rfl
  · split
    · rfl
    · split
      · rename_i hk; have := h2 hk; rw [if_neg (by omega)]
      · rw [if_neg (by have := h3 (by omega); omega)]
theorem W.write_no (W : Reel.W) (x : Item) (h : W.err = 0) (hx : ¬ x.Ok) : W.write x = { W with err := 4 } := by
  unfold Reel.W.write Reel.W.int Reel.W.num Reel.W.byte Reel.W.text
  simp only [h, if_true]
  have hx' : (x.k % 4 = 2 ∧ ¬ (0 ≤ x.n ∧ x.n ≤ 255)) ∨ (x.k % 4 = 3 ∧ ¬ x.s.length ≤ 65535) := by
    unfold Item.Ok at hx
    by_cases a : x.k % 4 = 2 <;> by_cases b : x.k % 4 = 3 <;> simp_all
  rcases hx' with ⟨h2, h3⟩ | ⟨h2, h3⟩
  · rw [if_neg (by omega), if_neg (by omega), if_pos h2, if_pos (by omega)]
  · rw [if_neg (by omega), if_neg (by omega), if_neg (by omega), if_pos (by omega)]
theorem W.add_keep (W : Reel.W) (l : List UInt8) : (W.add l).room + (W.add l).out.length = W.room + W.out.length := by
  unfold Reel.W.add; split
  · rfl
  · simp; omega
theorem W.add_room (W : Reel.W) (l : List UInt8) (h : 0 ≤ W.room) : 0 ≤ (W.add l).room := by
  unfold Reel.W.add; split
  · exact h
  · simp only; omega
theorem W.write_keep (W : Reel.W) (x : Item) : (W.write x).room + (W.write x).out.length = W.room + W.out.length := by
  by_cases h : W.err = 0
  · by_cases hx : x.Ok
    · rw [W.write_ok x h hx]; exact W.add_keep _
    · rw [W.write_no x h hx]
  · rw [W.write_bad x h]
theorem W.write_room (W : Reel.W) (x : Item) (h0 : 0 ≤ W.room) : 0 ≤ (W.write x).room := by
  by_cases h : W.err = 0
  · by_cases hx : x.Ok
    · rw [W.write_ok x h hx]; exact W.add_room _ h0
    · rw [W.write_no x h hx]; exact h0
  · rw [W.write_bad x h]; exact h0
theorem enc_len (x : Item) (hx : x.Fits) (ho : x.Ok) : x.enc.length ≤ 65546 := by
  have h1 := digits_len10 (show x.u < 18446744073709551616 from hx.u)
  have h2 := digits_len10 (show fold x.n < 18446744073709551616 from fold_fits x.n hx.n0 hx.n1)
  have h4 := ho.2
  have h3 : x.k % 4 = 3 → (digits x.s.length).length ≤ 10 := fun h => digits_len10 (by have := h4 h; omega)
  unfold Item.enc
  split
  · omega
  · split
    · omega
    · split
      · simp
      · have := h3 (by omega); have := h4 (by omega); simp; omega
theorem W.write_len (W : Reel.W) (x : Item) (hx : x.Fits) : (W.write x).out.length ≤ W.out.length + 65546 := by
  by_cases h : W.err = 0
  · by_cases ho : x.Ok
    · rw [W.write_ok x h ho]
      have := enc_len x hx ho
      unfold Reel.W.add; split
      · simp
      · simp; omega
    · rw [W.write_no x h ho]; simp
  · rw [W.write_bad x h]; simp
/-- Without an error behind it: there was none, the item has bytes, there was room, and they were written. -/
theorem W.write_err (W : Reel.W) (x : Item) (h : (W.write x).err = 0) : W.err = 0 ∧ x.Ok ∧ (x.enc.length : Int) ≤ W.room ∧ (W.write x).out = W.out ++ x.enc ∧ (W.write x).room = W.room - x.enc.length := by
  by_cases h0 : W.err = 0
  · by_cases ho : x.Ok
    · rw [W.write_ok x h0 ho] at h ⊢
      unfold Reel.W.add at h ⊢
      split at h
      · simp at h
      · rename_i h1; rw [if_neg h1]; exact ⟨h0, ho, by omega, rfl, rfl⟩
    · rw [W.write_no x h0 ho] at h; simp at h
  · rw [W.write_bad x h0] at h; exact absurd h h0
theorem W.write_fit (W : Reel.W) (x : Item) (h : W.err = 0) (ho : x.Ok) (hl : (x.enc.length : Int) ≤ W.room) : (W.write x).err = 0 ∧ (W.write x).out = W.out ++ x.enc := by
  rw [W.write_ok x h ho]
  unfold Reel.W.add
  rw [if_neg (by omega)]
  exact ⟨h, rfl⟩

/-- What was read so far, written, is the text so far. -/
def Only (t : List UInt8) (R : Reel.R) (W : Reel.W) : Prop :=
  R.text = t ∧ R.pos ≤ t.length ∧ 0 ≤ W.room ∧ W.room + W.out.length = t.length ∧ (R.err = 0 → (W.err = 0 ∧ W.out = t.take R.pos) ∨ (W.err = 4 ∧ 65535 < t.length))

theorem W.num_keep (W : Reel.W) (n : Nat) : (W.num n).room + (W.num n).out.length = W.room + W.out.length := by
  unfold Reel.W.num; split
  · exact W.add_keep _
  · rfl
theorem W.num_room (W : Reel.W) (n : Nat) (h : 0 ≤ W.room) : 0 ≤ (W.num n).room := by
  unfold Reel.W.num; split
  · exact W.add_room _ h
  · exact h

theorem only_add {t : List UInt8} {R : Reel.R} {W : Reel.W} (h : Only t R W) (he : W.err = 0) (ho : W.out = t.take R.pos) (p : Nat) (hp : p ≤ t.length) (l : List UInt8) (hl : t.take p = t.take R.pos ++ l) :
    (W.add l).err = 0 ∧ (W.add l).out = t.take p := by
  obtain ⟨_, h1, h2, h3, _⟩ := h
  have e := congrArg List.length hl
  rw [ho] at h3
  simp at e h3
  unfold Reel.W.add
  rw [if_neg (by omega)]
  exact ⟨he, by rw [hl, ← ho]⟩

theorem take_drop_take (t : List UInt8) (p s : Nat) : t.take (p + s) = t.take p ++ (t.drop p).take s := by
  rw [← List.take_append_drop p (t.take (p + s)), List.take_take, Nat.min_eq_left (by omega), List.drop_take]
  congr 2; omega

theorem only_num {t : List UInt8} {R : Reel.R} {W : Reel.W} (h : Only t R W) : Only t R.num.2 (W.num R.num.1) := by
  have h' := h
  obtain ⟨h1, h2, h3, h4, h5⟩ := h
  subst h1
  refine ⟨R.num_text, R.num_pos h2, W.num_room _ h3, (W.num_keep _).trans h4, fun he => ?_⟩
  have he0 : R.err = 0 := by
    by_cases z : R.err = 0
    · exact z
    · unfold Reel.R.num at he; rw [if_neg z] at he; exact he
  have hr : (rdNum 0 (R.text.drop R.pos)).1 = 0 := by
    unfold Reel.R.num at he; rw [if_pos he0] at he
    split at he
    · rename_i z; exact z
    · exact he
  have hsz := rdNum_size (R.text.drop R.pos) 0
  have hd := rdNum_digits _ 0 hr
  have e1 : R.num = ((rdNum 0 (R.text.drop R.pos)).2.1, { R with pos := R.pos + (rdNum 0 (R.text.drop R.pos)).2.2 }) := by
    unfold Reel.R.num; rw [if_pos he0, if_pos hr]
  rw [e1]
  simp only [List.length_drop] at hsz
  rcases h5 he0 with ⟨hw, ho⟩ | ⟨hw, ho⟩
  · refine .inl ?_
    simp only [Reel.W.num, hw, if_true]
    exact only_add h' hw ho _ (by omega) _ (by rw [hd]; exact take_drop_take _ _ _)
  · refine .inr ⟨?_, ho⟩
    simp [Reel.W.num, hw]
theorem only_int {t : List UInt8} {R : Reel.R} {W : Reel.W} (h : Only t R W) : Only t R.int.2 (W.int R.int.1) := by
  have := only_num h
  unfold Reel.W.int Reel.R.int
  simp only [fold_unfold]
  exact this
theorem only_byte {t : List UInt8} {R : Reel.R} {W : Reel.W} (h : Only t R W) : Only t R.byte.2 (W.byte R.byte.1) := by
  have h' := h
  obtain ⟨h1, h2, h3, h4, h5⟩ := h
  subst h1
  have hk : ∀ n : Int, (W.byte n).room + (W.byte n).out.length = W.room + W.out.length ∧ 0 ≤ (W.byte n).room := by
    intro n
    unfold Reel.W.byte; split
    · split
      · exact ⟨rfl, h3⟩
      · exact ⟨W.add_keep _, W.add_room _ h3⟩
    · exact ⟨rfl, h3⟩
  refine ⟨R.byte_text, R.byte_pos h2, (hk _).2, (hk _).1.trans h4, fun he => ?_⟩
  have he0 : R.err = 0 := by
    by_cases z : R.err = 0
    · exact z
    · unfold Reel.R.byte at he; rw [if_neg z] at he; exact he
  cases hd : R.text.drop R.pos with
  | nil => simp only [Reel.R.byte, he0, if_true, hd] at he; simp at he
  | cons c r =>
    have e1 : R.byte = ((c.toNat : Int), { R with pos := R.pos + 1 }) := by unfold Reel.R.byte; rw [if_pos he0, hd]
    rw [e1]
    have hc := c.toNat_lt
    rcases h5 he0 with ⟨hw, ho⟩ | ⟨hw, ho⟩
    · refine .inl ?_
      have hlen := congrArg List.length hd
      simp at hlen
      have e2 : W.byte (c.toNat : Int) = W.add [c] := by
        unfold Reel.W.byte; rw [if_pos hw, if_neg (by omega)]; simp
      simp only
      rw [e2]
      exact only_add h' hw ho _ (by omega) _ (by rw [take_drop_take, hd]; rfl)
    · refine .inr ⟨?_, ho⟩
      simp [Reel.W.byte, hw]
theorem only_txt {t : List UInt8} {R : Reel.R} {W : Reel.W} (h : Only t R W) : Only t R.txt.2 (W.text R.txt.1) := by
  have h' := h
  obtain ⟨h1, h2, h3, h4, h5⟩ := h
  subst h1
  have hk : ∀ s, (W.text s).room + (W.text s).out.length = W.room + W.out.length ∧ 0 ≤ (W.text s).room := by
    intro n
    unfold Reel.W.text; split
    · split
      · exact ⟨rfl, h3⟩
      · exact ⟨W.add_keep _, W.add_room _ h3⟩
    · exact ⟨rfl, h3⟩
  refine ⟨R.txt_text, R.txt_pos h2, (hk _).2, (hk _).1.trans h4, fun he => ?_⟩
  have hne : R.num.2.err = 0 := by
    by_cases z : R.num.2.err = 0
    · exact z
    · unfold Reel.R.txt at he; rw [if_neg z] at he; exact he
  have he0 : R.err = 0 := by
    by_cases z : R.err = 0
    · exact z
    · unfold Reel.R.num at hne; rw [if_neg z] at hne; exact hne
  have hr : (rdNum 0 (R.text.drop R.pos)).1 = 0 := by
    unfold Reel.R.num at hne; rw [if_pos he0] at hne
    split at hne
    · rename_i z; exact z
    · exact hne
  have hsz := rdNum_size (R.text.drop R.pos) 0
  have hd := rdNum_digits _ 0 hr
  have e1 : R.num = ((rdNum 0 (R.text.drop R.pos)).2.1, { R with pos := R.pos + (rdNum 0 (R.text.drop R.pos)).2.2 }) := by
    unfold Reel.R.num; rw [if_pos he0, if_pos hr]
  simp only [List.length_drop] at hsz
  have hle : R.num.1 ≤ R.text.length - R.num.2.pos := by
    by_cases z : R.num.1 ≤ R.text.length - R.num.2.pos
    · exact z
    · unfold Reel.R.txt at he; rw [if_pos hne, if_neg z] at he; simp at he
  have e2 : R.txt = ((R.text.drop R.num.2.pos).take R.num.1, { R.num.2 with pos := R.num.2.pos + R.num.1 }) := by
    unfold Reel.R.txt; rw [if_pos hne, if_pos hle]
  rw [e2]
  rw [e1] at hle ⊢
  simp only at hle ⊢
  generalize rdNum 0 (R.text.drop R.pos) = q at *
  have hslen : ((R.text.drop (R.pos + q.2.2)).take q.2.1).length = q.2.1 := by simp; omega
  rcases h5 he0 with ⟨hw, ho⟩ | ⟨hw, ho⟩
  · by_cases hbig : 65535 < q.2.1
    · refine .inr ?_
      unfold Reel.W.text
      rw [if_pos hw, hslen, if_pos hbig]
      exact ⟨rfl, by omega⟩
    · refine .inl ?_
      unfold Reel.W.text
      rw [if_pos hw, hslen, if_neg hbig]
      exact only_add h' hw ho _ (by omega) _ (by rw [hd, ← List.append_assoc, ← take_drop_take, ← take_drop_take])
  · refine .inr ⟨?_, ho⟩
    simp [Reel.W.text, hw]
theorem only_end {t : List UInt8} {R : Reel.R} {W : Reel.W} (h : Only t R W) (hf : R.fin = 0) : (W.err = 0 ∧ W.out = t) ∨ (W.err = 4 ∧ 65535 < t.length) := by
  obtain ⟨h1, h2, h3, h4, h5⟩ := h
  subst h1
  unfold Reel.R.fin Reel.R.left at hf
  by_cases he : R.err = 0
  · rw [if_pos he] at hf
    split at hf
    · simp at hf
    · rcases h5 he with ⟨a, b⟩ | h
      · exact .inl ⟨a, by rw [b, List.take_of_length_le (by omega)]⟩
      · exact .inr h
  · rw [if_neg he] at hf; exact absurd hf he

/-- The reader before what was written. -/
def Back (t : List UInt8) (p : Nat) (R : Reel.R) : Prop := R.text = t ∧ R.pos = p ∧ R.err = 0
theorem back_num {t a r : List UInt8} {n : Nat} {R : Reel.R} (hn : n < 18446744073709551616) (h : Back t a.length R) (ht : t = a ++ (digits n ++ r)) : R.num = (n, { R with pos := (a ++ digits n).length }) := by
  obtain ⟨h1, h2, h3⟩ := h
  have hd : R.text.drop R.pos = digits n ++ r := by rw [h1, h2, ht, List.drop_left]
  unfold Reel.R.num
  rw [if_pos h3, hd, rdNum_of r 0 n (by decide) (by omega) (by simpa using hn), if_pos rfl, h2, List.length_append]
theorem back_int {t a r : List UInt8} {n : Int} {R : Reel.R} (hn : fold n < 18446744073709551616) (h : Back t a.length R) (ht : t = a ++ (digits (fold n) ++ r)) : R.int = (n, { R with pos := (a ++ digits (fold n)).length }) := by
  unfold Reel.R.int
  rw [back_num hn h ht, unfold_fold]
theorem back_byte {t a r : List UInt8} {n : Int} {R : Reel.R} (h0 : 0 ≤ n) (h9 : n ≤ 255) (h : Back t a.length R) (ht : t = a ++ ([UInt8.ofNat n.toNat] ++ r)) : R.byte = (n, { R with pos := (a ++ [UInt8.ofNat n.toNat]).length }) := by
  obtain ⟨h1, h2, h3⟩ := h
  have hd : R.text.drop R.pos = UInt8.ofNat n.toNat :: r := by rw [h1, h2, ht, List.drop_left]; rfl
  unfold Reel.R.byte
  rw [if_pos h3, hd]
  simp only [h2, List.length_append, List.length_singleton]
  refine Prod.ext ?_ rfl
  simp; omega
theorem back_txt {t a r s : List UInt8} {R : Reel.R} (hs : s.length < 18446744073709551616) (h : Back t a.length R) (ht : t = a ++ ((digits s.length ++ s) ++ r)) : R.txt = (s, { R with pos := (a ++ (digits s.length ++ s)).length }) := by
  have hn := back_num (r := s ++ r) hs h (by rw [ht]; simp)
  obtain ⟨h1, h2, h3⟩ := h
  unfold Reel.R.txt
  rw [hn]
  simp only [h1, h3, if_true]
  rw [if_pos (by rw [ht]; simp; omega)]
  refine Prod.ext ?_ ?_
  · rw [ht, show a ++ (digits s.length ++ s ++ r) = (a ++ digits s.length) ++ (s ++ r) by simp, List.drop_left, List.take_left]
  · simp; omega
end Reel
end Go.Proofs.Ytohlphclhjmcaaa
