/-
  The plain laws of the instructions: there and back, names.
-/
import Derived.Test.YtebolbjbfnolpabInstrFns
import Derived.Test.YtebolbjbfnolpabReelLaw0
namespace Go.Proofs.Ytebolbjbfnolpab
namespace Reel
/-- No beginning of a number's bytes is a number. -/
theorem rdNum_short : ∀ n i, i ≤ 9 → (0 < i → 0 < n) → n < 2 ^ (64 - 7 * i) → rdNum i (digits n).dropLast = (2, 0, 0) := by
  intro n
  induction n using Nat.strongRecOn with
  | _ n ih =>
    intro i hi h0 hn
    by_cases hs : n < 128
    · rw [digits_small hs]; rfl
    · have hne : digits (n / 128) ≠ [] := by
        intro e; have := digits_pos (n / 128); rw [e] at this; simp at this
      rw [digits_big hs, List.dropLast_cons_of_ne_nil hne]
      have e : (UInt8.ofNat (n % 128 + 128)).toNat = n % 128 + 128 := by simp; omega
      have hi9 : i ≠ 9 := by rintro rfl; simp at hn; omega
      have hn2 : n / 128 < 2 ^ (64 - 7 * (i + 1)) := by
        rw [Nat.div_lt_iff_lt_mul (by decide), show (128 : Nat) = 2 ^ 7 from rfl, ← Nat.pow_add, show 64 - 7 * (i + 1) + 7 = 64 - 7 * i by omega]
        exact hn
      have := ih (n / 128) (by omega) (i + 1) (by omega) (by omega) hn2
      simp only [rdNum, e, this]
      rw [if_neg (by omega), if_neg (by omega), if_neg (by decide)]
end Reel

namespace Instr
theorem fold64 (a : Int) (h3 : -9223372036854775808 ≤ a) (h4 : a ≤ 9223372036854775807) : Reel.fold a < 2 ^ (64 - 7 * 0) := by
  unfold Reel.fold; split <;> simp <;> omega
theorem ofNat_op {op : Int} (h0 : 0 ≤ op) (h1 : op ≤ 26) : ((UInt8.ofNat op.toNat).toNat : Int) = op := by
  have : op.toNat % 256 = op.toNat := by omega
  simp [this]; omega
theorem right_zero {op : Int} (h0 : 0 ≤ op) (h1 : op ≤ 26) (hh : has op = false) (a : Int) : right op a = decide (a = 0) := by
  have h1' : op ≠ 1 := by rintro rfl; simp [has] at hh
  rw [right, if_neg (by omega), if_neg h1', if_neg (by simp [hh])]

theorem read_bytes (op a : Int) (h3 : -9223372036854775808 ≤ a) (h4 : a ≤ 9223372036854775807) (hr : right op a = true) (behind : List UInt8) :
    read ((bytes op a).1 ++ behind) = (op, a, ((bytes op a).1.length : Int), 0) := by
  obtain ⟨h0, h26⟩ := right_op hr
  have hc := ofNat_op h0 h26
  rw [bytes, if_pos hr]
  cases hh : has op with
  | true =>
    simp only [if_true, List.cons_append, read, hc, hh]
    rw [if_neg (by omega), Reel.rdNum_of behind 0 (Reel.fold a) (by decide) (by omega) (fold64 a h3 h4)]
    simp only [Reel.unfold_fold, hr, if_true, List.length_cons]
    push_cast
    rw [show (1 : Int) + (Reel.digits (Reel.fold a)).length = (Reel.digits (Reel.fold a)).length + 1 by omega]
  | false =>
    have hz : a = 0 := by rw [right_zero h0 h26 hh] at hr; simpa using hr
    subst hz
    simp only [Bool.false_eq_true, if_false, List.cons_append, List.nil_append, read, hc, hh]
    rw [if_neg (by omega)]
    rfl

theorem read_short (op a : Int) (h3 : -9223372036854775808 ≤ a) (h4 : a ≤ 9223372036854775807) (hr : right op a = true) :
    read (bytes op a).1.dropLast = (0, 0, 0, 2) := by
  obtain ⟨h0, h26⟩ := right_op hr
  have hc := ofNat_op h0 h26
  rw [bytes, if_pos hr]
  cases hh : has op with
  | true =>
    have hne : Reel.digits (Reel.fold a) ≠ [] := by
      intro e; have := Reel.digits_pos (Reel.fold a); rw [e] at this; simp at this
    simp only [if_true]
    rw [List.dropLast_cons_of_ne_nil hne]
    simp only [read, hc, hh]
    rw [if_neg (by omega), Reel.rdNum_short (Reel.fold a) 0 (by decide) (by omega) (fold64 a h3 h4)]
    rfl
  | false => rfl

theorem read_no (t : List UInt8) (h : (read t).2.2.2 ≠ 0) : (read t).1 = 0 ∧ (read t).2.1 = 0 ∧ (read t).2.2.1 = 0 := by
  cases t with
  | nil => exact ⟨rfl, rfl, rfl⟩
  | cons c r =>
    simp only [read] at h ⊢
    by_cases h1 : 26 < (c.toNat : Int)
    · rw [if_pos h1]; exact ⟨rfl, rfl, rfl⟩
    rw [if_neg h1] at h ⊢
    cases h2 : has (c.toNat : Int) with
    | false => simp [h2] at h
    | true =>
      simp only [h2, if_true] at h ⊢
      by_cases h3 : (Reel.rdNum 0 r).1 = 0
      · rw [if_pos h3] at h ⊢
        cases h4 : right (c.toNat : Int) (Reel.unfold_ (Reel.rdNum 0 r).2.1) with
        | false => simp
        | true => simp [h4] at h
      · rw [if_neg h3]; exact ⟨rfl, rfl, rfl⟩

theorem read_ok (t : List UInt8) (h : (read t).2.2.2 = 0) : right (read t).1 (read t).2.1 = true ∧ bytes (read t).1 (read t).2.1 = (t.take (read t).2.2.1.toNat, 0) ∧ 0 < (read t).2.2.1 ∧ (read t).2.2.1 ≤ t.length ∧
    0 ≤ (read t).1 ∧ (read t).1 ≤ 26 ∧ -9223372036854775808 ≤ (read t).2.1 ∧ (read t).2.1 ≤ 9223372036854775807 := by
  cases t with
  | nil => simp [read] at h
  | cons c r =>
    have hc : UInt8.ofNat ((c.toNat : Int)).toNat = c := by simp
    simp only [read] at h ⊢
    by_cases hk : 26 < (c.toNat : Int)
    · rw [if_pos hk] at h; simp at h
    rw [if_neg hk] at h ⊢
    cases hh : has (c.toNat : Int) with
    | false =>
      have hr := right_zero (by omega) (by omega) hh 0
      simp only [Bool.false_eq_true, if_false]
      refine ⟨by rw [hr]; rfl, ?_, by decide, by simp; omega, by omega, by omega, by decide, by decide⟩
      rw [bytes, if_pos (by rw [hr]; rfl), hh, hc]
      simp
    | true =>
      simp only [hh, if_true] at h ⊢
      by_cases he : (Reel.rdNum 0 r).1 = 0
      · rw [if_pos he] at h ⊢
        cases hr : right (c.toNat : Int) (Reel.unfold_ (Reel.rdNum 0 r).2.1) with
        | false => rw [hr] at h; simp at h
        | true =>
          simp only [if_true]
          have hd := Reel.rdNum_digits r 0 he
          have hs := Reel.rdNum_size r 0
          have hf := Reel.rdNum_fits r 0 (by decide) he
          refine ⟨hr, ?_, by omega, by simp; omega, by omega, by omega, ?_, ?_⟩
          · rw [bytes, if_pos hr, hh, hc, Reel.fold_unfold, hd]
            simp only [if_true]
            rw [show (1 + ((Reel.rdNum 0 r).2.2 : Int)).toNat = (Reel.rdNum 0 r).2.2 + 1 by omega, List.take_succ_cons]
          · simp at hf
            unfold Reel.unfold_; split <;> omega
          · simp at hf
            unfold Reel.unfold_; split <;> omega
      · rw [if_neg he] at h; exact absurd h he

theorem bytes_len (op a : Int) (h3 : -9223372036854775808 ≤ a) (h4 : a ≤ 9223372036854775807) (hr : right op a = true) (hh : has op = true) :
    2 ≤ (bytes op a).1.length ∧ (bytes op a).1.length ≤ 11 ∧ (0 ≤ a → a ≤ 63 → (bytes op a).1.length = 2) ∧ ∃ r, (bytes op a).1 = UInt8.ofNat op.toNat :: r := by
  rw [bytes, if_pos hr, hh]
  simp only [if_true, List.length_cons]
  have h1 := Reel.digits_pos (Reel.fold a)
  have h2 := Reel.digits_len10 (n := Reel.fold a) (by have := fold64 a h3 h4; simpa using this)
  refine ⟨by omega, by omega, fun g0 g1 => ?_, _, rfl⟩
  rw [Reel.digits_small (by unfold Reel.fold; rw [if_pos g0]; omega)]; rfl

/-! names -/
theorem names_len : names.length = 27 := rfl
theorem names_ne : ∀ i : Fin 27, names.getD i.val [] ≠ [] := by decide +kernel
theorem name_in {op : Int} (h0 : 0 ≤ op) (h1 : op ≤ 26) : name op = names.getD op.toNat [] ∧ name op ≠ [] := by
  rw [name, if_pos h0]
  exact ⟨rfl, names_ne ⟨op.toNat, by omega⟩⟩
theorem name_out {op : Int} (h : op < 0 ∨ 26 < op) : name op = [] := by
  unfold name
  split
  · rw [List.getD_eq_getElem?_getD, List.getElem?_eq_none (by rw [names_len]; omega)]; rfl
  · rfl
theorem names_inj : ∀ i j : Fin 27, names.getD i.val [] = names.getD j.val [] → i = j := by decide +kernel
theorem name_inj {a b : Int} (h : name a ≠ []) (e : name a = name b) : a = b := by
  have ha : 0 ≤ a ∧ a ≤ 26 := by
    refine ⟨?_, ?_⟩ <;> (apply Classical.byContradiction; intro hc; exact h (name_out (by omega)))
  have hb : 0 ≤ b ∧ b ≤ 26 := by
    refine ⟨?_, ?_⟩ <;> (apply Classical.byContradiction; intro hc; exact h (e.trans (name_out (by omega))))
  have h2 := (name_in ha.1 ha.2).1 ▸ (name_in hb.1 hb.2).1 ▸ e
  have := names_inj ⟨a.toNat, by omega⟩ ⟨b.toNat, by omega⟩ h2
  have := congrArg Fin.val this
  simp only at this
  omega
theorem idx_lo (s : List UInt8) : ∀ (l : List (List UInt8)) (i : Nat), idx s l i = -1 ∨ (i : Int) ≤ idx s l i
  | [], i => .inl rfl
  | z :: r, i => by
    unfold idx
    split
    · exact .inr (Int.le_refl _)
    · rcases idx_lo s r (i + 1) with h | h
      · exact .inl h
      · exact .inr (by omega)
theorem idx_at (s : List UInt8) : ∀ (l : List (List UInt8)) (i : Nat), idx s l i ≠ -1 → ∃ k, k < l.length ∧ idx s l i = i + k ∧ l.getD k [] = s
  | [], i, h => absurd rfl h
  | z :: r, i, h => by
    unfold idx at h ⊢
    split at h
    · rename_i hz
      rw [if_pos hz]
      exact ⟨0, by simp, by simp, by simpa using hz⟩
    · rename_i hz
      rw [if_neg hz]
      obtain ⟨k, hk, he, hg⟩ := idx_at s r (i + 1) h
      refine ⟨k + 1, by simp; omega, by rw [he]; push_cast; omega, by simpa using hg⟩
theorem idx_name : ∀ i : Fin 27, idx (names.getD i.val []) names 0 = (i.val : Int) := by decide +kernel
/-- what Parse tells -/
def parse (s : List UInt8) : Int × Bool := (max (idx s names 0) 0, decide (0 ≤ idx s names 0))
theorem parse_name {a : Int} (h : name a ≠ []) : parse (name a) = (a, true) := by
  have ha : 0 ≤ a ∧ a ≤ 26 := by
    refine ⟨?_, ?_⟩ <;> (apply Classical.byContradiction; intro hc; exact h (name_out (by omega)))
  have e := idx_name ⟨a.toNat, by omega⟩
  rw [parse, (name_in ha.1 ha.2).1, e]
  simp only
  refine Prod.ext ?_ ?_
  · simp only; omega
  · simp; omega
theorem parse_ok (s : List UInt8) : ((parse s).2 = false ∧ (parse s).1 = 0) ∨ ((parse s).2 = true ∧ name (parse s).1 = s ∧ 0 ≤ (parse s).1 ∧ (parse s).1 ≤ 26) := by
  unfold parse
  by_cases h : idx s names 0 = -1
  · rw [h]; exact .inl ⟨rfl, rfl⟩
  · obtain ⟨k, hk, he, hg⟩ := idx_at s names 0 h
    rw [names_len] at hk
    rw [he]
    refine .inr ⟨by simp, ?_, by simp only; omega, by simp only; omega⟩
    simp only
    rw [show max (((0 : Nat) : Int) + k) 0 = (k : Int) by omega]
    rw [name, if_pos (by omega)]
    simpa using hg
end Instr
end Go.Proofs.Ytebolbjbfnolpab
