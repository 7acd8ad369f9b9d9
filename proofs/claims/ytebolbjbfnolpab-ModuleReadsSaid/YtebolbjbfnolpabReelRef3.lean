/-
  The contracts of the reference's reader: the rest.
-/
import Derived.Test.YtebolbjbfnolpabReelRef2
namespace Go.Proofs.Ytebolbjbfnolpab
open Go.RowKit HP

section
variable {w0 w : World} {L : List HP} {a : Nat} {R : Reel.R}

theorem str_tail (l : List UInt8) (p : Nat) : (str l).extract p l.length = str (l.drop p) := by
  unfold str
  apply ByteArray.ext
  simp only [ByteArray.data_extract, List.extract_toArray]
  rw [List.extract_eq_take_drop, List.take_of_length_le (by simp)]

theorem rrnum_any (hl : R.text.length ≤ 140737488355328) (hA : At w0 w (RReaderC a R :: L)) :
    Calls Try.prog 47 #[.pointer (some ⟨a, 0, none⟩)] w fun e w' => e = .returned (.int .u64 R.num.1) ∧ At w0 w' (RReaderC a R.num.2 :: L) := by
  have c0 := At.cell hA 0
  have c1 := At.cell hA 1
  have f0 := At.free hA 0
  have f1 := At.free hA 1
  have hs : (str (R.text.drop R.pos)).size = (R.text.drop R.pos).length := rfl
  have hdl : (R.text.drop R.pos).length ≤ 140737488355328 := by simp; omega
  have hsz := Reel.rdNum_size (R.text.drop R.pos) 0
  by_cases he : R.err = 0
  · have HE : (R.err != 0) = false := by simp [he]
    have hN := rrnumber_any (R.text.drop R.pos) hdl w
    have HX := Lib.hid (str_tail (R.text.drop R.pos) (Reel.rdNum 0 (R.text.drop R.pos)).2.2)
    have hE := Reel.rdNum_err 0 (R.text.drop R.pos)
    unfold Reel.R.num
    rw [if_pos he]
    obtain ⟨⟨er, n, sz⟩, hp⟩ : ∃ p, Reel.rdNum 0 (R.text.drop R.pos) = p := ⟨_, rfl⟩
    rw [hp] at hN hsz HX hE ⊢
    simp only at hN hsz HX hE ⊢
    clear hp
    have hlen : (R.text.drop R.pos).length = R.text.length - R.pos := by simp
    have hdd : ∀ k, (R.text.drop R.pos).drop k = R.text.drop (R.pos + k) := fun k => List.drop_drop
    have HDD := Lib.hid hdd; clear hdd
    clear hlen
    by_cases h0 : er = 0
    · clear hE
      rw [if_pos h0]
      subst h0
      generalize R.text.drop R.pos = l at *
      go_enter Try.func47, Try.ntmps47
      go_wp2_with (go_at_call 68; refine hN.mono ?_; rintro e w' ⟨rfl, rfl⟩)
      go_returns
      refine ⟨rfl, ?_⟩
      have hA2 := At.setCell (At.setCell hA 1 (.int .i64 0)) 0 (.string ((str l).extract sz l.length))
      rw [HX.out, HDD.out] at hA2 ⊢
      rw [he]
      exact hA2
    · rw [if_neg h0]
      have := hE h0
      simp only [Prod.mk.injEq, true_and] at this
      obtain ⟨rfl, rfl⟩ := this
      clear hE
      generalize hg : R.text.drop R.pos = l at *
      have HG := Lib.hid hg; clear hg
      have HH0 := Lib.hid h0; clear h0
      go_enter Try.func47, Try.ntmps47
      go_wp2_with (go_at_call 68; refine hN.mono ?_; rintro e w' ⟨rfl, rfl⟩)
      go_returns
      refine ⟨rfl, ?_⟩
      have hA2 := At.setCell (At.setCell hA 1 (.int .i64 er)) 0 (.string ((str l).extract 0 l.length))
      rw [HX.out, HDD.out] at hA2 ⊢
      exact hA2
  · have HE : (R.err != 0) = true := by simp [he]
    go_enter Try.func47, Try.ntmps47
    go_wp2
    go_returns
    rw [Reel.R.num, if_neg he]
    exact ⟨rfl, hA⟩

theorem rrint_any (hl : R.text.length ≤ 140737488355328) (hA : At w0 w (RReaderC a R :: L)) :
    Calls Try.prog 49 #[.pointer (some ⟨a, 0, none⟩)] w fun e w' => e = .returned (.int .i64 R.int.1) ∧ At w0 w' (RReaderC a R.int.2 :: L) := by
  have hf := R.num_fits
  have HF := Lib.hid hf; clear hf
  go_enter Try.func49, Try.ntmps49
  go_wp2_with (first
    | (go_at_call 47; refine (rrnum_any hl hA).mono ?_; rintro e w' ⟨rfl, hA2⟩)
    | (go_at_call 72; refine (runfold_any _ HF.out _).mono ?_; rintro e w' ⟨rfl, rfl⟩))
  go_returns
  exact ⟨rfl, hA2⟩

theorem rrbyte_any (hA : At w0 w (RReaderC a R :: L)) :
    Calls Try.prog 17 #[.pointer (some ⟨a, 0, none⟩)] w fun e w' => e = .returned (.int .i64 R.byte.1) ∧ At w0 w' (RReaderC a R.byte.2 :: L) := by
  have c0 := At.cell hA 0
  have c1 := At.cell hA 1
  have f0 := At.free hA 0
  have f1 := At.free hA 1
  unfold Reel.R.byte
  by_cases he : R.err = 0
  · have HE : (R.err == 0) = true := by simp [he]
    have HE2 : (R.err != 0) = false := by simp [he]
    rw [if_pos he]
    cases hd : R.text.drop R.pos with
    | nil =>
      rw [hd] at c0
      have HH := Lib.hid hd; clear hd
      go_enter Try.func17, Try.ntmps17
      go_wp2
      go_returns
      exact ⟨rfl, At.setCell hA 1 _⟩
    | cons c r =>
      rw [hd] at c0
      have hix := run_index_str (c :: r) 0 0 rfl c rfl
      have hsz : (str (c :: r)).size = r.length + 1 := rfl
      have HX := Lib.hid (str_tail (c :: r) 1)
      have hr : R.text.drop (R.pos + 1) = r := by rw [← List.drop_drop, hd]; rfl
      have HR := Lib.hid hr; clear hr
      have HH := Lib.hid hd; clear hd
      go_enter Try.func17, Try.ntmps17
      go_wp2
      go_returns
      refine ⟨ret_int (by have := c.toNat_lt; show wrap64 (c.toNat : Int) = (c.toNat : Int); unfold wrap64; omega), ?_⟩
      have hA2 := At.setCell hA 0 (.string ((str (c :: r)).extract 1 (r.length + 1)))
      have e : (str (c :: r)).extract 1 (r.length + 1) = str (R.text.drop (R.pos + 1)) := by rw [HR.out]; exact HX.out
      rw [e] at hA2 ⊢
      exact hA2
  · have HE : (R.err == 0) = false := by simp [he]
    have HE2 : (R.err != 0) = true := by simp [he]
    rw [if_neg he]
    go_enter Try.func17, Try.ntmps17
    go_wp2
    go_returns
    exact ⟨rfl, hA⟩

end

end Go.Proofs.Ytebolbjbfnolpab
