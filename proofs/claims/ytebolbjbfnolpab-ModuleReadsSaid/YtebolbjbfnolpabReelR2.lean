/-
  The contracts of the reel's reader: the rest.
-/
import Derived.Test.YtebolbjbfnolpabReelR
import Derived.Laws.DeepNot64
namespace Go.Proofs.Ytebolbjbfnolpab
open Go.RowKit HP

section
variable {w0 w : World} {L : List HP} {a : Nat} {R : Reel.R}

theorem rnum_nil (w : World) :
    Calls Try.prog 38 #[.pointer none] w fun e w' => e = .returned (.int .u64 0) ∧ w = w' := by
  go_enter Try.func38, Try.ntmps38
  go_wp2
  go_returns
  exact ⟨rfl, rfl⟩

theorem unfold_bits (n : Nat) (hn : n < 18446744073709551616) :
    bits BinOp.xor IntKind.i64 (wrap64 ((n : Int) / 2)) (wrap64 (-wrap64 (bits BinOp.and IntKind.u64 (n : Int) 1))) = Reel.unfold_ n := by
  have e1 : bits BinOp.and IntKind.u64 (n : Int) 1 = ((n % 2 : Nat) : Int) := by
    have := bits_and_u64_nat n 1 hn (by decide)
    rw [nat_mask1] at this
    exact this
  have e2 : wrap64 ((n : Int) / 2) = ((n / 2 : Nat) : Int) := by unfold wrap64; omega
  rw [e1, e2]
  unfold Reel.unfold_
  by_cases h : n % 2 = 0
  · rw [h, if_pos rfl]
    have : wrap64 (-wrap64 ((0 : Nat) : Int)) = 0 := by unfold wrap64; omega
    rw [this]
    show IntKind.i64.wrap ((BitVec.ofInt 64 ((n / 2 : Nat) : Int) ^^^ BitVec.ofInt 64 0).toNat : Int) = _
    rw [show BitVec.ofInt 64 0 = 0#64 from rfl, BitVec.xor_zero, BitVec.ofInt_natCast, BitVec.toNat_ofNat, IntKind.wrap_i64]
    omega
  · have h1 : n % 2 = 1 := by omega
    rw [h1, if_neg (by decide)]
    have : wrap64 (-wrap64 ((1 : Nat) : Int)) = -1 := by unfold wrap64; omega
    rw [this]
    have hx : bits BinOp.xor IntKind.i64 ((n / 2 : Nat) : Int) (-1) = bits BinOp.xor IntKind.i64 (-1) ((n / 2 : Nat) : Int) := by
      unfold bits; simp only [BitVec.xor_comm]
    rw [hx, i64_not (n / 2) (by omega)]
    omega

theorem rint_any (hp : R.pos ≤ R.text.length) (hl : R.text.length ≤ 140737488355328) (hA : At w0 w (ReaderC a R :: L)) :
    Calls Try.prog 41 #[.pointer (some ⟨a, 0, none⟩)] w fun e w' => e = .returned (.int .i64 R.int.1) ∧ At w0 w' (ReaderC a R.int.2 :: L) := by
  go_enter Try.func41, Try.ntmps41
  go_wp2_with (go_at_call 38; refine (rnum_any hp hl hA).mono ?_; rintro e w' ⟨rfl, hA2⟩)
  go_returns
  exact ⟨ret_int (unfold_bits _ R.num_fits), hA2⟩
theorem rint_nil (w : World) :
    Calls Try.prog 41 #[.pointer none] w fun e w' => e = .returned (.int .i64 0) ∧ w = w' := by
  go_enter Try.func41, Try.ntmps41
  go_wp2_with (go_at_call 38; refine (rnum_nil _).mono ?_; rintro e w' ⟨rfl, rfl⟩)
  go_returns
  exact ⟨ret_int (by decide +kernel), rfl⟩

theorem rbyte_any (hp : R.pos ≤ R.text.length) (hl : R.text.length ≤ 140737488355328) (hA : At w0 w (ReaderC a R :: L)) :
    Calls Try.prog 39 #[.pointer (some ⟨a, 0, none⟩)] w fun e w' => e = .returned (.int .i64 R.byte.1) ∧ At w0 w' (ReaderC a R.byte.2 :: L) := by
  have c0 := At.cell hA 0
  have c1 := At.cell hA 1
  have c2 := At.cell hA 2
  have f1 := At.free hA 1
  have hs : (str R.text).size = R.text.length := rfl
  by_cases he : R.err = 0
  · have HE : (R.err != 0) = false := by simp [he]
    by_cases hend : R.pos = R.text.length
    · have HEND := Lib.hid hend
      have hge : R.text.length ≤ R.pos := by omega
      clear hend
      go_enter Try.func39, Try.ntmps39
      go_wp2
      go_quiet (fail)
      go_wp2_with (go_at_call 58; refine (rfail_any 2 R.pos (hA.drewN _)).mono ?_; rintro e w' ⟨rfl, hA2⟩)
      go_returns
      rw [Reel.R.byte, if_pos he, List.drop_of_length_le hge]
      exact ⟨rfl, hA2⟩
    · obtain ⟨c, hc⟩ : ∃ c, R.text[R.pos]? = some c := ⟨_, List.getElem?_eq_getElem (by omega)⟩
      have hix := run_index_str R.text R.pos (R.pos : Int) rfl c hc
      have hdrop : R.text.drop R.pos = c :: R.text.drop (R.pos + 1) := by
        obtain ⟨h, e⟩ := List.getElem?_eq_some_iff.1 hc
        rw [List.drop_eq_getElem_cons h, e]
      have HD := Lib.hid hdrop; clear hdrop
      clear hc
      go_enter Try.func39, Try.ntmps39
      go_wp2
      go_quiet (fail)
      go_wp2
      have hA2 := At.setCell (hA.drewN nq) 1 (Value.int .i64 ((R.pos : Int) + 1))
      have d0 := At.cell hA2 0
      have d1 := At.cell hA2 1
      go_quiet (fail)
      go_wp2
      go_returns
      rw [Reel.R.byte, if_pos he, HD.out]
      exact ⟨ret_int (by have := c.toNat_lt; show wrap64 (c.toNat : Int) = (c.toNat : Int); unfold wrap64; omega), hA2.drewN _⟩
  · have HE : (R.err != 0) = true := by simp [he]
    go_enter Try.func39, Try.ntmps39
    go_wp2
    go_returns
    rw [Reel.R.byte, if_neg he]
    exact ⟨rfl, hA⟩
theorem rbyte_nil (w : World) :
    Calls Try.prog 39 #[.pointer none] w fun e w' => e = .returned (.int .i64 0) ∧ w = w' := by
  go_enter Try.func39, Try.ntmps39
  go_wp2
  go_returns
  exact ⟨rfl, rfl⟩

theorem str_extract (l : List UInt8) (p n : Nat) : (str l).extract p (p + n) = str ((l.drop p).take n) := by
  unfold str
  apply ByteArray.ext
  simp [ByteArray.data_extract]

end

end Go.Proofs.Ytebolbjbfnolpab
