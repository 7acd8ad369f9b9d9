/-
  The contracts of the reel's writer.
-/
import Derived.Test.YtebolbjbfnolpabChecked
import Derived.Test.YtebolbjbfnolpabLib
import Derived.Test.YtebolbjbfnolpabReelFns
import Derived.Deep.QuietTactic
import Derived.BigQuiet
namespace Go.Proofs.Ytebolbjbfnolpab
open Go.RowKit HP

/-- fits 64 bits -/
def U64 (n : Nat) : Prop := n < 18446744073709551616
/-- a byte as a value -/
def bv (b : UInt8) : Value := .int .u8 b.toNat
theorem bv_one (l : List UInt8) : ∀ u ∈ l.map bv, u.oneCell' = true := by
  intro u hu; simp at hu; obtain ⟨x, _, rfl⟩ := hu; rfl

theorem info_byte : (Try.prog.info? 5).map (fun i => (i.zero, i.size, i.bytes)) = some (some (.int .u8 0), 1, 1) := by kernel_rfl
theorem under_bytes : Try.prog.underlying 65 = some (.slice 5) := by kernel_rfl

theorem under_str : Try.prog.underlying 9 = some .string := by kernel_rfl
theorem under_byte : Try.prog.underlying 5 = some (.int .u8) := by kernel_rfl
def WriterC (a : Nat) (W : Reel.W) : HP := ex fun ao => ex fun cap =>
  sep [one a (.cells #[.slice ao W.out.length cap, .int .i64 W.room, .int .i64 W.err] 93 (0, 0)), row 5 1 ao W.out.length cap (W.out.map bv)]

theorem or128 : ∀ x : Fin 256, bits BinOp.or IntKind.u8 (x.val : Int) 128 = ((x.val % 128 + 128 : Nat) : Int) := by decide +kernel
theorem or128' (m : Nat) : bits BinOp.or IntKind.u8 ((m : Int) % 256) 128 = ((m % 128 + 128 : Nat) : Int) := by
  have := or128 ⟨m % 256, by omega⟩
  simp only [Int.natCast_emod, Int.cast_ofNat_Int] at this
  rw [this]; omega
theorem bv_ofNat {m : Nat} (h : m < 256) : bv (UInt8.ofNat m) = .int .u8 (m : Int) := by simp [bv]; omega

set_option maxRecDepth 100000 in
theorem digits_any {w0 w : World} {L : List HP} (n : Nat) (hn : U64 n) (hA : At w0 w L) :
    Calls Try.prog 74 #[.int .u64 n] w fun e w' => ∃ ao cap, e = .returned (.slice ao (Reel.digits n).length cap) ∧ At w0 w' (row 5 1 ao (Reel.digits n).length cap ((Reel.digits n).map bv) :: L) := by
  have hA0 := hA.row_nil 5 1
  have h10 : (Reel.digits n).length ≤ 10 := Reel.digits_len10 hn
  go_enter Try.func74, Try.ntmps74
  go_wp2
  go_loopw [0, 3] (fun nv b wr => ∃ (m : Nat) (acc : List UInt8) (ao : Option Addr) (cap : Nat), nv = .int .u64 m ∧ b = .slice ao acc.length cap ∧
      At w0 wr (row 5 1 ao acc.length cap (acc.map bv) :: L) ∧ acc ++ Reel.digits m = Reel.digits n)
    (fun nv _ _ => (intOf nv).toNat)
  case atStart => exact ⟨n, [], none, 0, rfl, rfl, hA0, rfl⟩
  case round =>
    obtain ⟨m, acc, ao, cap, rfl, rfl, hAr, hd⟩ := hrel
    have hb : (acc.length + 1) * 1 ≤ 140737488355328 := by
      have := congrArg List.length hd; have := Reel.digits_pos m; simp at *; omega
    have HD := Lib.hid hd; clear hd
    by_cases hlt : m < 128
    · go_wp2_with (at_builtin; refine wpList_append1 hAr rfl _ _ 65 rfl (.int .u8 0) 1 under_bytes info_byte rfl (by decide) rfl rfl (by simp) rfl hb ?_; intro ao' cap' w1 hA1)
      go_ret
      have hd := HD.out
      rw [Reel.digits_small hlt] at hd
      rw [← hd]
      rw [← bv_ofNat (by omega)] at hA1
      exact ⟨ao', cap', by simp, by simpa using hA1⟩
    · have hor := or128' m
      go_wp2_with (at_builtin; refine wpList_append1 hAr rfl _ _ 65 rfl (.int .u8 0) 1 under_bytes info_byte rfl (by decide) rfl rfl (by simp) rfl hb ?_; intro ao' cap' w1 hA1)
      go_roundw
      case rel =>
        have hd := HD.out
        rw [Reel.digits_big hlt] at hd
        refine ⟨m / 128, acc ++ [UInt8.ofNat (m % 128 + 128)], ao', cap', by simp, by simp, ?_, by simpa using hd⟩
        have e : Value.int IntKind.u8 ((m : Int) % 128 + 128) = bv (UInt8.ofNat (m % 128 + 128)) := by rw [bv_ofNat (by omega)]; simp
        simp only [List.map_append, List.map_cons, List.map_nil, List.length_append, List.length_cons, List.length_nil, ← e]
        exact hA1
      case measure => simp [intOf]; omega


section
variable {w0 w : World} {L : List HP} {a : Nat} {W : Reel.W}
theorem WriterC.op (h : At w0 w (WriterC a W :: L)) : ∃ ao cap, At w0 w (one a (.cells #[.slice ao W.out.length cap, .int .i64 W.room, .int .i64 W.err] 93 (0, 0)) :: row 5 1 ao W.out.length cap (W.out.map bv) :: L) := by
  obtain ⟨ao, h⟩ := h.ex
  obtain ⟨cap, h⟩ := h.ex
  exact ⟨ao, cap, h.sep⟩
theorem WriterC.cl {ao : Option Addr} {cap : Nat} (h : At w0 w (one a (.cells #[.slice ao W.out.length cap, .int .i64 W.room, .int .i64 W.err] 93 (0, 0)) :: row 5 1 ao W.out.length cap (W.out.map bv) :: L)) : At w0 w (WriterC a W :: L) :=
  At.ex_mk ao (At.ex_mk cap (At.sep_mk h))

theorem wnew_any (limit : Int) (hA : At w0 w L) :
    Calls Try.prog 26 #[.int .i64 limit] w fun e w' => ∃ a, e = .returned (.pointer (some ⟨a, 0, none⟩)) ∧ At w0 w' (WriterC a (Reel.new limit) :: L) := by
  have key : ∀ m : Int, m = max limit 0 → At w0 (w.alloc (.cells #[.slice none 0 0, .int .i64 m, .int .i64 0] 93)) (WriterC w.heap.size (Reel.new limit) :: L) := by
    rintro m rfl
    exact WriterC.cl (W := Reel.new limit) ((hA.alloc _).pick2' (fun h => h.row_nil 5 1))
  go_enter Try.func26, Try.ntmps26
  go_wp2
  all_goals
    go_ret
    exact ⟨_, rfl, key _ (by omega)⟩

theorem wopen_any (hA : At w0 w (WriterC a W :: L)) :
    Calls Try.prog 52 #[.pointer (some ⟨a, 0, none⟩)] w fun e w' => e = .returned (.bool (W.err == 0)) ∧ w = w' := by
  obtain ⟨ao, cap, hO⟩ := WriterC.op hA
  have c2 := hO.cell 2
  go_enter Try.func52, Try.ntmps52
  go_wp2
  go_ret
  exact ⟨rfl, rfl⟩
theorem wopen_nil (w : World) :
    Calls Try.prog 52 #[.pointer none] w fun e w' => e = .returned (.bool false) ∧ w = w' := by
  go_enter Try.func52, Try.ntmps52
  go_wp2
  go_ret
  exact ⟨rfl, rfl⟩

theorem wadd_any {ao : Option Addr} {cap ln : Nat} (l : List UInt8) (hln : l.length = ln) (hA : At w0 w (WriterC a W :: L)) (hrd : ∀ w, At w0 w L → Rd w ao (l.map bv)) (h1 : W.room < l.length ∨ W.out.length + l.length ≤ 140737488355328) (h0 : 0 ≤ W.room) (h2 : W.room ≤ 9223372036854775807) :
    Calls Try.prog 53 #[.pointer (some ⟨a, 0, none⟩), .slice ao ln cap] w fun e w' => e = .returned (.tuple #[]) ∧ At w0 w' (WriterC a (W.add l) :: L) := by
  subst hln
  obtain ⟨ao1, cap1, hO⟩ := WriterC.op hA
  have c0 := hO.cell 0
  have c1 := hO.cell 1
  have c2 := hO.cell 2
  have f1 := hO.free 1
  have f2 := hO.free 2
  have hr := hrd _ hO.drop.drop
  have hO2 := hO.pick2
  by_cases hb : W.room < l.length
  · go_enter Try.func53, Try.ntmps53
    go_wp2
    go_returns
    refine ⟨rfl, ?_⟩
    rw [Reel.W.add, if_pos hb]
    exact WriterC.cl (W := { W with err := 3 }) (hO.setCell 2 _)
  · go_enter Try.func53, Try.ntmps53
    go_wp2_with (at_builtin; refine wpList_append_row rfl _ _ 65 rfl (.int .u8 0) 1 under_bytes info_byte rfl (by decide) hO2 rfl ao l.length cap (l.map bv) rfl (by simp) hr (bv_one l) (by unfold maxLen; omega) (by omega) ?_; intro ao' cap' w1 hA1; have hA2 := hA1.pick2; have d0 := hA2.cell 0; have d1 := hA2.cell 1; have e0 := hA2.free 0; have e1 := hA2.free 1)
    go_end0
    refine ⟨rfl, ?_⟩
    rw [Reel.W.add, if_neg (by omega)]
    have hA3 := (hA2.setCell 0 (Value.slice ao' (W.out.length + l.length) cap')).setCell 1 (Value.int IntKind.i64 (W.room - l.length))
    rw [← List.map_append] at hA3
    have := WriterC.cl (L := L) (w0 := w0) (w := (w1.setCell ⟨a, 0, none⟩ (Value.slice ao' (W.out.length + l.length) cap')).setCell ⟨a, 1, none⟩ (Value.int IntKind.i64 (W.room - l.length))) (W := { W with out := W.out ++ l, room := W.room - l.length }) (a := a) (ao := ao') (cap := cap')
    simp only [List.length_append] at this
    exact this hA3

theorem wnum_any (n : Nat) (hn : U64 n) (hA : At w0 w (WriterC a W :: L)) (h1 : W.out.length ≤ 140737488355318 ∨ W.out.length + W.room ≤ 140737488355328) (h0 : 0 ≤ W.room) (h2 : W.room ≤ 9223372036854775807) :
    Calls Try.prog 54 #[.pointer (some ⟨a, 0, none⟩), .int .u64 n] w fun e w' => e = .returned (.tuple #[]) ∧ At w0 w' (WriterC a (W.num n) :: L) := by
  by_cases he : W.err = 0
  · have HE : (W.err == 0) = true := by simp [he]
    go_enter Try.func54, Try.ntmps54
    go_wp2_with (first
      | (go_at_call 52; refine (wopen_any hA).mono ?_; rintro e w' ⟨rfl, rfl⟩)
      | (go_at_call 74; refine (digits_any n hn hA).mono ?_; rintro e w' ⟨ao, cap, rfl, hA1⟩; have hA2 := hA1.pick2)
      | (go_at_call 53; refine (wadd_any (Reel.digits n) rfl hA2 (fun w h => h.rd) (by have := Reel.digits_len10 hn; omega) h0 h2).mono ?_; rintro e w' ⟨rfl, hA3⟩))
    go_returns
    refine ⟨rfl, ?_⟩
    rw [Reel.W.num, if_pos he]
    exact hA3.pick2.drop
  · have HE : (W.err == 0) = false := by simp [he]
    go_enter Try.func54, Try.ntmps54
    go_wp2_with (go_at_call 52; refine (wopen_any hA).mono ?_; rintro e w' ⟨rfl, rfl⟩)
    go_returns
    refine ⟨rfl, ?_⟩
    rw [Reel.W.num, if_neg he]
    exact hA
theorem wnum_nil (n : Int) (w : World) :
    Calls Try.prog 54 #[.pointer none, .int .u64 n] w fun e w' => e = .returned (.tuple #[]) ∧ w = w' := by
  go_enter Try.func54, Try.ntmps54
  go_wp2_with (go_at_call 52; refine (wopen_nil w).mono ?_; rintro e w' ⟨rfl, rfl⟩)
  go_returns
  exact ⟨rfl, rfl⟩

theorem fold_bits (n : Int) (h3 : -9223372036854775808 ≤ n) (h4 : n ≤ 9223372036854775807) :
    bits BinOp.xor IntKind.u64 (IntKind.u64.wrap (wrap64 (n * 2))) (IntKind.u64.wrap (n / 9223372036854775808)) = (Reel.fold n : Int) := by
  simp only [IntKind.wrap_u64]
  have e1 : wrap64 (n * 2) % 18446744073709551616 = n * 2 % 18446744073709551616 := by unfold wrap64; omega
  rw [e1]
  by_cases h : 0 ≤ n
  · obtain ⟨k, rfl⟩ := Int.eq_ofNat_of_zero_le h
    have e2 : (k : Int) / 9223372036854775808 % 18446744073709551616 = ((0 : Nat) : Int) := by omega
    have e3 : (k : Int) * 2 % 18446744073709551616 = ((2 * k : Nat) : Int) := by omega
    rw [e2, e3, bits_xor_u64_nat _ _ (by omega) (by omega), Nat.xor_zero]
    simp only [Reel.fold]
    rw [if_pos (by omega)]; omega
  · obtain ⟨k, hk⟩ : ∃ k : Nat, n = -((k : Int) + 1) := ⟨(-n - 1).toNat, by omega⟩
    subst hk
    have e2 : (-((k : Int) + 1)) / 9223372036854775808 % 18446744073709551616 = ((18446744073709551615 : Nat) : Int) := by omega
    have e3 : (-((k : Int) + 1)) * 2 % 18446744073709551616 = ((18446744073709551615 - (2 * k + 1) : Nat) : Int) := by omega
    rw [e2, e3, bits_xor_u64_nat _ _ (by omega) (by omega)]
    have e4 : (18446744073709551615 - (2 * k + 1)) ^^^ 18446744073709551615 = 2 * k + 1 := by
      have hx : ∀ x : Nat, x < 18446744073709551616 → x ^^^ 18446744073709551615 = 18446744073709551615 - x := by
        intro x hx
        have := congrArg BitVec.toNat (BitVec.xor_allOnes (x := BitVec.ofNat 64 x))
        simp [BitVec.toNat_xor, BitVec.toNat_not, Nat.mod_eq_of_lt hx] at this
        exact this
      rw [hx _ (by omega)]; omega
    rw [e4]
    simp only [Reel.fold]
    rw [if_neg (by omega)]; omega
theorem fold_fits (n : Int) (h3 : -9223372036854775808 ≤ n) (h4 : n ≤ 9223372036854775807) : U64 (Reel.fold n) := by
  unfold U64 Reel.fold; split <;> omega

theorem wint_any (n : Int) (h3 : -9223372036854775808 ≤ n) (h4 : n ≤ 9223372036854775807) (hA : At w0 w (WriterC a W :: L)) (h1 : W.out.length ≤ 140737488355318 ∨ W.out.length + W.room ≤ 140737488355328) (h0 : 0 ≤ W.room) (h2 : W.room ≤ 9223372036854775807) :
    Calls Try.prog 56 #[.pointer (some ⟨a, 0, none⟩), .int .i64 n] w fun e w' => e = .returned (.tuple #[]) ∧ At w0 w' (WriterC a (W.int n) :: L) := by
  have hf := fold_fits n h3 h4
  have HB := Lib.hid (fold_bits n h3 h4)
  go_enter Try.func56, Try.ntmps56
  go_wp2_with fail
  rw [HB.out]
  refine (wnum_any (Reel.fold n) hf hA h1 h0 h2).mono ?_
  rintro e w' ⟨rfl, hA1⟩
  go_wp2
  go_returns
  exact ⟨rfl, hA1⟩
theorem wint_nil (n : Int) (w : World) :
    Calls Try.prog 56 #[.pointer none, .int .i64 n] w fun e w' => e = .returned (.tuple #[]) ∧ w = w' := by
  go_enter Try.func56, Try.ntmps56
  go_wp2_with (go_at_call 54; refine (wnum_nil _ w).mono ?_; rintro e w' ⟨rfl, rfl⟩)
  go_returns
  exact ⟨rfl, rfl⟩

theorem wbyte_any (n : Int) (hA : At w0 w (WriterC a W :: L)) (h1 : W.out.length ≤ 140737488355318 ∨ W.out.length + W.room ≤ 140737488355328) (h0 : 0 ≤ W.room) (h2 : W.room ≤ 9223372036854775807) :
    Calls Try.prog 27 #[.pointer (some ⟨a, 0, none⟩), .int .i64 n] w fun e w' => e = .returned (.tuple #[]) ∧ At w0 w' (WriterC a (W.byte n) :: L) := by
  obtain ⟨ao1, cap1, hO⟩ := WriterC.op hA
  have c2 := hO.cell 2
  have f2 := hO.free 2
  by_cases he : W.err = 0
  · have HE : (W.err == 0) = true := by simp [he]
    by_cases hn : n < 0
    · go_enter Try.func27, Try.ntmps27
      go_wp2_with (go_at_call 52; refine (wopen_any hA).mono ?_; rintro e w' ⟨rfl, rfl⟩)
      go_returns
      refine ⟨rfl, ?_⟩
      rw [Reel.W.byte, if_pos he, if_pos (.inl hn)]
      exact WriterC.cl (W := { W with err := 4 }) (hO.setCell 2 _)
    · by_cases hn' : 255 < n
      · go_enter Try.func27, Try.ntmps27
        go_wp2_with (go_at_call 52; refine (wopen_any hA).mono ?_; rintro e w' ⟨rfl, rfl⟩)
        go_returns
        refine ⟨rfl, ?_⟩
        rw [Reel.W.byte, if_pos he, if_pos (.inr hn')]
        exact WriterC.cl (W := { W with err := 4 }) (hO.setCell 2 _)
      · have hbv : bv (UInt8.ofNat n.toNat) = .int .u8 n := by rw [bv_ofNat (by omega)]; simp; omega
        have hA1 := (hA.alloc (.cells #[bv (UInt8.ofNat n.toNat)] 5)).pick2
        have HV := Lib.hid hbv
        rw [hbv] at hA1; clear hbv
        go_enter Try.func27, Try.ntmps27
        go_wp2_with (first
          | (go_at_call 52; refine (wopen_any hA).mono ?_; rintro e w' ⟨rfl, rfl⟩)
          | (go_at_call 53; refine (wadd_any [UInt8.ofNat n.toNat] rfl hA1 (fun w h => by have := At.rd1 h; simpa [HV.out] using this) (by rw [List.length_singleton]; omega) h0 h2).mono ?_; rintro e w' ⟨rfl, hA3⟩))
        go_returns
        refine ⟨rfl, ?_⟩
        rw [Reel.W.byte, if_pos he, if_neg (by omega)]
        exact hA3.pick2.drop
  · have HE : (W.err == 0) = false := by simp [he]
    go_enter Try.func27, Try.ntmps27
    go_wp2_with (go_at_call 52; refine (wopen_any hA).mono ?_; rintro e w' ⟨rfl, rfl⟩)
    go_returns
    refine ⟨rfl, ?_⟩
    rw [Reel.W.byte, if_neg he]
    exact hA
theorem wbyte_nil (n : Int) (w : World) :
    Calls Try.prog 27 #[.pointer none, .int .i64 n] w fun e w' => e = .returned (.tuple #[]) ∧ w = w' := by
  go_enter Try.func27, Try.ntmps27
  go_wp2_with (go_at_call 52; refine (wopen_nil w).mono ?_; rintro e w' ⟨rfl, rfl⟩)
  go_returns
  exact ⟨rfl, rfl⟩

theorem wdone_any (hA : At w0 w (WriterC a W :: L)) :
    Calls Try.prog 30 #[.pointer (some ⟨a, 0, none⟩)] w fun e w' => e = .returned (.tuple #[.string (str W.done.1), .int .i64 W.done.2]) ∧ ∃ n, w' = w.drewN n := by
  obtain ⟨ao1, cap1, hO⟩ := WriterC.op hA
  have c0 := hO.cell 0
  have c2 := hO.cell 2
  by_cases he : W.err = 0
  · have hcv := run_string_of (P := Try.prog) (c := cap1) 65 5 under_bytes under_byte 9 under_str W.out hO.pick2.rd (fun h => by simpa using (hO.pick2.row_none h).2)
    have HE : (W.err != 0) = false := by simp [he]
    go_enter Try.func30, Try.ntmps30
    go_wp2
    go_returns
    refine ⟨?_, 0, rfl⟩
    rw [Reel.W.done, if_pos he]; rfl
  · have HE : (W.err != 0) = true := by simp [he]
    go_enter Try.func30, Try.ntmps30
    go_wp2
    go_quiet (fail)
    go_wp2
    go_returns
    refine ⟨?_, _, rfl⟩
    rw [Reel.W.done, if_neg he]; rfl
theorem wdone_nil (w : World) :
    Calls Try.prog 30 #[.pointer none] w fun e w' => e = .returned (.tuple #[.string (str []), .int .i64 1]) ∧ w = w' := by
  go_enter Try.func30, Try.ntmps30
  go_wp2
  go_returns
  exact ⟨rfl, rfl⟩
end

end Go.Proofs.Ytebolbjbfnolpab
