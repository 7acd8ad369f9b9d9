/-
  The laws over the reel: an item written, by the program and by the reference; read, by both.
-/
import Derived.Test.YtohlphclhjmcaaaLawsA
namespace Go.Proofs.Ytohlphclhjmcaaa
open Go.RowKit HP

/-- A thing that is written, or asked for. -/
structure Item where
  k : Int
  u : Nat
  n : Int
  s : List UInt8
/-- its numbers fit their kinds -/
structure Item.Fits (x : Item) : Prop where
  u : U64 x.u
  n0 : -9223372036854775808 ≤ x.n
  n1 : x.n ≤ 9223372036854775807
  s : x.s.length ≤ 9223372036854775807
namespace Reel
def W.write (w : W) (x : Item) : W := if x.k % 4 = 0 then w.num x.u else if x.k % 4 = 1 then w.int x.n else if x.k % 4 = 2 then w.byte x.n else w.text x.s
def R.read1 (r : R) (k : Int) : R := if k % 4 = 0 then r.num.2 else if k % 4 = 1 then r.int.2 else if k % 4 = 2 then r.byte.2 else r.txt.2
end Reel

theorem kind4 (k : Int) : k % 4 = 0 ∨ k % 4 = 1 ∨ k % 4 = 2 ∨ k % 4 = 3 := by omega

section
variable {w0 w : World} {L : List HP} {a : Nat} {W : Reel.W}

theorem kind_any (x : Item) (q : Int) (hq : x.k % 4 = q) (hA : At w0 w L) :
    Calls Try.prog 24 #[.agg #[.int .i64 x.k, .int .u64 x.u, .int .i64 x.n, .string (str x.s)]] w fun e w' => e = .returned (.int .i64 q) ∧ At w0 w' L := by
  have HQ := Lib.hid hq; clear hq
  go_enter Try.func24, Try.ntmps24
  go_wp2
  go_returns
  refine ⟨ret_int ?_, (hA.alloc _).drop⟩
  have := HQ.out
  simp only [IntKind.wrap_u64]
  rw [Int.tmod_eq_emod_of_nonneg (by omega)]
  unfold wrap64
  omega

theorem write_any (x : Item) (hx : x.Fits) (hA : At w0 w (WriterC a W :: L)) (h1 : W.out.length ≤ 140737488255000 ∨ W.out.length + W.room ≤ 140737488355328) (h0 : 0 ≤ W.room) (h2 : W.room ≤ 9223372036854775807) :
    Calls Try.prog 15 #[.pointer (some ⟨a, 0, none⟩), .agg #[.int .i64 x.k, .int .u64 x.u, .int .i64 x.n, .string (str x.s)]] w fun e w' => e = .returned (.tuple #[]) ∧ At w0 w' (WriterC a (W.write x) :: L) := by
  have hA0 := hA.alloc (.cells #[.int .i64 x.k, .int .u64 x.u, .int .i64 x.n, .string (str x.s)] 34)
  obtain ⟨hxu, hn0, hn1, hxs⟩ := hx
  have HXU := Lib.hid hxu; clear hxu
  rcases kind4 x.k with hq | hq | hq | hq
  · have hk := kind_any x 0 hq hA0
    rw [show W.write x = W.num x.u by rw [Reel.W.write, if_pos hq]]
    have HK := Lib.hid hk; clear hk hq
    go_enter Try.func15, Try.ntmps15
    go_wp2_with (first
      | (go_at_call 24; refine HK.out.mono ?_; rintro e w' ⟨rfl, hA1⟩; have c0 := hA1.cell 0; have c1 := hA1.cell 1; have c2 := hA1.cell 2; have c3 := hA1.cell 3)
      | (go_at_call 12; refine (wnum_any x.u HXU.out hA1.pick2 (by omega) h0 h2).mono ?_; rintro e w' ⟨rfl, hA2⟩))
    go_returns
    exact ⟨rfl, hA2.pick2.drop⟩
  · have hk := kind_any x 1 hq hA0
    rw [show W.write x = W.int x.n by rw [Reel.W.write, if_neg (by omega), if_pos hq]]
    have HK := Lib.hid hk; clear hk hq
    go_enter Try.func15, Try.ntmps15
    go_wp2_with (first
      | (go_at_call 24; refine HK.out.mono ?_; rintro e w' ⟨rfl, hA1⟩; have c0 := hA1.cell 0; have c1 := hA1.cell 1; have c2 := hA1.cell 2; have c3 := hA1.cell 3)
      | (go_at_call 29; refine (wint_any x.n hn0 hn1 hA1.pick2 (by omega) h0 h2).mono ?_; rintro e w' ⟨rfl, hA2⟩))
    go_returns
    exact ⟨rfl, hA2.pick2.drop⟩
  · have hk := kind_any x 2 hq hA0
    rw [show W.write x = W.byte x.n by rw [Reel.W.write, if_neg (by omega), if_neg (by omega), if_pos hq]]
    have HK := Lib.hid hk; clear hk hq
    go_enter Try.func15, Try.ntmps15
    go_wp2_with (first
      | (go_at_call 24; refine HK.out.mono ?_; rintro e w' ⟨rfl, hA1⟩; have c0 := hA1.cell 0; have c1 := hA1.cell 1; have c2 := hA1.cell 2; have c3 := hA1.cell 3)
      | (go_at_call 30; refine (wbyte_any x.n hA1.pick2 (by omega) h0 h2).mono ?_; rintro e w' ⟨rfl, hA2⟩))
    go_returns
    exact ⟨rfl, hA2.pick2.drop⟩
  · have hk := kind_any x 3 hq hA0
    rw [show W.write x = W.text x.s by rw [Reel.W.write, if_neg (by omega), if_neg (by omega), if_neg (by omega)]]
    have HK := Lib.hid hk; clear hk hq
    go_enter Try.func15, Try.ntmps15
    go_wp2_with (first
      | (go_at_call 24; refine HK.out.mono ?_; rintro e w' ⟨rfl, hA1⟩; have c0 := hA1.cell 0; have c1 := hA1.cell 1; have c2 := hA1.cell 2; have c3 := hA1.cell 3)
      | (go_at_call 31; refine (wtext_any x.s hxs hA1.pick2 (by omega) h0 h2).mono ?_; rintro e w' ⟨rfl, hA2⟩))
    go_returns
    exact ⟨rfl, hA2.pick2.drop⟩
theorem write_nil (x : Item) (hA : At w0 w L) :
    Calls Try.prog 15 #[.pointer none, .agg #[.int .i64 x.k, .int .u64 x.u, .int .i64 x.n, .string (str x.s)]] w fun e w' => e = .returned (.tuple #[]) ∧ At w0 w' L := by
  have hA0 := hA.alloc (.cells #[.int .i64 x.k, .int .u64 x.u, .int .i64 x.n, .string (str x.s)] 34)
  rcases kind4 x.k with hq | hq | hq | hq
  · have hk := kind_any x 0 hq hA0
    have HK := Lib.hid hk; clear hk hq
    go_enter Try.func15, Try.ntmps15
    go_wp2_with (first
      | (go_at_call 24; refine HK.out.mono ?_; rintro e w' ⟨rfl, hA1⟩; have c0 := hA1.cell 0; have c1 := hA1.cell 1; have c2 := hA1.cell 2; have c3 := hA1.cell 3)
      | (go_at_call 12; refine (wnum_nil _ _).mono ?_; rintro e w' ⟨rfl, rfl⟩))
    go_returns
    exact ⟨rfl, hA1.drop⟩
  · have hk := kind_any x 1 hq hA0
    have HK := Lib.hid hk; clear hk hq
    go_enter Try.func15, Try.ntmps15
    go_wp2_with (first
      | (go_at_call 24; refine HK.out.mono ?_; rintro e w' ⟨rfl, hA1⟩; have c0 := hA1.cell 0; have c1 := hA1.cell 1; have c2 := hA1.cell 2; have c3 := hA1.cell 3)
      | (go_at_call 29; refine (wint_nil _ _).mono ?_; rintro e w' ⟨rfl, rfl⟩))
    go_returns
    exact ⟨rfl, hA1.drop⟩
  · have hk := kind_any x 2 hq hA0
    have HK := Lib.hid hk; clear hk hq
    go_enter Try.func15, Try.ntmps15
    go_wp2_with (first
      | (go_at_call 24; refine HK.out.mono ?_; rintro e w' ⟨rfl, hA1⟩; have c0 := hA1.cell 0; have c1 := hA1.cell 1; have c2 := hA1.cell 2; have c3 := hA1.cell 3)
      | (go_at_call 30; refine (wbyte_nil _ _).mono ?_; rintro e w' ⟨rfl, rfl⟩))
    go_returns
    exact ⟨rfl, hA1.drop⟩
  · have hk := kind_any x 3 hq hA0
    have HK := Lib.hid hk; clear hk hq
    go_enter Try.func15, Try.ntmps15
    go_wp2_with (first
      | (go_at_call 24; refine HK.out.mono ?_; rintro e w' ⟨rfl, hA1⟩; have c0 := hA1.cell 0; have c1 := hA1.cell 1; have c2 := hA1.cell 2; have c3 := hA1.cell 3)
      | (go_at_call 31; refine (wtext_nil _ _).mono ?_; rintro e w' ⟨rfl, rfl⟩))
    go_returns
    exact ⟨rfl, hA1.drop⟩

theorem model_any (x : Item) (hx : x.Fits) (hA : At w0 w (RWriterC a W :: L)) (h1 : W.out.length ≤ 140737488255000) (h0 : 0 ≤ W.room) (h2 : W.room + W.out.length ≤ 9223372036854775807) :
    Calls Try.prog 16 #[.pointer (some ⟨a, 0, none⟩), .agg #[.int .i64 x.k, .int .u64 x.u, .int .i64 x.n, .string (str x.s)]] w fun e w' => e = .returned (.tuple #[]) ∧ At w0 w' (RWriterC a (W.write x) :: L) := by
  have hA0 := hA.alloc (.cells #[.int .i64 x.k, .int .u64 x.u, .int .i64 x.n, .string (str x.s)] 34)
  obtain ⟨hxu, hn0, hn1, hxs⟩ := hx
  have HXU := Lib.hid hxu; clear hxu
  rcases kind4 x.k with hq | hq | hq | hq
  · have hk := kind_any x 0 hq hA0
    rw [show W.write x = W.num x.u by rw [Reel.W.write, if_pos hq]]
    have HK := Lib.hid hk; clear hk hq
    go_enter Try.func16, Try.ntmps16
    go_wp2_with (first
      | (go_at_call 24; refine HK.out.mono ?_; rintro e w' ⟨rfl, hA1⟩; have c0 := hA1.cell 0; have c1 := hA1.cell 1; have c2 := hA1.cell 2; have c3 := hA1.cell 3)
      | (go_at_call 35; refine (rwnum_any x.u HXU.out hA1.pick2 (by omega) h0 h2).mono ?_; rintro e w' ⟨rfl, hA2⟩))
    go_returns
    exact ⟨rfl, hA2.pick2.drop⟩
  · have hk := kind_any x 1 hq hA0
    rw [show W.write x = W.int x.n by rw [Reel.W.write, if_neg (by omega), if_pos hq]]
    have HK := Lib.hid hk; clear hk hq
    go_enter Try.func16, Try.ntmps16
    go_wp2_with (first
      | (go_at_call 24; refine HK.out.mono ?_; rintro e w' ⟨rfl, hA1⟩; have c0 := hA1.cell 0; have c1 := hA1.cell 1; have c2 := hA1.cell 2; have c3 := hA1.cell 3)
      | (go_at_call 36; refine (rwint_any x.n hn0 hn1 hA1.pick2 (by omega) h0 h2).mono ?_; rintro e w' ⟨rfl, hA2⟩))
    go_returns
    exact ⟨rfl, hA2.pick2.drop⟩
  · have hk := kind_any x 2 hq hA0
    rw [show W.write x = W.byte x.n by rw [Reel.W.write, if_neg (by omega), if_neg (by omega), if_pos hq]]
    have HK := Lib.hid hk; clear hk hq
    go_enter Try.func16, Try.ntmps16
    go_wp2_with (first
      | (go_at_call 24; refine HK.out.mono ?_; rintro e w' ⟨rfl, hA1⟩; have c0 := hA1.cell 0; have c1 := hA1.cell 1; have c2 := hA1.cell 2; have c3 := hA1.cell 3)
      | (go_at_call 37; refine (rwbyte_any x.n hn0 hn1 hA1.pick2 (by omega) h0 h2).mono ?_; rintro e w' ⟨rfl, hA2⟩))
    go_returns
    exact ⟨rfl, hA2.pick2.drop⟩
  · have hk := kind_any x 3 hq hA0
    rw [show W.write x = W.text x.s by rw [Reel.W.write, if_neg (by omega), if_neg (by omega), if_neg (by omega)]]
    have HK := Lib.hid hk; clear hk hq
    go_enter Try.func16, Try.ntmps16
    go_wp2_with (first
      | (go_at_call 24; refine HK.out.mono ?_; rintro e w' ⟨rfl, hA1⟩; have c0 := hA1.cell 0; have c1 := hA1.cell 1; have c2 := hA1.cell 2; have c3 := hA1.cell 3)
      | (go_at_call 38; refine (rwtext_any x.s hxs hA1.pick2 (by omega) h0 h2).mono ?_; rintro e w' ⟨rfl, hA2⟩))
    go_returns
    exact ⟨rfl, hA2.pick2.drop⟩

theorem same_any {b : Nat} {R : Reel.R} (x : Item) (hp : R.pos ≤ R.text.length) (hl : R.text.length ≤ 140737488355328) (hA : At w0 w (ReaderC a R :: RReaderC b R :: L)) :
    Calls Try.prog 20 #[.pointer (some ⟨a, 0, none⟩), .pointer (some ⟨b, 0, none⟩), .agg #[.int .i64 x.k, .int .u64 x.u, .int .i64 x.n, .string (str x.s)]] w fun e w' => e = .returned (.bool true) ∧ At w0 w' (ReaderC a (R.read1 x.k) :: RReaderC b (R.read1 x.k) :: L) := by
  have hA0 := hA.alloc (.cells #[.int .i64 x.k, .int .u64 x.u, .int .i64 x.n, .string (str x.s)] 34)
  rcases kind4 x.k with hq | hq | hq | hq
  · have hk := kind_any x 0 hq hA0
    rw [show R.read1 x.k = R.num.2 by rw [Reel.R.read1, if_pos hq]]
    have HK := Lib.hid hk; clear hk hq
    go_enter Try.func20, Try.ntmps20
    go_wp2_with (first
      | (go_at_call 24; refine HK.out.mono ?_; rintro e w' ⟨rfl, hA1⟩; have c0 := hA1.cell 0; have c1 := hA1.cell 1; have c2 := hA1.cell 2; have c3 := hA1.cell 3)
      | (go_at_call 25; refine (rnum_any hp hl hA1.pick2).mono ?_; rintro e w' ⟨rfl, hA2⟩)
      | (go_at_call 39; refine (rrnum_any hl hA2.pick3).mono ?_; rintro e w' ⟨rfl, hA3⟩))
    go_returns
    exact ⟨rfl, hA3.pick3.drop.pick2⟩
  · have hk := kind_any x 1 hq hA0
    rw [show R.read1 x.k = R.int.2 by rw [Reel.R.read1, if_neg (by omega), if_pos hq]]
    have HK := Lib.hid hk; clear hk hq
    go_enter Try.func20, Try.ntmps20
    go_wp2_with (first
      | (go_at_call 24; refine HK.out.mono ?_; rintro e w' ⟨rfl, hA1⟩; have c0 := hA1.cell 0; have c1 := hA1.cell 1; have c2 := hA1.cell 2; have c3 := hA1.cell 3)
      | (go_at_call 26; refine (rint_any hp hl hA1.pick2).mono ?_; rintro e w' ⟨rfl, hA2⟩)
      | (go_at_call 40; refine (rrint_any hl hA2.pick3).mono ?_; rintro e w' ⟨rfl, hA3⟩))
    go_returns
    exact ⟨rfl, hA3.pick3.drop.pick2⟩
  · have hk := kind_any x 2 hq hA0
    rw [show R.read1 x.k = R.byte.2 by rw [Reel.R.read1, if_neg (by omega), if_neg (by omega), if_pos hq]]
    have HK := Lib.hid hk; clear hk hq
    go_enter Try.func20, Try.ntmps20
    go_wp2_with (first
      | (go_at_call 24; refine HK.out.mono ?_; rintro e w' ⟨rfl, hA1⟩; have c0 := hA1.cell 0; have c1 := hA1.cell 1; have c2 := hA1.cell 2; have c3 := hA1.cell 3)
      | (go_at_call 27; refine (rbyte_any hp hl hA1.pick2).mono ?_; rintro e w' ⟨rfl, hA2⟩)
      | (go_at_call 41; refine (rrbyte_any  hA2.pick3).mono ?_; rintro e w' ⟨rfl, hA3⟩))
    go_returns
    exact ⟨rfl, hA3.pick3.drop.pick2⟩
  · have hk := kind_any x 3 hq hA0
    rw [show R.read1 x.k = R.txt.2 by rw [Reel.R.read1, if_neg (by omega), if_neg (by omega), if_neg (by omega)]]
    have HK := Lib.hid hk; clear hk hq
    go_enter Try.func20, Try.ntmps20
    go_wp2_with (first
      | (go_at_call 24; refine HK.out.mono ?_; rintro e w' ⟨rfl, hA1⟩; have c0 := hA1.cell 0; have c1 := hA1.cell 1; have c2 := hA1.cell 2; have c3 := hA1.cell 3)
      | (go_at_call 28; refine (rtext_any hp hl hA1.pick2).mono ?_; rintro e w' ⟨rfl, hA2⟩)
      | (go_at_call 42; refine (rrtext_any hl hp hA2.pick3).mono ?_; rintro e w' ⟨rfl, hA3⟩))
    go_returns
    exact ⟨rfl, hA3.pick3.drop.pick2⟩
end

end Go.Proofs.Ytohlphclhjmcaaa
