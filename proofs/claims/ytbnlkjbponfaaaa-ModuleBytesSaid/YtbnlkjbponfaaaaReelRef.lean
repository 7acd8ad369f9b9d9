/-
  The contracts of the reference's writer.
-/
import Derived.Test.YtbnlkjbponfaaaaReelW
namespace Go.Proofs.Ytbnlkjbponfaaaa
open Go.RowKit HP

def RWriterC (a : Nat) (W : Reel.W) : HP := ex fun ao => ex fun cap =>
  sep [one a (.cells #[.slice ao W.out.length cap, .int .i64 (W.room + W.out.length), .int .i64 W.err] 106 (0, 0)), row 5 1 ao W.out.length cap (W.out.map bv)]

section
variable {w0 w : World} {L : List HP} {a : Nat} {W : Reel.W}
theorem RWriterC.op (h : At w0 w (RWriterC a W :: L)) : ∃ ao cap, At w0 w (one a (.cells #[.slice ao W.out.length cap, .int .i64 (W.room + W.out.length), .int .i64 W.err] 106 (0, 0)) :: row 5 1 ao W.out.length cap (W.out.map bv) :: L) := by
  obtain ⟨ao, h⟩ := h.ex
  obtain ⟨cap, h⟩ := h.ex
  exact ⟨ao, cap, h.sep⟩
theorem RWriterC.cl {ao : Option Addr} {cap : Nat} (h : At w0 w (one a (.cells #[.slice ao W.out.length cap, .int .i64 (W.room + W.out.length), .int .i64 W.err] 106 (0, 0)) :: row 5 1 ao W.out.length cap (W.out.map bv) :: L)) : At w0 w (RWriterC a W :: L) :=
  At.ex_mk ao (At.ex_mk cap (At.sep_mk h))

theorem rwnew_any (limit : Int) (hA : At w0 w L) :
    Calls Try.prog 24 #[.int .i64 limit] w fun e w' => ∃ a, e = .returned (.pointer (some ⟨a, 0, none⟩)) ∧ At w0 w' (RWriterC a (Reel.new limit) :: L) := by
  have key : ∀ m : Int, m = max limit 0 → At w0 (w.alloc (.cells #[.slice none 0 0, .int .i64 m, .int .i64 0] 106)) (RWriterC w.heap.size (Reel.new limit) :: L) := by
    intro m hm
    refine RWriterC.cl (W := Reel.new limit) (ao := none) (cap := 0) ?_
    have : (Reel.new limit).room + ((Reel.new limit).out.length : Int) = m := by simp [Reel.new, hm]
    rw [this]
    exact ((hA.alloc _).pick2' (fun h => h.row_nil 5 1))
  go_enter Try.func24, Try.ntmps24
  go_wp2
  all_goals
    go_returns
    exact ⟨_, rfl, key _ (by omega)⟩

theorem rwdone_any (hA : At w0 w (RWriterC a W :: L)) :
    Calls Try.prog 30 #[.pointer (some ⟨a, 0, none⟩)] w fun e w' => e = .returned (.tuple #[.string (str W.done.1), .int .i64 W.done.2]) ∧ ∃ n, w' = w.drewN n := by
  obtain ⟨ao1, cap1, hO⟩ := RWriterC.op hA
  have c0 := hO.cell 0
  have c2 := hO.cell 2
  by_cases he : W.err = 0
  · have hcv := run_string_of (P := Try.prog) (c := cap1) 54 5 under_bytes under_byte 9 under_str W.out hO.pick2.rd (fun h => by simpa using (hO.pick2.row_none h).2)
    have HE : (W.err != 0) = false := by simp [he]
    go_enter Try.func30, Try.ntmps30
    go_wp2
    go_returns
    refine ⟨?_, 0, rfl⟩
    rw [Reel.W.done, if_pos he]; rfl
  · have HE : (W.err != 0) = true := by simp [he]
    go_enter Try.func30, Try.ntmps30
    go_wp2
    go_quiet (fail)
    go_wp2
    go_returns
    refine ⟨?_, _, rfl⟩
    rw [Reel.W.done, if_neg he]; rfl

theorem rwput_any {ao : Option Addr} {cap ln : Nat} (l : List UInt8) (hln : l.length = ln) (right : Bool) (hA : At w0 w (RWriterC a W :: L)) (hrd : ∀ w, At w0 w L → Rd w ao (l.map bv)) (h1 : W.out.length + l.length ≤ 140737488355328) (h0 : 0 ≤ W.room) (h2 : W.room + W.out.length ≤ 9223372036854775807) :
    Calls Try.prog 65 #[.pointer (some ⟨a, 0, none⟩), .slice ao ln cap, .bool right] w fun e w' => e = .returned (.tuple #[]) ∧ At w0 w' (RWriterC a (W.put l right) :: L) := by
  subst hln
  obtain ⟨ao1, cap1, hO⟩ := RWriterC.op hA
  have c0 := hO.cell 0
  have c1 := hO.cell 1
  have c2 := hO.cell 2
  have f2 := hO.free 2
  have hr := hrd _ hO.drop.drop
  have hO2 := hO.pick2
  by_cases he : W.err = 0
  · have HE : (W.err != 0) = false := by simp [he]
    rw [Reel.W.put, if_pos he]
    cases right with
    | false =>
      go_enter Try.func65, Try.ntmps65
      go_wp2
      go_returns
      exact ⟨rfl, RWriterC.cl (W := { W with err := 4 }) (hO.setCell 2 _)⟩
    | true =>
      rw [if_pos rfl]
      by_cases hb : W.room < l.length
      · go_enter Try.func65, Try.ntmps65
        go_wp2
        go_quiet (fail)
        go_wp2
        go_returns
        refine ⟨rfl, ?_⟩
        rw [Reel.W.add, if_pos hb]
        exact RWriterC.cl (W := { W with err := 3 }) ((hO.drewN _).setCell 2 _)
      · go_enter Try.func65, Try.ntmps65
        go_wp2
        go_quiet (fail)
        go_wp2_with (at_builtin; refine wpList_append_row rfl _ _ 54 rfl (.int .u8 0) 1 under_bytes info_byte rfl (by decide) (hO2.drewN _) rfl ao l.length cap (l.map bv) rfl (by simp) (hrd _ (hO.drop.drop.drewN _)) (bv_one l) (by unfold maxLen; omega) (by omega) ?_; intro ao' cap' w1 hA1; have hA2 := hA1.pick2; have d0 := hA2.cell 0; have e0 := hA2.free 0)
        go_returns
        refine ⟨rfl, ?_⟩
        rw [Reel.W.add, if_neg (by omega)]
        have hA3 := hA2.setCell 0 (Value.slice ao' (W.out.length + l.length) cap')
        rw [← List.map_append] at hA3
        have := RWriterC.cl (L := L) (w0 := w0) (w := w1.setCell ⟨a, 0, none⟩ (Value.slice ao' (W.out.length + l.length) cap')) (W := { W with out := W.out ++ l, room := W.room - l.length }) (a := a) (ao := ao') (cap := cap')
        simp only [List.length_append] at this
        have e : W.room - (l.length : Int) + ((W.out.length + l.length : Nat) : Int) = W.room + W.out.length := by omega
        rw [e] at this
        exact this hA3
  · have HE : (W.err != 0) = true := by simp [he]
    go_enter Try.func65, Try.ntmps65
    go_wp2
    go_returns
    rw [Reel.W.put, if_neg he]
    exact ⟨rfl, hA⟩

theorem wrap_div128 (n : Nat) (hn : U64 n) : IntKind.u64.wrap ((n : Int) / 128) = ((n / 128 : Nat) : Int) := by
  unfold U64 at hn; rw [IntKind.wrap_u64]; omega
theorem u64_div {n : Nat} (hn : U64 n) : U64 (n / 128) := by unfold U64 at *; omega

set_option maxRecDepth 100000 in
theorem rdigits_any (n : Nat) (hn : U64 n) (hA : At w0 w L) :
    Calls Try.prog 66 #[.int .u64 n] w fun e w' => ∃ ao cap, e = .returned (.slice ao (Reel.digits n).length cap) ∧ At w0 w' (row 5 1 ao (Reel.digits n).length cap ((Reel.digits n).map bv) :: L) := by
  have h10 : (Reel.digits n).length ≤ 10 := Reel.digits_len10 hn
  have hA0 := (hA.alloc (.cells #[.int .u8 ((n : Int) % 128)] 5)).row_of_one (e := 5) (size := 1) 1 1 (by decide) (by decide) rfl
  have hbv : Value.int .u8 ((n : Int) % 128) = bv (UInt8.ofNat (n % 128)) := by rw [bv_ofNat (by omega)]; simp
  have HB := Lib.hid hbv; clear hbv
  have hd0 : Reel.tail_ (UInt8.ofNat (n % 128)) (n / 128) = Reel.digits n := Reel.tail_eq n
  have HD0 := Lib.hid hd0; clear hd0
  have hwr := wrap_div128 n hn
  go_enter Try.func66, Try.ntmps66
  go_wp2
  go_loopw [0, 3] (fun nv b wr => ∃ (m : Nat) (acc : List UInt8) (c : UInt8) (ao : Option Addr) (cap : Nat), nv = .int .u64 m ∧ b = .slice ao (acc.length + 1) cap ∧
      At w0 wr (row 5 1 ao (acc.length + 1) cap ((acc ++ [c]).map bv) :: L) ∧ acc ++ Reel.tail_ c m = Reel.digits n ∧ c.toNat < 128 ∧ U64 m)
    (fun nv _ _ => (intOf nv).toNat)
  case atStart =>
    refine ⟨n / 128, [], UInt8.ofNat (n % 128), _, _, by simp, rfl, ?_, HD0.out, by simp; omega, u64_div hn⟩
    rw [HB.out] at hA0 ⊢
    exact hA0
  case round =>
    obtain ⟨m, acc, c, ao, cap, rfl, rfl, hAr, hd, hc, hm⟩ := hrel
    have hwr := wrap_div128 m hm
    have hlen : acc.length + 1 ≤ 10 := by
      have := congrArg List.length hd; have := Reel.tail_pos c m; simp at *; omega
    have HD := Lib.hid hd; clear hd
    obtain ⟨g, off, rfl⟩ := hAr.row_some (by simp)
    by_cases hlt : 0 < m
    · have hcell : wr.cell? ⟨g, off + acc.length, none⟩ = some (.int .u8 c.toNat) := hAr.rd.at_ acc.length _ (by simp [bv])
      have hfree := hAr.row_free (off + acc.length)
      have hA2 := hAr.row_set acc.length (by simp) (.int .u8 (c.toNat + 128))
      have hb : (acc.length + 1 + 1) * 1 ≤ 140737488355328 := by omega
      go_wp2_with (at_builtin; refine wpList_append1 hA2 rfl _ _ 54 rfl (.int .u8 0) 1 under_bytes info_byte rfl (by decide) rfl rfl (by simp) rfl hb ?_; intro ao' cap' w1 hA1)
      go_roundw
      case rel =>
        have hd := HD.out
        rw [Reel.tail_step hlt] at hd
        refine ⟨m / 128, acc ++ [UInt8.ofNat (c.toNat + 128)], UInt8.ofNat (m % 128), ao', cap', by simp, by simp, ?_, by simpa using hd, by simp; omega, u64_div hm⟩
        have e1 : Value.int IntKind.u8 ((c.toNat : Int) + 128) = bv (UInt8.ofNat (c.toNat + 128)) := by rw [bv_ofNat (by omega)]; simp
        have e2 : Value.int IntKind.u8 ((m : Int) % 128) = bv (UInt8.ofNat (m % 128)) := by rw [bv_ofNat (by omega)]; simp
        rw [e1, e2] at hA1
        simpa [List.set_append] using hA1
      case measure => simp [intOf]; omega
    · go_wp2
      go_returns
      have hd := HD.out
      obtain rfl : m = 0 := by omega
      rw [Reel.tail_zero hc] at hd
      rw [← hd]
      exact ⟨some ⟨g, off, none⟩, cap, by simp, by simpa using hAr⟩

theorem rfold_any (n : Int) (h3 : -9223372036854775808 ≤ n) (h4 : n ≤ 9223372036854775807) (w : World) :
    Calls Try.prog 68 #[.int .i64 n] w fun e w' => e = .returned (.int .u64 (Reel.fold n)) ∧ w = w' := by
  by_cases hn : n < 0
  · go_enter Try.func68, Try.ntmps68
    go_wp2
    go_returns
    refine ⟨ret_int ?_, rfl⟩
    unfold Reel.fold; rw [if_neg (by omega)]; omega
  · go_enter Try.func68, Try.ntmps68
    go_wp2
    go_returns
    refine ⟨ret_int ?_, rfl⟩
    unfold Reel.fold; rw [if_pos (by omega)]; omega
end

end Go.Proofs.Ytbnlkjbponfaaaa
