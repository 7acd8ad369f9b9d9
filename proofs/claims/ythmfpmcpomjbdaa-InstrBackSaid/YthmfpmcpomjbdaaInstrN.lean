/-
  The contracts of the instructions' names, by the program and by the reference.
-/
import Derived.Test.YthmfpmcpomjbdaaInstrA
import Derived.Test.YthmfpmcpomjbdaaInstrLaw
namespace Go.Proofs.Ythmfpmcpomjbdaa
open Go.RowKit HP

theorem str_toList (l : List UInt8) : (str l).toList = l := by rw [ByteArray.toList_eq]; simp [str]
def namesV : Array Value := (Instr.names.map fun l => Value.string (str l)).toArray
section
variable {w0 w : World} {L : List HP}

theorem names_any (w : World) : Calls Try.prog 38 #[] w fun e w' => e = .returned (.slice (some ⟨w.heap.size, 0, none⟩) 27 27) ∧ w' = w.alloc (.cells namesV 9) := by
  go_enter Try.func38, Try.ntmps38
  go_wp2
  go_returns
  exact ⟨rfl, rfl⟩
theorem rnames_any (w : World) : Calls Try.prog 39 #[] w fun e w' => e = .returned (.slice (some ⟨w.heap.size, 0, none⟩) 27 27) ∧ w' = w.alloc (.cells namesV 9) := by
  go_enter Try.func39, Try.ntmps39
  go_wp2
  go_returns
  exact ⟨rfl, rfl⟩

theorem index_any (s : List UInt8) (l : List (List UInt8)) (ao : Option Addr) (n cap : Nat) (hn : l.length = n) (hm : n ≤ maxLen) (hrd : Rd w ao (l.map fun z => Value.string (str z))) :
    Calls Try.prog 37 #[.slice ao n cap, .string (str s)] w fun e w' => e = .returned (.int .i64 (Instr.idx s l 0)) ∧ w = w' := by
  unfold maxLen at hm
  subst hn
  go_enter Try.func37, Try.ntmps37
  go_wp2
  go_loop [8] (fun i => ∃ k : Nat, i = .int .i64 k ∧ k ≤ l.length ∧ Instr.idx s l 0 = Instr.idx s (l.drop k) k) (fun i => l.length - (intOf i).toNat)
  case atStart => exact ⟨0, rfl, by omega, rfl⟩
  case round =>
    obtain ⟨k, rfl, hk, hx⟩ := hrel
    have HX := Lib.hid hx; clear hx
    by_cases hlt : k < l.length
    · obtain ⟨b, off, rfl, hc⟩ := hrd.some_ (by simp; omega)
      have hck := hc k (.string (str l[k])) (by simp [hlt])
      clear hc
      have hd : l.drop k = l[k] :: l.drop (k + 1) := List.drop_eq_getElem_cons hlt
      by_cases he : l[k] = s
      · have T : ((str s).toList == (str l[k]).toList) = true := by simp [str_toList, he]
        have HD := Lib.hid hd; clear hd
        have HE := Lib.hid he; clear he
        go_wp2
        go_returns
        exact ⟨ret_int (by rw [HX.out, HD.out, Instr.idx, if_pos HE.out]), rfl⟩
      · have T : ((str s).toList == (str l[k]).toList) = false := by simp [str_toList]; exact fun h => he h.symm
        have HD := Lib.hid hd; clear hd
        have HE := Lib.hid he; clear he
        go_wp2
        go_round
        case rel => exact ⟨k + 1, by go_num, by omega, by rw [HX.out, HD.out, Instr.idx, if_neg HE.out]⟩
        case measure => simp [intOf]; omega
    · have hkl : k = l.length := by omega
      subst hkl
      go_wp2
      go_returns
      exact ⟨ret_int (by rw [HX.out]; simp [Instr.idx]), rfl⟩

theorem names_rd (w : World) : Rd (w.alloc (.cells namesV 9)) (some ⟨w.heap.size, 0, none⟩) (Instr.names.map fun z => Value.string (str z)) := by
  have := Rd.new w namesV 9
  exact this

theorem parse_any (s : List UInt8) (hA : At w0 w L) :
    Calls Try.prog 16 #[.string (str s)] w fun e w' => e = .returned (.tuple #[.int .i64 (Instr.parse s).1, .bool (Instr.parse s).2]) ∧ At w0 w' L := by
  unfold Instr.parse
  have hrd := names_rd w
  have hix := fun ww hrd => index_any (w := ww) s Instr.names (some ⟨w.heap.size, 0, none⟩) 27 27 rfl (by decide) hrd
  rcases Instr.idx_lo s Instr.names 0 with h | h
  · rw [h]
    rw [h] at hix
    have HX := Lib.hid hix; clear hix
    clear h
    go_enter Try.func16, Try.ntmps16
    go_wp2_with (first
      | (go_at_call 38; refine (names_any _).mono ?_; rintro e w1 ⟨rfl, rfl⟩)
      | (go_at_call 37; refine (HX.out _ hrd).mono ?_; rintro e w1 ⟨rfl, rfl⟩))
    go_returns
    exact ⟨rfl, (hA.alloc _).drop⟩
  · rw [show max (Instr.idx s Instr.names 0) 0 = Instr.idx s Instr.names 0 by omega]
    have hd : decide (0 ≤ Instr.idx s Instr.names 0) = true := by simp; omega
    rw [hd]
    generalize Instr.idx s Instr.names 0 = x at *
    have HX := Lib.hid hix; clear hix
    have h0 : ¬ x < 0 := by omega
    have h1 : 0 ≤ x := by omega
    clear h
    go_enter Try.func16, Try.ntmps16
    go_wp2_with (first
      | (go_at_call 38; refine (names_any _).mono ?_; rintro e w1 ⟨rfl, rfl⟩)
      | (go_at_call 37; refine (HX.out _ hrd).mono ?_; rintro e w1 ⟨rfl, rfl⟩))
    all_goals
      go_returns
      refine ⟨?_, (hA.alloc _).drop⟩
      first
        | rfl
        | (have : x = 0 := by omega
           subst this; rfl)

theorem rparse_any (s : List UInt8) (hA : At w0 w L) :
    Calls Try.prog 17 #[.string (str s)] w fun e w' => e = .returned (.tuple #[.int .i64 (Instr.parse s).1, .bool (Instr.parse s).2]) ∧ At w0 w' L := by
  have hrd := names_rd w
  have hAA := (hA.alloc (.cells namesV 9)).drop
  have hlen := Instr.names_len
  unfold Instr.parse
  go_enter Try.func17, Try.ntmps17
  go_wp2_with (first
    | (go_at_call 39; refine (rnames_any _).mono ?_; rintro e w1 ⟨rfl, rfl⟩))
  go_loop [5] (fun i => ∃ k : Nat, i = .int .i64 k ∧ k ≤ 27 ∧ Instr.idx s Instr.names 0 = Instr.idx s (Instr.names.drop k) k) (fun i => 27 - (intOf i).toNat)
  case atStart => exact ⟨0, rfl, by omega, rfl⟩
  case round =>
    obtain ⟨k, rfl, hk, hx⟩ := hrel
    have HX := Lib.hid hx; clear hx
    by_cases hlt : k < 27
    · have hlt' : k < Instr.names.length := by omega
      have hck := hrd.at_ k (.string (str Instr.names[k])) (by simp [hlt'])
      rw [Nat.zero_add] at hck
      have hd : Instr.names.drop k = Instr.names[k] :: Instr.names.drop (k + 1) := List.drop_eq_getElem_cons hlt'
      by_cases he : Instr.names[k] = s
      · have T : ((str Instr.names[k]).toList == (str s).toList) = true := by simp [str_toList, he]
        have HD := Lib.hid hd; clear hd
        have HE := Lib.hid he; clear he
        clear hlen
        go_wp2
        go_returns
        refine ⟨?_, hAA⟩
        rw [HX.out, HD.out, Instr.idx, if_pos HE.out]
        rw [show max (k : Int) 0 = k by omega, show decide (0 ≤ (k : Int)) = true by simp]
        rfl
      · have T : ((str Instr.names[k]).toList == (str s).toList) = false := by simp [str_toList, he]
        have HD := Lib.hid hd; clear hd
        have HE := Lib.hid he; clear he
        clear hlen
        go_wp2
        go_round
        case rel => exact ⟨k + 1, by go_num, by omega, by rw [HX.out, HD.out, Instr.idx, if_neg HE.out]⟩
        case measure => simp [intOf]; omega
    · have hkl : k = 27 := by omega
      subst hkl
      clear hlen
      go_wp2
      go_returns
      refine ⟨?_, hAA⟩
      rw [HX.out]
      rfl

theorem name_any (op : Int) (hA : At w0 w L) :
    Calls Try.prog 20 #[.int .i64 op] w fun e w' => e = .returned (.string (str (Instr.name op))) ∧ At w0 w' L := by
  have hrd := names_rd w
  have hAA := (hA.alloc (.cells namesV 9)).drop
  by_cases h0 : 0 ≤ op
  · by_cases h1 : op < 27
    · obtain ⟨k, rfl⟩ : ∃ k : Nat, op = k := ⟨op.toNat, by omega⟩
      have hk : k < Instr.names.length := by rw [Instr.names_len]; omega
      have hck := hrd.at_ k (.string (str Instr.names[k])) (by simp [hk])
      rw [Nat.zero_add] at hck
      have hn : Instr.name (k : Int) = Instr.names[k] := by rw [Instr.name, if_pos h0]; simp [hk]
      rw [hn]
      clear hn h0
      go_enter Try.func20, Try.ntmps20
      go_wp2_with (first
        | (go_at_call 38; refine (names_any _).mono ?_; rintro e w1 ⟨rfl, rfl⟩))
      go_returns
      exact ⟨rfl, hAA⟩
    · rw [Instr.name_out (by omega)]
      go_enter Try.func20, Try.ntmps20
      go_wp2_with (first
        | (go_at_call 38; refine (names_any _).mono ?_; rintro e w1 ⟨rfl, rfl⟩))
      go_returns
      exact ⟨rfl, hAA⟩
  · rw [Instr.name_out (by omega)]
    go_enter Try.func20, Try.ntmps20
    go_wp2_with (first
      | (go_at_call 38; refine (names_any _).mono ?_; rintro e w1 ⟨rfl, rfl⟩))
    go_returns
    exact ⟨rfl, hAA⟩

theorem rname_any (op : Int) (hA : At w0 w L) :
    Calls Try.prog 21 #[.int .i64 op] w fun e w' => e = .returned (.string (str (Instr.name op))) ∧ At w0 w' L := by
  have hrd := names_rd w
  have hAA := (hA.alloc (.cells namesV 9)).drop
  by_cases h0 : 0 ≤ op ∧ op ≤ 26
  · have HI := Lib.hid (show (decide (0 ≤ op) && decide (op ≤ 26)) = true by simp [h0])
    obtain ⟨k, rfl⟩ : ∃ k : Nat, op = k := ⟨op.toNat, by omega⟩
    have hk : k < Instr.names.length := by rw [Instr.names_len]; omega
    have hk27 : k < 27 := by omega
    have hck := hrd.at_ k (.string (str Instr.names[k])) (by simp [hk] <;> rfl)
    rw [Nat.zero_add] at hck
    have hn : Instr.name (k : Int) = Instr.names[k] := by rw [Instr.name, if_pos h0.1]; simp [hk] <;> rfl
    rw [hn]
    clear hn h0
    go_enter Try.func21, Try.ntmps21
    go_wp2_with (first
      | (go_at_call 34; refine (is_any _).mono ?_; rw [HI.out]; rintro e w2 ⟨rfl, rfl⟩)
      | (go_at_call 39; refine (rnames_any _).mono ?_; rintro e w1 ⟨rfl, rfl⟩))
    go_returns
    exact ⟨rfl, hAA⟩
  · have HI := Lib.hid (show (decide (0 ≤ op) && decide (op ≤ 26)) = false by simp; omega)
    rw [Instr.name_out (by omega)]
    go_enter Try.func21, Try.ntmps21
    go_wp2_with (first
      | (go_at_call 34; refine (is_any _).mono ?_; rw [HI.out]; rintro e w2 ⟨rfl, rfl⟩))
    go_returns
    exact ⟨rfl, hA⟩
end
end Go.Proofs.Ythmfpmcpomjbdaa
