/-
  The law ModuleWhole.
-/
import Derived.Test.YtebolbjbfnolpadModV
import Derived.Test.YtebolbjbfnolpadModLaw
namespace Go.Proofs.Ytebolbjbfnolpad
open Go.RowKit HP
open Go.Proofs.Ytebolbjbfnolpad.Mod

theorem mstr_append (a b : List UInt8) : str a ++ str b = str (a ++ b) := by
  apply ByteArray.ext; simp [str]
theorem mstr_take (l : List UInt8) (n : Nat) : (str l).extract 0 n = str (l.take n) := by
  have := str_extract l 0 n
  simpa using this
/-- what the instructions of data name fits -/
theorem args_of {w : World} {ao : Option Addr} {l : List ActD} (h : Kn.At_ kActor w ao l) : ArgsD l := by
  rcases h with rfl | ⟨b, off, rfl, h⟩
  · intro a ha; simp at ha
  · intro a ha i hi
    obtain ⟨k, hk, rfl⟩ := List.mem_iff_getElem.1 ha
    obtain ⟨j, hj, rfl⟩ := List.mem_iff_getElem.1 hi
    obtain ⟨vs, hv, hc⟩ := h k l[k] (List.getElem?_eq_getElem hk)
    obtain ⟨c1, c2, e1, g1, c3, c4, e2, g2, c5, c6, e3, g3, c7, c8, e4, ⟨ao4, cap4, e5, g4⟩, _⟩ := hv
    exact (code_fits g4.2.2.2 j hj).2

section
set_option maxRecDepth 100000 in
set_option maxHeartbeats 8000000 in
theorem moduleWhole_any (l : List ActD) (ao : Option Addr) (n cap : Nat) (hn : l.length = n) (hm : n ≤ maxLen) (cut : Int) (hc0 : -9223372036854775808 ≤ cut) (hc1 : cut ≤ 9223372036854775807) (more : List UInt8) (hmo : more.length ≤ 140737488351232) (W : World) (hrd : Kn.At_ kActor W ao l) :
    Calls Try.prog 3 #[.agg #[.slice ao n cap], .int .i64 cut, .string (str more)] W fun e w' => e = .returned (.bool true) ∧ Below W.heap.size W w' := by
  have hB := (At.start W).alloc (.cells #[.slice ao n cap] 24)
  have b0 := hB.cell 0
  have k1 := fun (w1 : World) (L : List HP) (h : At W w1 L) => mbytes_any l ao n cap hn hm (Kn.At_.mv h.below hrd) h
  have hargs := args_of hrd
  by_cases he : err (l.map toAct) = 0
  · rw [bytes_right he hargs.args] at k1
    have hlen := bmod_le he hargs.args
    have hlen3 := (bmod_3 (l.map toAct) []).2
    have hcut := fun k => mread_cut (k := k) he hargs
    have hmore := fun h => mread_more (b := more) he hargs h
    have hmread := mread_bmod he hargs
    generalize bmod (l.map toAct) = B at *
    obtain ⟨q, hq⟩ : ∃ q, B.length = q + 1 := ⟨B.length - 1, by omega⟩
    rw [hq] at hlen hlen3 hcut
    obtain ⟨k, hk1, hwk⟩ : ∃ k : Nat, k < q + 1 ∧ wrap64 ((IntKind.u64.wrap cut).tmod (↑q + 1)) = (k : Int) := by
      have h0 : 0 ≤ IntKind.u64.wrap cut := Int.emod_nonneg _ (by decide)
      have h1 : (IntKind.u64.wrap cut).tmod (↑q + 1) = IntKind.u64.wrap cut % (↑q + 1) := Int.tmod_eq_emod_of_nonneg h0
      have h2 := Int.emod_nonneg (IntKind.u64.wrap cut) (show (q : Int) + 1 ≠ 0 by omega)
      have h3 := Int.emod_lt_of_pos (IntKind.u64.wrap cut) (show 0 < (q : Int) + 1 by omega)
      rw [h1]
      generalize IntKind.u64.wrap cut % (↑q + 1) = z at *
      refine ⟨z.toNat, by omega, ?_⟩
      rw [show wrap64 z = z from by unfold wrap64; rw [Int.emod_eq_of_lt (by omega) (by omega)]; omega]
      omega
    have r1 := fun (w1 : World) (L : List HP) (h : At W w1 L) => mread_any (B.take k) (by rw [List.length_take]; unfold maxLen; omega) h
    have r2 := fun (w1 : World) (L : List HP) (h : At W w1 L) => mread_any (B ++ more) (by rw [List.length_append]; unfold maxLen; omega) h
    have hc5 := hcut k hk1
    generalize mread (B.take k) = p1 at *
    obtain ⟨l1, g1⟩ := p1
    simp only at hc5; subst hc5
    have hT : (((mread (B ++ more)).2 == 0) == (str more).toList.isEmpty) = true := by
      rw [str_list]
      by_cases hz : more = []
      · subst hz; rw [List.append_nil, hmread]; rfl
      · have h1 := hmore hz
        have e1 : ((mread (B ++ more)).2 == 0) = false := by simpa using h1
        have e2 : more.isEmpty = false := by simpa using hz
        rw [e1, e2]; rfl
    generalize mread (B ++ more) = p2 at *
    obtain ⟨l2, g2⟩ := p2
    simp only at r1 r2 hT k1
    clear hcut hmore hmread
    have K1 := Lib.hid k1; clear k1
    have R1 := Lib.hid r1; clear r1
    have R2 := Lib.hid r2; clear r2
    have HT := Lib.hid hT; clear hT
    have hszB : (str B).size = q + 1 := hq
    have hszm : (str more).size = more.length := rfl
    have hsum : ¬ 9223372036854775807 < q + 1 + more.length := by omega
    have HAP := mstr_append B more
    have HTK := mstr_take B k
    have HQ := Lib.hid hq; clear hq
    go_enter Try.func3, Try.ntmps3
    go_wp2_with (first
      | (go_at_call 4; with_reducible refine (lives_any hB).mono ?_; rintro e w1 ⟨rfl, hV1⟩; have c1 := hV1.cell 0)
      | (go_at_call 5; with_reducible refine (K1.out _ _ hV1).mono ?_; rintro e w2 ⟨rfl, hV2⟩; have c2 := hV2.cell 0)
      | (go_at_call_of 6 (str (B.take k)); with_reducible refine (R1.out _ _ hV2).mono ?_; rintro e w3 ⟨ao1, cap1, rfl, hV3⟩; have hN := hV3.alloc (.cells #[.slice ao1 l1.length cap1] 24))
      | (go_at_call 6; with_reducible refine (R2.out _ _ hN).mono ?_; rintro e w4 ⟨ao2, cap2, rfl, hV4⟩; have hM := hV4.alloc (.cells #[.slice ao2 l2.length cap2] 24)))
    go_returns
    exact ⟨by rw [HT.out]; rfl, hM.below⟩
  · have hz : Mod.bytes (l.map toAct) = ([], err (l.map toAct)) := by rw [Mod.bytes, if_neg he]
    rw [hz] at k1
    have hE : (err (l.map toAct) != 0) = true := by simpa using he
    clear hz he
    generalize err (l.map toAct) = g at *
    simp only at k1
    have K1 := Lib.hid k1; clear k1
    go_enter Try.func3, Try.ntmps3
    go_wp2_with (first
      | (go_at_call 4; with_reducible refine (lives_any hB).mono ?_; rintro e w1 ⟨rfl, hV1⟩; have c1 := hV1.cell 0)
      | (go_at_call 5; with_reducible refine (K1.out _ _ hV1).mono ?_; rintro e w2 ⟨rfl, hV2⟩; have c2 := hV2.cell 0))
    go_returns
    exact ⟨by simp [str], hV2.below⟩
end
namespace moduleWhole
theorem moduleWhole_walk (W : World) (l : List ActD × Unit) (cs : Array Value) (hR : kModule.R W l cs.toList) (cut : Int) (hw : (Lit.int .i64 cut).wf = true) (more : List UInt8) (y : more.length ≤ 140737488351232) :
    Calls Try.prog 3 #[.agg cs, .int .i64 cut, .string (str more)] W fun e w' => e = .returned (.bool true) ∧ Below W.heap.size W w' := by
  obtain ⟨c1, c2, hc, ⟨ao, cap, rfl, h1, h2, h3, h4⟩, rfl⟩ := hR
  obtain rfl : cs = #[.slice ao l.1.length cap] := Array.toList_inj.1 hc
  obtain ⟨w1, w2⟩ := wf_i64m hw
  exact moduleWhole_any l.1 ao l.1.length cap rfl (by omega) cut w1 w2 more y W h4
end moduleWhole
end Go.Proofs.Ytebolbjbfnolpad
