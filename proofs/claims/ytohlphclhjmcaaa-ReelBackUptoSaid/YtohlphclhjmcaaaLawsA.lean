/-
  The laws over the reel: what all of them call first; ReelShort.
-/
import Derived.Test.YtohlphclhjmcaaaReelRef3
import Derived.Deep.RegionWith
namespace Go.Proofs.Ytohlphclhjmcaaa
open Go.RowKit HP

section
variable {w0 w : World} {L : List HP}

theorem d300 : Reel.digits 300 = [172, 2] := by rw [Reel.digits_big (by decide), Reel.digits_small (by decide)]; rfl
theorem lives_w : ((Reel.new 2).num 300).done = ([172, 2], 0) := by
  simp [Reel.W.num, Reel.new, Reel.W.add, Reel.W.done, d300, show max (2 : Int) 0 = 2 from rfl]
theorem lives_r : (Reel.read [172, 2]).num = (300, ⟨[172, 2], 2, 0⟩) := by
  simp [Reel.R.num, Reel.read, Reel.rdNum]
theorem lives_fin : (⟨[172, 2], 2, 0⟩ : Reel.R).fin = 0 := by simp [Reel.R.fin, Reel.R.left]

set_option maxRecDepth 100000 in
theorem lives_any (hA : At w0 w L) :
    Calls Try.prog 10 #[] w fun e w' => e = .returned (.bool true) ∧ At w0 w' L := by
  have hstr : (str [172, 2]).toList = [172, 2] := by decide +kernel
  go_enter Try.func10, Try.ntmps10
  go_wp2_with (first
    | (go_at_call 11; refine (wnew_any 2 hA).mono ?_; rintro e w' ⟨a, rfl, hA1⟩)
    | (go_at_call 12; refine (wnum_any 300 (by unfold U64; decide) hA1 (by decide) (by decide) (by decide)).mono ?_; rintro e w' ⟨rfl, hA2⟩)
    | (go_at_call 17; refine (wdone_any hA2).mono ?_; rw [lives_w]; rintro e w' ⟨rfl, n1, rfl⟩)
    | (go_at_call 19; refine (rnew_any [172, 2] (hA2.drewN _)).mono ?_; rintro e w' ⟨b, rfl, hA3⟩)
    | (go_at_call 25; refine (rnum_any (by decide) (by decide) hA3).mono ?_; rw [lives_r]; rintro e w' ⟨rfl, hA4⟩)
    | (go_at_call 22; refine (rend_any (by decide) (by decide) hA4).mono ?_; rw [lives_fin]; rintro e w' ⟨rfl, n2, rfl⟩))
  go_returns
  exact ⟨rfl, (hA4.drewN _).drop.drop⟩

theorem wf_u64 {a : Int} (h : (Lit.int .u64 a).wf = true) : ∃ n : Nat, a = n ∧ U64 n := by
  have : 0 ≤ a ∧ a ≤ 18446744073709551615 := by simpa [Lit.wf, IntKind.min, IntKind.max, IntKind.signed, IntKind.bits] using h
  exact ⟨a.toNat, by omega, by unfold U64; omega⟩
theorem wf_i64 {a : Int} (h : (Lit.int .i64 a).wf = true) : -9223372036854775808 ≤ a ∧ a ≤ 9223372036854775807 := by
  simpa [Lit.wf, IntKind.min, IntKind.max, IntKind.signed, IntKind.bits] using h

theorem digits_mono {a b : Nat} (h : a ≤ b) : (Reel.digits a).length ≤ (Reel.digits b).length := by
  induction b using Nat.strongRecOn generalizing a with
  | _ b ih =>
    by_cases hb : b < 128
    · rw [Reel.digits_small hb, Reel.digits_small (by omega)]; simp
    · rw [Reel.digits_big hb]
      by_cases ha : a < 128
      · rw [Reel.digits_small ha]; simp
      · rw [Reel.digits_big ha]
        have := ih (b / 128) (by omega) (a := a / 128) (Nat.div_le_div_right h)
        simp; omega
theorem new20 (n : Nat) (h : U64 n) : ((Reel.new 20).num n).out = Reel.digits n := by
  have := Reel.digits_len10 h
  have e : max (20 : Int) 0 = 20 := rfl
  simp only [Reel.W.num, Reel.new, Reel.W.add, e, if_true]
  rw [if_neg (by omega)]; rfl

set_option maxRecDepth 100000 in
theorem reelShort_any (a b : Nat) (ha : U64 a) (hb : U64 b) (w : World) :
    Calls Try.prog 3 #[.int .u64 a, .int .u64 b] w fun e w' => e = .returned (.bool true) ∧ Below w.heap.size w w' := by
  obtain ⟨W0, hW⟩ : ∃ W0, W0 = w := ⟨_, rfl⟩
  have hA : At W0 w [] := hW ▸ At.start w
  have HW := Lib.hid hW; clear hW
  have h10 := Reel.digits_len10 ha
  have HM := Lib.hid (fun h : a ≤ b => digits_mono h)
  have ea := new20 a ha
  have eb := new20 b hb
  have HEA := Lib.hid ea; clear ea
  have HEB := Lib.hid eb; clear eb
  go_enter Try.func3, Try.ntmps3
  go_wp2_with fail
  refine (lives_any hA).mono ?_
  rintro e w1 ⟨rfl, hA1⟩
  go_wp2_with fail
  refine (wnew_any 20 hA1).mono ?_
  rintro e w2 ⟨v, rfl, hA2⟩
  go_wp2_with fail
  refine (wnew_any 20 hA2).mono ?_
  rintro e w3 ⟨x, rfl, hA3⟩
  go_wp2_with fail
  refine (wnum_any a ha hA3.pick2 (by decide) (by decide) (by decide)).mono ?_
  rintro e w4 ⟨rfl, hA4⟩
  go_wp2_with fail
  refine (wnum_any b hb hA4.pick2 (by decide) (by decide) (by decide)).mono ?_
  rintro e w5 ⟨rfl, hA5⟩
  have e1 : At W0 w5 (WriterC x ((Reel.new 20).num b) :: WriterC v ((Reel.new 20).num a) :: []) := hA5
  have l1 := wlen_any e1
  have l2 := wlen_any e1.pick2
  rw [HEB.out] at l1
  rw [HEA.out] at l2
  have L1 := Lib.hid l1; clear l1
  have L2 := Lib.hid l2; clear l2
  go_wp2
  go_loop [7, 8] (fun n x => ∃ k m : Nat, n = .int .i64 k ∧ x = .int .u64 m ∧ U64 m ∧ k ≤ 10 ∧ k + (Reel.digits m).length = (Reel.digits a).length + 1) (fun _ x => (intOf x).toNat)
  case atStart => exact ⟨1, a, rfl, rfl, ha, by omega, by omega⟩
  case round =>
    obtain ⟨k, m, rfl, rfl, hm, hk, hkm⟩ := hrel
    have hpos := Reel.digits_pos m
    have hwr := wrap_div128 m hm
    have HKM := Lib.hid hkm; clear hkm
    by_cases hlt : 128 ≤ m
    · go_wp2
      go_round
      case rel =>
        have hkm := HKM.out
        rw [Reel.digits_big (by omega)] at hkm
        simp only [List.length_cons] at hkm
        have := Reel.digits_pos (m / 128)
        exact ⟨k + 1, m / 128, by go_num, by simp, u64_div hm, by omega, by omega⟩
      case measure => simp [intOf]; omega
    · have hk' : (Reel.digits a).length = k := by
        have hkm := HKM.out
        rw [Reel.digits_small (by omega)] at hkm
        simp at hkm; omega
      rw [hk'] at L2
      by_cases hab : a ≤ b
      · have hle := HM.out hab
        rw [hk'] at hle
        go_wp2_with (first | (go_at_call_of 13 v; refine L2.out.mono ?_; rintro e w' ⟨rfl, rfl⟩) | (go_at_call_of 13 x; refine L1.out.mono ?_; rintro e w' ⟨rfl, rfl⟩))
        go_returns
        exact ⟨rfl, HW.out ▸ hA5.below⟩
      · go_wp2_with (first | (go_at_call_of 13 v; refine L2.out.mono ?_; rintro e w' ⟨rfl, rfl⟩) | (go_at_call_of 13 x; refine L1.out.mono ?_; rintro e w' ⟨rfl, rfl⟩))
        go_returns
        exact ⟨rfl, HW.out ▸ hA5.below⟩
end

namespace reelShort
theorem reelShort_walk (W : World) (a : Int) (wa : (Lit.int .u64 a).wf = true) (b : Int) (wb : (Lit.int .u64 b).wf = true) :
    Calls Try.prog 3 #[.int .u64 a, .int .u64 b] W fun e w' => e = .returned (.bool true) ∧ Below W.heap.size W w' := by
  obtain ⟨m, rfl, hm⟩ := wf_u64 wa
  obtain ⟨n, rfl, hn⟩ := wf_u64 wb
  exact reelShort_any m n hm hn W
end reelShort

end Go.Proofs.Ytohlphclhjmcaaa
