/-
  The module's reader: numbers, types, instructions.
-/
import Derived.Test.YtebolbjbfnolpabOwn
import Derived.Test.YtebolbjbfnolpabModR
namespace Go.Proofs.Ytebolbjbfnolpab
open Go.RowKit HP
open Go.Proofs.Ytebolbjbfnolpab.Mod

namespace Mod
/-- a reader, and whether something was bad -/
abbrev St := Reel.R × Bool
def number (most : Nat) (s : St) : Nat × St := if most < s.1.num.1 then (0, s.1.num.2, true) else (s.1.num.1, s.1.num.2, s.2)
def rep {α : Type} (f : St → α × St) : Nat → St → List α × St
  | 0, s => ([], s)
  | k + 1, s => ((rep f k s).1 ++ [(f (rep f k s).2).1], (f (rep f k s).2).2)
def rbyte (s : St) : Int × St := (s.1.byte.1, s.1.byte.2, s.2)
def rtypes (s : St) : List Int × St := rep rbyte (number 16 s).1 (number 16 s).2
def rins (s : St) : PairD × St := if Instr.has s.1.byte.1 then ((s.1.byte.1, s.1.byte.2.int.1, ()), s.1.byte.2.int.2, s.2) else ((s.1.byte.1, 0, ()), s.1.byte.2, s.2)
def rcode (s : St) : List PairD × St := rep rins (number 200 s).1 (number 200 s).2
structure Ok (s : St) : Prop where
  p : s.1.pos ≤ s.1.text.length
  l : s.1.text.length ≤ 140737488355328
theorem Ok.num {s : St} (h : Ok s) (b : Bool) : Ok (s.1.num.2, b) := ⟨by rw [Reel.R.num_text]; exact s.1.num_pos h.p, by rw [Reel.R.num_text]; exact h.l⟩
theorem Ok.number {s : St} (h : Ok s) (most : Nat) : Ok (Mod.number most s).2 := by unfold Mod.number; split <;> exact h.num _
theorem Ok.int {s : St} (h : Ok s) (b : Bool) : Ok (s.1.int.2, b) := h.num b
theorem Ok.byte {s : St} (h : Ok s) (b : Bool) : Ok (s.1.byte.2, b) := ⟨by rw [Reel.R.byte_text]; exact Reel.R.byte_pos _ h.p, by rw [Reel.R.byte_text]; exact h.l⟩
theorem Ok.rbyte {s : St} (h : Ok s) : Ok (Mod.rbyte s).2 := h.byte _
theorem Ok.rins {s : St} (h : Ok s) : Ok (Mod.rins s).2 := by
  unfold Mod.rins
  split
  · exact (h.byte s.2).int _
  · exact h.byte _
theorem Ok.rep {α : Type} {f : St → α × St} (hf : ∀ s, Ok s → Ok (f s).2) {s : St} (h : Ok s) : ∀ k, Ok (Mod.rep f k s).2
  | 0 => h
  | k + 1 => hf _ (Ok.rep hf h k)
theorem number_le (most : Nat) (s : St) : (number most s).1 ≤ most := by unfold number; split <;> simp only <;> omega
theorem rep_len {α : Type} (f : St → α × St) (s : St) : ∀ k, (rep f k s).1.length = k
  | 0 => rfl
  | k + 1 => by rw [rep, List.length_append, rep_len f s k]; rfl
theorem byte_fits (R : Reel.R) : 0 ≤ R.byte.1 ∧ R.byte.1 ≤ 255 := by
  unfold Reel.R.byte
  split
  · split
    · simp
    · rename_i c _ _; have := c.toNat_lt; simp only; omega
  · simp
theorem int_fits (R : Reel.R) : -9223372036854775808 ≤ R.int.1 ∧ R.int.1 ≤ 9223372036854775807 := by
  have := R.num_fits
  unfold Reel.R.int Reel.unfold_
  simp only
  split <;> omega
theorem wf_of {x : Int} (h : -9223372036854775808 ≤ x ∧ x ≤ 9223372036854775807) : (Lit.int .i64 x).wf = true := by
  simpa [Lit.wf, IntKind.min, IntKind.max, IntKind.signed, IntKind.bits] using h
end Mod

/-- the reader's block -/
def RdP (b a : Nat) (bad : Bool) : HP := HP.one b (.cells #[.pointer (some ⟨a, 0, none⟩), .bool bad] 44 (0, 0))

section
variable {w0 w : World} {L : List HP} {a b : Nat}

theorem rdnumber_any (most : Nat) (hmost : most ≤ 1000) (s : St) (hok : Ok s) (hA : At w0 w (RdP b a s.2 :: ReaderC a s.1 :: L)) :
    Calls Try.prog 11 #[.pointer (some ⟨b, 0, none⟩), .int .i64 most] w fun e w' => e = .returned (.int .i64 (number most s).1) ∧ At w0 w' (RdP b a (number most s).2.2 :: ReaderC a (number most s).2.1 :: L) := by
  obtain ⟨R, bad⟩ := s
  have c0 := At.cell hA 0
  have hn := rnum_any hok.p hok.l hA.pick2
  have hfit := R.num_fits
  have HN := Lib.hid hn; clear hn
  by_cases hlt : most < R.num.1
  · have e : number most (R, bad) = (0, R.num.2, true) := if_pos hlt
    rw [e]
    have T : decide (most < R.num.1) = true := decide_eq_true hlt
    clear e hlt
    simp only at hA HN
    generalize R.num = p at *
    obtain ⟨v, R'⟩ := p
    simp only at hfit T HN
    go_enter Try.func11, Try.ntmps11
    go_wp2_with (go_at_call 38; refine HN.out.mono ?_; rintro e w1 ⟨rfl, hV⟩; have f0 := At.cell hV.pick2 1; have f1 := At.free hV.pick2 1)
    go_returns
    exact ⟨rfl, hV.pick2.setCell 1 _⟩
  · have e : number most (R, bad) = (R.num.1, R.num.2, bad) := if_neg hlt
    rw [e]
    have T : decide (most < R.num.1) = false := decide_eq_false hlt
    have hv : R.num.1 ≤ 1000 := by omega
    clear e hlt
    simp only at hA HN
    generalize R.num = p at *
    obtain ⟨v, R'⟩ := p
    simp only at hfit T HN hv
    go_enter Try.func11, Try.ntmps11
    go_wp2_with (go_at_call 38; refine HN.out.mono ?_; rintro e w1 ⟨rfl, hV⟩)
    go_returns
    exact ⟨rfl, hV.pick2⟩

def RepRel {t : TypeId} {α : Type} (K : Kn Try.prog t α) (f : St → α × St) (s1 : St) (w0 : World) (b a : Nat) (L : List HP) (n : Nat) (i l : Value) (wr : World) : Prop :=
  ∃ (k : Nat) (ao : Option Addr) (cap : Nat) (vs : List (List Value)), i = .int .i64 k ∧ l = .slice ao k cap ∧ k ≤ n ∧ At w0 wr (HP.row t K.sz ao k cap vs.flatten :: HP.Own (fun w => All2 (K.R w) (rep f k s1).1 vs) :: RdP b a (rep f k s1).2.2 :: ReaderC a (rep f k s1).2.1 :: L)
theorem flatten_snoc (vs : List (List Value)) (v : List Value) : (vs ++ [v]).flatten = vs.flatten ++ v := by simp

set_option maxRecDepth 100000 in
set_option maxHeartbeats 4000000 in
theorem rdtypes_any (s : St) (hok : Ok s) (hA : At w0 w (RdP b a s.2 :: ReaderC a s.1 :: L)) :
    Calls Try.prog 12 #[.pointer (some ⟨b, 0, none⟩)] w fun e w' => ∃ ao cap, e = .returned (.slice ao (rtypes s).1.length cap) ∧
      At w0 w' (HP.Own (fun w => KSl kType w (rtypes s).1 ao (rtypes s).1.length cap) :: RdP b a (rtypes s).2.2 :: ReaderC a (rtypes s).2.1 :: L) := by
  have hn := rdnumber_any 16 (by decide) s hok hA
  have hle := number_le 16 s
  have hok2 := hok.number 16
  have hrt : rtypes s = rep rbyte (number 16 s).1 (number 16 s).2 := rfl
  rw [hrt]
  clear hrt hok hA
  generalize number 16 s = p at *
  obtain ⟨n, s1⟩ := p
  simp only at hn hle hok2 ⊢
  rw [rep_len]
  have HN := Lib.hid hn; clear hn
  go_enter Try.func12, Try.ntmps12
  go_wp2_with (go_at_call 11; refine HN.out.mono ?_; rintro e w1 ⟨rfl, hV⟩)
  go_loopw [6, 3] (fun i l wr => RepRel kType rbyte s1 w0 b a L n i l wr) (fun i _ _ => n - (intOf i).toNat)
  case atStart => exact ⟨0, none, 0, [], rfl, rfl, by omega, (hV.own_emp fun w => All2.nil _).row_nil _ _⟩
  case round =>
    clear hV HN
    obtain ⟨k, ao, cap, vs, rfl, rfl, hk, hV⟩ := hrel
    have hokk := Ok.rep (fun s h => h.rbyte) hok2 k
    by_cases hlt : k < n
    · have hb := rbyte_any hokk.p hokk.l hV.pick4
      have hfit := byte_fits (rep rbyte k s1).2.1
      have c0 := At.cell hV.pick3 0
      have HS := Lib.hid (show rep rbyte (k + 1) s1 = ((rep rbyte k s1).1 ++ [(rep rbyte k s1).2.1.byte.1], ((rep rbyte k s1).2.1.byte.2, (rep rbyte k s1).2.2)) from rfl)
      generalize rep rbyte k s1 = q at *
      obtain ⟨l0, R, bad⟩ := q
      simp only at hb hfit c0 hV HS
      generalize R.byte = bb at *
      obtain ⟨x, R'⟩ := bb
      simp only at hb hfit HS
      have HB := Lib.hid hb; clear hb
      have hlen : k ≤ 16 := by omega
      go_wp2_with (first
        | (go_at_call 39; refine HB.out.mono ?_; rintro e w2 ⟨rfl, hU⟩)
        | (at_builtin; refine wpList_append1 hU.pick2 rfl (.tmp 8) (.tmp 14) 34 rfl (.int .i64 0) 8 under_types info_type rfl (by decide) rfl rfl rfl rfl (by omega) ?_; intro ao' cap' w' hX))
      go_roundw
      case rel =>
        refine ⟨k + 1, ao', cap', vs ++ [[.int .i64 x]], by go_num, rfl, by omega, ?_⟩
        rw [HS.out, flatten_snoc]
        exact ((hX.pick3.own_snoc' kType (fun w => ⟨rfl, wf_of (x := x) (by omega)⟩)).pick3.pick4.pick3.pick4)
      case measure => simp [intOf]; omega
    · have hkl : k = n := by omega
      subst hkl
      go_wp2
      go_returns
      exact ⟨_, _, rfl, hV.row_kn kType (by decide)⟩

theorem info_ins : (Try.prog.info? 32).map (fun i => (i.zero, i.size, i.bytes)) = some (some (.agg #[.int .i64 0, .int .i64 0]), 2, 16) := by kernel_rfl
theorem under_inss : Try.prog.underlying 33 = some (.slice 32) := by kernel_rfl

set_option maxRecDepth 100000 in
set_option maxHeartbeats 4000000 in
theorem rdcode_any (s : St) (hok : Ok s) (hA : At w0 w (RdP b a s.2 :: ReaderC a s.1 :: L)) :
    Calls Try.prog 13 #[.pointer (some ⟨b, 0, none⟩)] w fun e w' => ∃ ao cap, e = .returned (.slice ao (rcode s).1.length cap) ∧
      At w0 w' (HP.Own (fun w => KSl kIns w (rcode s).1 ao (rcode s).1.length cap) :: RdP b a (rcode s).2.2 :: ReaderC a (rcode s).2.1 :: L) := by
  have hn := rdnumber_any 200 (by decide) s hok hA
  have hle := number_le 200 s
  have hok2 := hok.number 200
  have hrt : rcode s = rep rins (number 200 s).1 (number 200 s).2 := rfl
  rw [hrt]
  clear hrt hok hA
  generalize number 200 s = p at *
  obtain ⟨n, s1⟩ := p
  simp only at hn hle hok2 ⊢
  rw [rep_len]
  have HN := Lib.hid hn; clear hn
  go_enter Try.func13, Try.ntmps13
  go_wp2_with (go_at_call 11; refine HN.out.mono ?_; rintro e w1 ⟨rfl, hV⟩)
  go_loopw [7, 3] (fun i l wr => RepRel kIns rins s1 w0 b a L n i l wr) (fun i _ _ => n - (intOf i).toNat)
  case atStart => exact ⟨0, none, 0, [], rfl, rfl, by omega, (hV.own_emp fun w => All2.nil _).row_nil _ _⟩
  case round =>
    clear hV HN
    obtain ⟨k, ao, cap, vs, rfl, rfl, hk, hV⟩ := hrel
    have hokk := Ok.rep (fun s h => h.rins) hok2 k
    by_cases hlt : k < n
    · have hb := rbyte_any hokk.p hokk.l hV.pick4
      have hfit := byte_fits (rep rins k s1).2.1
      have c0 := At.cell hV.pick3 0
      have HS := Lib.hid (show rep rins (k + 1) s1 = ((rep rins k s1).1 ++ [(rins (rep rins k s1).2).1], (rins (rep rins k s1).2).2) from rfl)
      generalize rep rins k s1 = q at *
      obtain ⟨l0, R, bad⟩ := q
      simp only at hb hfit c0 hV HS
      have hok3 := hokk.byte bad
      have hri : rins (R, bad) = if Instr.has R.byte.1 then ((R.byte.1, R.byte.2.int.1, ()), R.byte.2.int.2, bad) else ((R.byte.1, 0, ()), R.byte.2, bad) := rfl
      rw [hri] at HS
      clear hri hokk
      simp only at hok3
      generalize R.byte = bb at *
      obtain ⟨x, R'⟩ := bb
      simp only at hb hfit HS hok3
      have HB := Lib.hid hb; clear hb
      have hlen : k ≤ 200 := by omega
      cases hh : Instr.has x with
      | false =>
        have HH := Lib.hid hh
        rw [hh] at HS; clear hh
        go_wp2_with (first
          | (go_at_call 39; refine HB.out.mono ?_; rintro e w2 ⟨rfl, hU⟩; have hU2 := hU.alloc (.cells #[.int .i64 x, .int .i64 0] 32); have e0 := hU2.cell 0; have e1 := hU2.cell 1; have hal := hU2.pick3.alloc (.cells #[.int .i64 x, .int .i64 0] 32); have hrn := hal.rdN; rw [World.size_alloc] at hal hrn)
          | (go_at_call 40; refine (has_any _).mono ?_; rw [HH.out]; rintro e w' ⟨rfl, rfl⟩)
          | (at_builtin; refine wpList_append_row rfl (.tmp 24) (.tmp 26) 33 rfl (.agg #[.int .i64 0, .int .i64 0]) 16 under_inss info_ins rfl (by decide) hal.pick2 rfl _ 1 1 [.int .i64 x, .int .i64 0] rfl rfl hrn (by intro u hu; simp at hu; rcases hu with rfl | rfl <;> rfl) (by unfold maxLen; omega) (by omega) ?_; intro ao' cap' w' hX))
        go_roundw
        case rel =>
          refine ⟨k + 1, ao', cap', vs ++ [[.int .i64 x, .int .i64 0]], by go_num, rfl, by omega, ?_⟩
          rw [HS.out, flatten_snoc]
          exact (((hX.pick3.drop.pick2.drop).pick3.own_snoc' kIns (fun w => ⟨[.int .i64 x], _, rfl, ⟨rfl, wf_of (x := x) (by omega)⟩, [.int .i64 0], _, rfl, ⟨rfl, wf_of (x := 0) (by decide)⟩, rfl⟩)).pick3.pick4.pick3.pick4)
        case measure => simp [intOf]; omega
      | true =>
        have HH := Lib.hid hh
        rw [hh] at HS; clear hh
        have hri := fun (w : World) (L : List HP) (h : At w0 w (ReaderC a R' :: L)) => rint_any hok3.p hok3.l h
        have hyf := int_fits R'
        generalize R'.int = y at *
        obtain ⟨y, R2⟩ := y
        simp only at hri hyf HS
        have HRI := Lib.hid hri; clear hri
        go_wp2_with (first
          | (go_at_call 39; refine HB.out.mono ?_; rintro e w2 ⟨rfl, hU⟩; have hU2 := hU.alloc (.cells #[.int .i64 x, .int .i64 0] 32); have e0 := hU2.cell 0; have e1 := hU2.cell 1; have c5 := At.cell hU2.pick5 0)
          | (go_at_call 40; refine (has_any _).mono ?_; rw [HH.out]; rintro e w' ⟨rfl, rfl⟩)
          | (go_at_call 41; refine (HRI.out _ _ hU2.pick2).mono ?_; rintro e w3 ⟨rfl, hI⟩; have k0 := hI.pick2.cell 0; have k1 := hI.pick2.cell 1; have f1 := hI.pick2.free 1; have hS := hI.pick2.setCell 1 (.int .i64 y); have m0 := hS.cell 0; have m1 := hS.cell 1; have hal := hS.pick3.alloc (.cells #[.int .i64 x, .int .i64 y] 32); have hrn := hal.rdN; rw [World.size_setCell] at hal hrn)
          | (at_builtin; refine wpList_append_row rfl (.tmp 24) (.tmp 26) 33 rfl (.agg #[.int .i64 0, .int .i64 0]) 16 under_inss info_ins rfl (by decide) hal.pick2 rfl _ 1 1 [.int .i64 x, .int .i64 y] rfl rfl hrn (by intro u hu; simp at hu; rcases hu with rfl | rfl <;> rfl) (by unfold maxLen; omega) (by omega) ?_; intro ao' cap' w' hX))
        go_roundw
        case rel =>
          refine ⟨k + 1, ao', cap', vs ++ [[.int .i64 x, .int .i64 y]], by go_num, rfl, by omega, ?_⟩
          rw [HS.out, flatten_snoc]
          exact (((hX.pick3.drop.pick2.drop).pick3.own_snoc' kIns (fun w => ⟨[.int .i64 x], _, rfl, ⟨rfl, wf_of (x := x) (by omega)⟩, [.int .i64 y], _, rfl, ⟨rfl, wf_of (x := y) hyf⟩, rfl⟩)).pick3.pick4.pick3.pick4)
        case measure => simp [intOf]; omega
    · have hkl : k = n := by omega
      subst hkl
      go_wp2
      go_returns
      exact ⟨_, _, rfl, hV.row_kn kIns (by decide)⟩
end
end Go.Proofs.Ytebolbjbfnolpab
