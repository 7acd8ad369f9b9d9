/-
  The module's reader: tables.
-/
import Derived.Test.YtebolbjbfnolpabModS
import Derived.Deep.RegionLaw
namespace Go.Proofs.Ytebolbjbfnolpab
open Go.RowKit HP
open Go.Proofs.Ytebolbjbfnolpab.Mod

namespace Mod
def rclause (s : St) : PairD × St := (((number 200 s).1, (number 200 (number 200 s).2).1, ()), (number 200 (number 200 s).2).2)
def rtab (s : St) : TabD × St :=
  (((rep rclause (number 8 s).1 (number 8 s).2).1, (rep rclause (number 8 s).1 (number 8 s).2).2.1.int.1, ()),
    ((rep rclause (number 8 s).1 (number 8 s).2).2.1.int.2, (rep rclause (number 8 s).1 (number 8 s).2).2.2 || decide ((rep rclause (number 8 s).1 (number 8 s).2).2.1.int.1 < -1) || decide (200 < (rep rclause (number 8 s).1 (number 8 s).2).2.1.int.1)))
def rtabs (s : St) : List TabD × St := rep rtab (number 8 s).1 (number 8 s).2
theorem Ok.rclause {s : St} (h : Ok s) : Ok (Mod.rclause s).2 := (h.number _).number _
theorem Ok.rtab {s : St} (h : Ok s) : Ok (Mod.rtab s).2 := (Ok.rep (fun _ h => h.rclause) (h.number 8) _).int _
end Mod

section
variable {w0 w : World} {L : List HP} {a b : Nat}
theorem info_clause : (Try.prog.info? 77).map (fun i => (i.zero, i.size, i.bytes)) = some (some (.agg #[.int .i64 0, .int .i64 0]), 2, 16) := by kernel_rfl
theorem under_clauses : Try.prog.underlying 72 = some (.slice 77) := by kernel_rfl
theorem info_table : (Try.prog.info? 74).map (fun i => (i.zero, i.size, i.bytes)) = some (some (.agg #[.slice none 0 0, .int .i64 0]), 2, 32) := by kernel_rfl
theorem under_tables : Try.prog.underlying 35 = some (.slice 74) := by kernel_rfl

def ClRel (s1 : St) (w0 : World) (b a bt : Nat) (M : List HP) (n : Nat) (i : Value) (wr : World) : Prop :=
  ∃ (k : Nat) (ao : Option Addr) (cap : Nat) (vs : List (List Value)), i = .int .i64 k ∧ k ≤ n ∧
    At w0 wr (HP.row 77 kClause.sz ao k cap vs.flatten :: HP.Own (fun w => All2 (kClause.R w) (rep rclause k s1).1 vs) :: HP.one bt (.cells #[.slice ao k cap, .int .i64 0] 74 (0, 0)) :: RdP b a (rep rclause k s1).2.2 :: ReaderC a (rep rclause k s1).2.1 :: M)

theorem kslice_of {w : World} {l : List PairD} {ao : Option Addr} {n cap : Nat} (h : KSl kClause w l ao n cap) : kClauses.R w l [.slice ao n cap] := by
  obtain ⟨rfl, h1, h2, h3, h4⟩ := h
  exact ⟨ao, cap, rfl, h1, h2, h3, h4⟩

set_option maxRecDepth 100000 in
set_option maxHeartbeats 8000000 in
theorem rdtables_any (s : St) (hok : Ok s) (hA : At w0 w (RdP b a s.2 :: ReaderC a s.1 :: L)) :
    Calls Try.prog 14 #[.pointer (some ⟨b, 0, none⟩)] w fun e w' => ∃ ao cap, e = .returned (.slice ao (rtabs s).1.length cap) ∧
      At w0 w' (HP.Own (fun w => KSl kTable w (rtabs s).1 ao (rtabs s).1.length cap) :: RdP b a (rtabs s).2.2 :: ReaderC a (rtabs s).2.1 :: L) := by
  have hn := rdnumber_any 8 (by decide) s hok hA
  have hle := number_le 8 s
  have hok2 := hok.number 8
  have hrt : rtabs s = rep rtab (number 8 s).1 (number 8 s).2 := rfl
  rw [hrt]
  clear hrt hok hA
  generalize number 8 s = p at *
  obtain ⟨n, s1⟩ := p
  simp only at hn hle hok2 ⊢
  rw [rep_len]
  have HN := Lib.hid hn; clear hn
  go_enter Try.func14, Try.ntmps14
  go_wp2_with (go_at_call 11; refine HN.out.mono ?_; rintro e w1 ⟨rfl, hV⟩)
  go_loopw [9, 3] (fun i l wr => RepRel kTable rtab s1 w0 b a L n i l wr) (fun i _ _ => n - (intOf i).toNat)
  case atStart => exact ⟨0, none, 0, [], rfl, rfl, by omega, (hV.own_emp fun w => All2.nil _).row_nil _ _⟩
  case round =>
    clear hV HN
    obtain ⟨k, ao, cap, vs, rfl, rfl, hk, hV⟩ := hrel
    have hokk := Ok.rep (fun s h => h.rtab) hok2 k
    by_cases hlt : k < n
    · have HS := Lib.hid (show rep rtab (k + 1) s1 = ((rep rtab k s1).1 ++ [(rtab (rep rtab k s1).2).1], (rtab (rep rtab k s1).2).2) from rfl)
      generalize rep rtab k s1 = q at *
      obtain ⟨l0, s2⟩ := q
      simp only at hokk hV HS
      have hV1 := (hV.alloc (.cells #[.slice none 0 0, .int .i64 0] 74)).pick5.pick5
      have hn8 := rdnumber_any 8 (by decide) s2 hokk hV1
      have hle8 := number_le 8 s2
      have hok8 := hokk.number 8
      have HRT := Lib.hid (show rtab s2 = (((rep rclause (number 8 s2).1 (number 8 s2).2).1, (rep rclause (number 8 s2).1 (number 8 s2).2).2.1.int.1, ()),
        ((rep rclause (number 8 s2).1 (number 8 s2).2).2.1.int.2, (rep rclause (number 8 s2).1 (number 8 s2).2).2.2 || decide ((rep rclause (number 8 s2).1 (number 8 s2).2).2.1.int.1 < -1) || decide (200 < (rep rclause (number 8 s2).1 (number 8 s2).2).2.1.int.1))) from rfl)
      generalize number 8 s2 = p at *
      obtain ⟨m, s3⟩ := p
      simp only at hn8 hle8 hok8 HRT
      have HN8 := Lib.hid hn8; clear hn8
      go_wp2_with (go_at_call 11; refine HN8.out.mono ?_; rintro e w2 ⟨rfl, hU⟩)
      obtain ⟨bt, hbt⟩ : ∃ bt, bt = wr.heap.size := ⟨_, rfl⟩
      rw [← hbt] at hU ⊢
      clear hbt HN8 hV1 hV
      generalize hM : HP.row 74 kTable.sz ao k cap vs.flatten :: HP.Own (fun w => All2 (kTable.R w) l0 vs) :: L = M at *
      have HM := Lib.hid hM; clear hM
      go_loopw [13] (fun i wr => ClRel s3 w0 b a bt M m i wr) (fun i _ => m - (intOf i).toNat)
      case atStart => exact ⟨0, none, 0, [], rfl, by omega, (hU.pick3.own_emp fun w => All2.nil _).row_nil _ _⟩
      case round =>
        clear hU
        obtain ⟨j, ao1, cap1, vs1, rfl, hj, hV⟩ := hrel
        have hokj := Ok.rep (fun s h => h.rclause) hok8 j
        by_cases hltj : j < m
        · have HS2 := Lib.hid (show rep rclause (j + 1) s3 = ((rep rclause j s3).1 ++ [(((number 200 (rep rclause j s3).2).1 : Int), ((number 200 (number 200 (rep rclause j s3).2).2).1 : Int), ())], (number 200 (number 200 (rep rclause j s3).2).2).2) from rfl)
          generalize rep rclause j s3 = q at *
          obtain ⟨l1, s4⟩ := q
          simp only at hokj hV HS2
          have hn1 := rdnumber_any 200 (by decide) s4 hokj (hV.pick5.pick5)
          have hle1 := number_le 200 s4
          have hok1 := hokj.number 200
          generalize number 200 s4 = q at *
          obtain ⟨tag, s5⟩ := q
          simp only at hn1 hle1 hok1 HS2
          have hn2 := fun (w : World) (L : List HP) (h : At w0 w (RdP b a s5.2 :: ReaderC a s5.1 :: L)) => rdnumber_any 200 (by decide) s5 hok1 h
          have hle2 := number_le 200 s5
          generalize number 200 s5 = q at *
          obtain ⟨to, s6⟩ := q
          simp only at hn2 hle2 HS2
          have HN1 := Lib.hid hn1; clear hn1
          have HN2 := Lib.hid hn2; clear hn2
          go_wp2_with (go_at_call 11; refine HN1.out.mono ?_; rintro e w3 ⟨rfl, hU⟩)
          have c0 := hU.drew.pick5.cell 0
          go_region_law (first
            | (rw [if_pos (by rfl)]; go_simp; go_at_call 11; refine (HN2.out _ _ hU.drew).mono ?_; rintro e w4 ⟨rfl, hX⟩; dsimp only; have c1 := hX.pick5.cell 0; have hal := hX.pick3.alloc (.cells #[.int .i64 tag, .int .i64 to] 77); have hrn := hal.rdN; have c2 := hal.drop.pick5.cell 0)
            | (refine step_append_row rfl (.tmp 18) (.tmp 23) 72 rfl (.agg #[.int .i64 0, .int .i64 0]) 16 under_clauses info_clause rfl (by decide) hal.pick2 (by simp [Act.eval]) (some ⟨w4.heap.size, 0, none⟩) 1 1 [.int .i64 tag, .int .i64 to] (by simp [Act.eval]) rfl hrn (by intro u hu; simp at hu; rcases hu with rfl | rfl <;> rfl) (by unfold maxLen; omega) (by omega) ?_; intro ao' cap' w5 hY; have y0 := hY.pick2.drop.pick5.cell 0; have y1 := hY.pick2.drop.pick5.free 0))
          all_goals
            have hZ := hY.pick2.drop.pick5.setCell 0 (.slice ao' (j + 1) cap')
            go_wp2
            go_roundw
          all_goals first
            | (refine ⟨j + 1, ao', cap', vs1 ++ [[.int .i64 tag, .int .i64 to]], by go_num, by omega, ?_⟩
               rw [HS2.out, flatten_snoc]
               exact ((hZ.pick5.own_snoc' kClause (fun w => ⟨[.int .i64 tag], _, rfl, ⟨rfl, wf_of (x := tag) (by omega)⟩, [.int .i64 to], _, rfl, ⟨rfl, wf_of (x := to) (by omega)⟩, rfl⟩)).pick3))
            | (simp [intOf]; omega)
        · have hjm : j = m := by omega
          subst hjm
          have hK := hV.row_kn kClause (by decide)
          clear hV
          generalize rep rclause j s3 = q at *
          obtain ⟨cl, R, bad⟩ := q
          simp only at hK hokj HRT
          have hri := fun (w : World) (L : List HP) (h : At w0 w (ReaderC a R :: L)) => rint_any hokj.p hokj.l h
          have hxf := int_fits R
          generalize R.int = y at *
          obtain ⟨x, R2⟩ := y
          simp only at hri hxf HRT
          have HRI := Lib.hid hri; clear hri hokj
          have c0 := At.cell hK.pick3 0
          have hcs : (bad = true) ∨ (bad = false ∧ decide (x < -1) = true) ∨ (bad = false ∧ decide (x < -1) = false) := by
            cases bad <;> cases decide (x < -1) <;> simp
          rcases hcs with rfl | ⟨rfl, T1⟩ | ⟨rfl, T1⟩
          · simp only [Bool.true_or] at HRT
            go_wp2_with (first
              | (go_at_call 41; with_reducible refine (HRI.out _ _ hK.pick4).mono ?_; rintro e w3 ⟨rfl, hI⟩; rw [← HM.out] at hI; have k0 := At.cell hI.pick4 1; have k1 := At.free hI.pick4 1; have hJ := At.setCell hI.pick4 1 (.bool true); have m0 := hJ.pick4.cell 1; have m1 := hJ.pick4.free 1; have hT := hJ.pick4.setCell 1 (.int .i64 x); have n0 := hT.cell 0; have n1 := hT.cell 1; have hal := hT.pick5.alloc (.cells #[.slice ao1 j cap1, .int .i64 x] 74); have hrn := hal.rdN; simp only [World.size_setCell] at hal hrn)
              | (at_builtin; refine wpList_append_row rfl (.tmp 49) (.tmp 51) 35 rfl (.agg #[.slice none 0 0, .int .i64 0]) 32 under_tables info_table rfl (by decide) hal.pick2 rfl _ 1 1 [.slice ao1 j cap1, .int .i64 x] rfl rfl hrn (by intro u hu; simp at hu; rcases hu with rfl | rfl <;> rfl) (by unfold maxLen; omega) (by omega) ?_; intro ao' cap' w' hX))
            go_roundw
            case rel =>
              refine ⟨k + 1, ao', cap', vs ++ [[.slice ao1 j cap1, .int .i64 x]], by go_num, rfl, by omega, ?_⟩
              rw [HS.out, HRT.out, flatten_snoc]
              exact (((hX.pick2.drop.pick2.drop.pick4.own_imp (R' := fun w => kTable.R w (cl, x, ()) [.slice ao1 j cap1, .int .i64 x]) (fun w h => ⟨[.slice ao1 j cap1], _, rfl, kslice_of h, [.int .i64 x], _, rfl, ⟨rfl, wf_of (x := x) hxf⟩, rfl⟩)).pick5.own_snoc kTable).pick2)
            case measure => simp [intOf]; omega
          · simp only [T1, Bool.true_or, Bool.false_or] at HRT
            go_wp2_with (first
              | (go_at_call 41; with_reducible refine (HRI.out _ _ hK.pick4).mono ?_; rintro e w3 ⟨rfl, hI⟩; rw [← HM.out] at hI; have k0 := At.cell hI.pick4 1; have k1 := At.free hI.pick4 1; have hJ := At.setCell hI.pick4 1 (.bool true); have m0 := hJ.pick4.cell 1; have m1 := hJ.pick4.free 1; have hT := hJ.pick4.setCell 1 (.int .i64 x); have n0 := hT.cell 0; have n1 := hT.cell 1; have hal := hT.pick5.alloc (.cells #[.slice ao1 j cap1, .int .i64 x] 74); have hrn := hal.rdN; simp only [World.size_setCell] at hal hrn)
              | (at_builtin; refine wpList_append_row rfl (.tmp 49) (.tmp 51) 35 rfl (.agg #[.slice none 0 0, .int .i64 0]) 32 under_tables info_table rfl (by decide) hal.pick2 rfl _ 1 1 [.slice ao1 j cap1, .int .i64 x] rfl rfl hrn (by intro u hu; simp at hu; rcases hu with rfl | rfl <;> rfl) (by unfold maxLen; omega) (by omega) ?_; intro ao' cap' w' hX))
            go_roundw
            case rel =>
              refine ⟨k + 1, ao', cap', vs ++ [[.slice ao1 j cap1, .int .i64 x]], by go_num, rfl, by omega, ?_⟩
              rw [HS.out, HRT.out, flatten_snoc]
              exact (((hX.pick2.drop.pick2.drop.pick4.own_imp (R' := fun w => kTable.R w (cl, x, ()) [.slice ao1 j cap1, .int .i64 x]) (fun w h => ⟨[.slice ao1 j cap1], _, rfl, kslice_of h, [.int .i64 x], _, rfl, ⟨rfl, wf_of (x := x) hxf⟩, rfl⟩)).pick5.own_snoc kTable).pick2)
            case measure => simp [intOf]; omega
          · simp only [T1, Bool.false_or] at HRT
            go_wp2_with (first
              | (go_at_call 41; with_reducible refine (HRI.out _ _ hK.pick4).mono ?_; rintro e w3 ⟨rfl, hI⟩; rw [← HM.out] at hI; have k0 := At.cell hI.pick4 1; have k1 := At.free hI.pick4 1; have hJ := At.setCell hI.pick4 1 (.bool (decide (200 < x))); have m0 := hJ.pick4.cell 1; have m1 := hJ.pick4.free 1; have hT := hJ.pick4.setCell 1 (.int .i64 x); have n0 := hT.cell 0; have n1 := hT.cell 1; have hal := hT.pick5.alloc (.cells #[.slice ao1 j cap1, .int .i64 x] 74); have hrn := hal.rdN; simp only [World.size_setCell] at hal hrn)
              | (at_builtin; refine wpList_append_row rfl (.tmp 49) (.tmp 51) 35 rfl (.agg #[.slice none 0 0, .int .i64 0]) 32 under_tables info_table rfl (by decide) hal.pick2 rfl _ 1 1 [.slice ao1 j cap1, .int .i64 x] rfl rfl hrn (by intro u hu; simp at hu; rcases hu with rfl | rfl <;> rfl) (by unfold maxLen; omega) (by omega) ?_; intro ao' cap' w' hX))
            go_roundw
            case rel =>
              refine ⟨k + 1, ao', cap', vs ++ [[.slice ao1 j cap1, .int .i64 x]], by go_num, rfl, by omega, ?_⟩
              rw [HS.out, HRT.out, flatten_snoc]
              exact (((hX.pick2.drop.pick2.drop.pick4.own_imp (R' := fun w => kTable.R w (cl, x, ()) [.slice ao1 j cap1, .int .i64 x]) (fun w h => ⟨[.slice ao1 j cap1], _, rfl, kslice_of h, [.int .i64 x], _, rfl, ⟨rfl, wf_of (x := x) hxf⟩, rfl⟩)).pick5.own_snoc kTable).pick2)
            case measure => simp [intOf]; omega
    · have hkl : k = n := by omega
      subst hkl
      go_wp2
      go_returns
      exact ⟨_, _, rfl, hV.row_kn kTable (by decide)⟩
end
end Go.Proofs.Ytebolbjbfnolpab
