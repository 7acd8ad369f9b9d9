/-
  The reference's reader of modules: tables.
-/
import Derived.Test.YtebolbjbfnolpabModRb
namespace Go.Proofs.Ytebolbjbfnolpab
open Go.RowKit HP
open Go.Proofs.Ytebolbjbfnolpab.Mod

namespace Mod
def rrclause (R : Reel.R) : PairD × Reel.R := (((rcount 8 R).1, (rcount 200 (rcount 8 R).2).1, ()), (rcount 200 (rcount 8 R).2).2)
theorem Tx.rrclause {R : Reel.R} (h : Tx R) : Tx (Mod.rrclause R).2 := (h.rcount _).rcount _
def rrcls (R : Reel.R) : List PairD × Reel.R := rrep rrclause (rcount 8 R).1 (rcount 8 R).2
theorem Tx.rrcls {R : Reel.R} (h : Tx R) : Tx (Mod.rrcls R).2 := Tx.rrep (fun _ h => h.rrclause) (h.rcount 8) _
def rrtab (R : Reel.R) : TabD × Reel.R :=
  (((rrcls R).1, (rrcls R).2.int.1, ()), if (rrcls R).2.int.1 < -1 ∨ 200 ≤ (rrcls R).2.int.1 then { (rrcls R).2.int.2 with err := 4 } else (rrcls R).2.int.2)
theorem Tx.rrtab {R : Reel.R} (h : Tx R) : Tx (Mod.rrtab R).2 := by
  unfold Mod.rrtab
  simp only
  split
  · exact (h.rrcls.int).er 4
  · exact h.rrcls.int
def rrtabs (R : Reel.R) : List TabD × Reel.R := rrun rrtab (rcount 8 R).1 (rcount 8 R).2
theorem Tx.rrtabs {R : Reel.R} (h : Tx R) : Tx (Mod.rrtabs R).2 := Tx.rrun (fun _ h => h.rrtab) (h.rcount 8) _
theorem rreads_clause {c : PairD} (h : clause (toP c) = true) : RReads rrclause (bclause (toP c)) c := by
  obtain ⟨g, to, u⟩ := c
  unfold clause at h
  rw [Bool.and_eq_true] at h
  have h1 := place_lt h.1
  have h2 := place_lt h.2
  simp only [toP] at h1 h2 ⊢
  intro T p r e
  unfold bclause at e ⊢
  simp only [List.append_assoc] at e
  have e1 := rreads_count (n := g.toNat) (most := 8) (by omega) (by decide) T p _ e
  have e2 := rreads_count (n := to.toNat) (most := 200) (by omega) (by decide) T _ _ (behind e)
  unfold rrclause
  simp only [e1, e2, List.length_append]
  rw [Nat.add_assoc, Int.toNat_of_nonneg h1.1, Int.toNat_of_nonneg h2.1]
theorem rreads_tab {t : TabD} (h8 : t.1.length ≤ 8) (h : tab (toTab t) = true) : RReads rrtab (btab (toTab t)) t := by
  obtain ⟨cs, to, u⟩ := t
  have h0 := tab_to h
  unfold tab at h
  rw [Bool.and_eq_true] at h
  simp only [toTab] at h0 h h8 ⊢
  have hc : ∀ c ∈ cs, clause (toP c) = true := fun c hc => List.all_eq_true.1 h.1 _ (List.mem_map_of_mem hc)
  intro T p r e
  unfold btab at e ⊢
  simp only [List.length_map, ← flat_map, List.append_assoc] at e
  have e1 := rreads_count h8 (by decide) T p _ e
  have e2 := rreads_rep (f := rrclause) (b := fun c => bclause (toP c)) (fun c hx => rreads_clause (hc c hx)) T _ _ (behind e)
  have e3 := int_of (a := to) (by omega) (behind (behind e))
  have e4 : rrcls ⟨T, p, 0⟩ = (cs, ⟨T, p + (Reel.digits cs.length).length + ((cs.map fun c => bclause (toP c)).flatten).length, 0⟩) := by
    unfold rrcls
    rw [e1]
    simp only [e2]
  unfold rrtab
  simp only [e4, e3]
  rw [if_neg (by omega)]
  simp only [List.length_map, ← flat_map, List.length_append, Nat.add_assoc]
theorem rreads_tabs {l : List TabD} (hl : l.length ≤ 8) (h8 : ∀ t ∈ l, t.1.length ≤ 8) (h : ∀ t ∈ l, tab (toTab t) = true) : RReads rrtabs (btabs (l.map toTab)) l := by
  intro T p r e
  rw [btabs, List.length_map, ← flat_map, List.append_assoc] at e
  have e1 := rreads_count hl (by decide) T p _ e
  have e2 := rreads_run (f := rrtab) (b := fun t => btab (toTab t)) (fun t ht => rreads_tab (h8 t ht) (h t ht)) T _ r (behind e)
  unfold rrtabs
  rw [e1]
  simp only [e2]
  rw [btabs, List.length_map, ← flat_map, List.length_append, Nat.add_assoc]
theorem rback_clause : RBack rrclause (fun c => bclause (toP c)) := by
  intro s hs
  have h1 := rback_count 200 _ hs
  have h2 := rback_count 8 _ h1.1
  refine ⟨h2.1, ?_⟩
  rw [h2.2, h1.2]
  simp [rrclause, toP, bclause]
theorem rback_tab : RBack rrtab (fun t => btab (toTab t)) := by
  intro s hs
  unfold rrtab at hs ⊢
  simp only at hs ⊢
  by_cases hx : (rrcls s).2.int.1 < -1 ∨ 200 ≤ (rrcls s).2.int.1
  · rw [if_pos hx] at hs; exact absurd hs (by simp)
  · rw [if_neg hx] at hs ⊢
    have h1 := back_int hs
    have h2 := rback_rep rback_clause _ _ h1.1
    have h3 := rback_count 8 _ h2.1
    refine ⟨h3.1, ?_⟩
    have e1 : rrest s = Reel.digits (rcount 8 s).1 ++ (((rrcls s).1.map fun c => bclause (toP c)).flatten ++ rrest (rrcls s).2) := h3.2.trans (by rw [h2.2]; rfl)
    have e2 : rrest (rrcls s).2 = Reel.digits (Reel.fold (rrcls s).2.int.1) ++ rrest (rrcls s).2.int.2 := h1.2
    have hl : (rcount 8 s).1 = (rrcls s).1.length := (rrep_len _ _ _).symm
    rw [e1, e2, hl]
    simp only [toTab, btab, flat_map, List.length_map, List.append_assoc]
theorem rrun_full {α : Type} {f : Reel.R → α × Reel.R} {R : Reel.R} : ∀ k, (rrun f k R).2.err = 0 → (rrun f k R).1.length = k
  | 0, _ => rfl
  | k + 1, h => by
    rw [rrun] at h ⊢
    by_cases h0 : (rrun f k R).2.err = 0
    · rw [if_pos h0, List.length_append, rrun_full k h0]; rfl
    · rw [if_neg h0] at h; exact absurd h h0
theorem rback_tabs : RBack rrtabs (fun l => btabs (l.map toTab)) := by
  intro R h
  have h1 := rback_run (f := rrtab) (b := fun t => btab (toTab t)) (fun R _ h => (rback_tab R h).2) _ _ h
  have h2 := rback_count 8 _ h1.1
  refine ⟨h2.1, ?_⟩
  have hl : (rcount 8 R).1 = (rrtabs R).1.length := (rrun_full _ h).symm
  have e1 : rrest R = Reel.digits (rcount 8 R).1 ++ (((rrtabs R).1.map fun i => btab (toTab i)).flatten ++ rrest (rrtabs R).2) := h2.2.trans (by rw [h1.2]; rfl)
  show rrest R = btabs ((rrtabs R).1.map toTab) ++ rrest (rrtabs R).2
  rw [e1, btabs, List.length_map, hl, ← flat_map, List.append_assoc]
end Mod

section
variable {w0 w : World} {L : List HP} {a : Nat} {R : Reel.R}

def RcRel (R1 : Reel.R) (w0 : World) (a bt : Nat) (M : List HP) (n : Nat) (i : Value) (wr : World) : Prop :=
  ∃ (k : Nat) (ao : Option Addr) (cap : Nat) (vs : List (List Value)), i = .int .i64 ((n - k : Nat) : Int) ∧ k ≤ n ∧
    At w0 wr (HP.row 77 kClause.sz ao k cap vs.flatten :: HP.Own (fun w => All2 (kClause.R w) (rrep rrclause k R1).1 vs) :: HP.one bt (.cells #[.slice ao k cap, .int .i64 0] 74 (0, 0)) :: RReaderC a (rrep rrclause k R1).2 :: M)

set_option maxRecDepth 100000 in
set_option maxHeartbeats 8000000 in
theorem rrtables_any (hl : Tx R) (hA : At w0 w (RReaderC a R :: L)) :
    Calls Try.prog 21 #[.pointer (some ⟨a, 0, none⟩)] w fun e w' => ∃ ao cap, e = .returned (.slice ao (rrtabs R).1.length cap) ∧
      At w0 w' (HP.Own (fun w => KSl kTable w (rrtabs R).1 ao (rrtabs R).1.length cap) :: RReaderC a (rrtabs R).2 :: L) := by
  have hn := rcount_any 8 (by decide) hl hA
  have hle := rcount_le 8 R
  have hl2 := hl.rcount 8
  have hrt : rrtabs R = rrun rrtab (rcount 8 R).1 (rcount 8 R).2 := rfl
  rw [hrt]
  clear hrt hl hA
  generalize rcount 8 R = p at *
  obtain ⟨n, R1⟩ := p
  simp only at hn hle hl2 ⊢
  have HN := Lib.hid hn; clear hn
  go_enter Try.func21, Try.ntmps21
  go_wp2_with (go_at_call 18; refine HN.out.mono ?_; rintro e w1 ⟨rfl, hV⟩)
  go_loopw [4, 3] (fun i l wr => RuRel kTable rrtab R1 w0 a L n i l wr) (fun i _ _ => (intOf i).toNat)
  case atStart => exact ⟨0, none, 0, [], rfl, rfl, by omega, rfl, (hV.own_emp fun w => All2.nil _).row_nil _ _⟩
  case round =>
    clear hV HN
    obtain ⟨k, ao, cap, vs, rfl, rfl, hk, hlen, hV⟩ := hrel
    have hlk := Tx.rrun (fun s h => h.rrtab) hl2 k
    have c1 := At.cell hV.pick3 1
    have HLEN := Lib.hid hlen; clear hlen
    by_cases hlt : k < n
    · obtain ⟨d, hd⟩ : ∃ d : Nat, n - k = d + 1 := ⟨n - k - 1, by omega⟩
      rw [hd]
      have hdb : d ≤ 1000 := by omega
      have hd2 : n - (k + 1) = d := by omega
      have HD2 := Lib.hid hd2; clear hd2 hd
      have T11 : decide ((0 : Int) < (d : Int) + 1) = true := decide_eq_true (by omega)
      by_cases he : (rrun rrtab k R1).2.err = 0
      · have HGO := Lib.hid (rrun_go he)
        have E0 : ((rrun rrtab k R1).2.err == 0) = true := by simp [he]
        clear he
        generalize rrun rrtab k R1 = q at *
        obtain ⟨l0, R2⟩ := q
        simp only at E0 hV c1 hlk HLEN HGO
        have hV1 := (hV.alloc (.cells #[.slice none 0 0, .int .i64 0] 74)).pick4
        have hn8 := rcount_any 8 (by decide) hlk hV1
        have hle8 := rcount_le 8 R2
        have hl8 := hlk.rcount 8
        have hcl : rrcls R2 = rrep rrclause (rcount 8 R2).1 (rcount 8 R2).2 := rfl
        have hrt : rrtab R2 = (((rrcls R2).1, (rrcls R2).2.int.1, ()), if (rrcls R2).2.int.1 < -1 ∨ 200 ≤ (rrcls R2).2.int.1 then { (rrcls R2).2.int.2 with err := 4 } else (rrcls R2).2.int.2) := rfl
        rw [hcl] at hrt
        have HRT := Lib.hid hrt; clear hrt hcl
        generalize rcount 8 R2 = p at *
        obtain ⟨m, R3⟩ := p
        simp only at hn8 hle8 hl8 HRT
        have HN8 := Lib.hid hn8; clear hn8
        have hk8 : k ≤ 8 := by omega
        go_wp2_with (go_at_call 18; refine HN8.out.mono ?_; rintro e w2 ⟨rfl, hU⟩)
        obtain ⟨bt, hbt⟩ : ∃ bt, bt = wr.heap.size := ⟨_, rfl⟩
        rw [← hbt] at hU ⊢
        clear hbt HN8 hV1 hV c1
        generalize hM : HP.row 74 kTable.sz ao k cap vs.flatten :: HP.Own (fun w => All2 (kTable.R w) l0 vs) :: L = M at *
        have HM := Lib.hid hM; clear hM
        go_loopw [6] (fun i wr => RcRel R3 w0 a bt M m i wr) (fun i _ => (intOf i).toNat)
        case atStart => exact ⟨0, none, 0, [], rfl, by omega, (hU.pick2.own_emp fun w => All2.nil _).row_nil _ _⟩
        case round =>
          clear hU
          obtain ⟨j, ao1, cap1, vs1, rfl, hj, hV⟩ := hrel
          have hlj := Tx.rrep (fun s h => h.rrclause) hl8 j
          by_cases hltj : j < m
          · obtain ⟨f, hf⟩ : ∃ f : Nat, m - j = f + 1 := ⟨m - j - 1, by omega⟩
            rw [hf]
            have hfb : f ≤ 1000 := by omega
            have hf2 : m - (j + 1) = f := by omega
            have HF2 := Lib.hid hf2; clear hf2 hf
            have HS2 := Lib.hid (show rrep rrclause (j + 1) R3 = ((rrep rrclause j R3).1 ++ [(((rcount 8 (rrep rrclause j R3).2).1 : Int), ((rcount 200 (rcount 8 (rrep rrclause j R3).2).2).1 : Int), ())], (rcount 200 (rcount 8 (rrep rrclause j R3).2).2).2) from rfl)
            generalize rrep rrclause j R3 = q at *
            obtain ⟨l1, R4⟩ := q
            simp only at hlj hV HS2
            have hn1 := rcount_any 8 (by decide) hlj hV.pick4
            have hle1 := rcount_le 8 R4
            have hl5 := hlj.rcount 8
            generalize rcount 8 R4 = q at *
            obtain ⟨tag, R5⟩ := q
            simp only at hn1 hle1 hl5 HS2
            have hn2 := fun (w : World) (L : List HP) (h : At w0 w (RReaderC a R5 :: L)) => rcount_any 200 (by decide) hl5 h
            have hle2 := rcount_le 200 R5
            generalize rcount 200 R5 = q at *
            obtain ⟨to, R6⟩ := q
            simp only at hn2 hle2 HS2
            have HN1 := Lib.hid hn1; clear hn1
            have HN2 := Lib.hid hn2; clear hn2
            have hj8 : j ≤ 8 := by omega
            go_wp2_with (go_at_call 18; refine HN1.out.mono ?_; rintro e w3 ⟨rfl, hU⟩)
            have c0 := hU.drew.pick4.cell 0
            go_region_law (first
              | (rw [if_pos (by rfl)]; go_simp; go_at_call 18; refine (HN2.out _ _ hU.drew).mono ?_; rintro e w4 ⟨rfl, hX⟩; dsimp only; have c1 := hX.pick4.cell 0; have hal := hX.pick2.alloc (.cells #[.int .i64 tag, .int .i64 to] 77); have hrn := hal.rdN; have c2 := hal.drop.pick4.cell 0)
              | (refine step_append_row rfl (.tmp 31) (.tmp 36) 72 rfl (.agg #[.int .i64 0, .int .i64 0]) 16 under_clauses info_clause rfl (by decide) hal.pick2 (by simp [Act.eval]) (some ⟨w4.heap.size, 0, none⟩) 1 1 [.int .i64 tag, .int .i64 to] (by simp [Act.eval]) rfl hrn (by intro u hu; simp at hu; rcases hu with rfl | rfl <;> rfl) (by unfold maxLen; omega) (by omega) ?_; intro ao' cap' w5 hY; have y0 := hY.pick2.drop.pick4.cell 0; have y1 := hY.pick2.drop.pick4.free 0))
            all_goals
              have hZ := hY.pick2.drop.pick4.setCell 0 (.slice ao' (j + 1) cap')
              go_wp2
              go_roundw
            all_goals first
              | (refine ⟨j + 1, ao', cap', vs1 ++ [[.int .i64 tag, .int .i64 to]], by rw [HF2.out], by omega, ?_⟩
                 rw [HS2.out, flatten_snoc]
                 exact ((hZ.pick4.own_snoc' kClause (fun w => ⟨[.int .i64 tag], _, rfl, ⟨rfl, wf_of (x := tag) (by omega)⟩, [.int .i64 to], _, rfl, ⟨rfl, wf_of (x := to) (by omega)⟩, rfl⟩)).pick3))
              | (simp [intOf])
          · have hjm : m = j := by omega
            subst hjm
            rw [Nat.sub_self]
            have hK := hV.row_kn kClause (by decide)
            clear hV
            generalize rrep rrclause m R3 = q at *
            obtain ⟨cl, R4⟩ := q
            simp only at hK hlj HRT
            obtain ⟨j, hjj⟩ : ∃ j, j = m := ⟨_, rfl⟩
            rw [← hjj] at hK ⊢
            have hj8 : j ≤ 8 := by omega
            clear hjj
            have hri := fun (w : World) (L : List HP) (h : At w0 w (RReaderC a R4 :: L)) => rrint_any hlj h
            have hxf := int_fits R4
            generalize R4.int = y at *
            obtain ⟨x, R5⟩ := y
            simp only at hri hxf HRT
            have HRI := Lib.hid hri; clear hri hlj
            have c0 := At.cell hK.pick2 0
            by_cases hx1 : x < -1
            · have T1 : decide (x < -1) = true := decide_eq_true hx1
              have hrt := HRT.out
              rw [if_pos (.inl hx1)] at hrt
              clear HRT hx1
              have HRT := Lib.hid hrt; clear hrt
              go_wp2_with (first
                | (go_at_call 49; with_reducible refine (HRI.out _ _ hK.pick3).mono ?_; rintro e w3 ⟨rfl, hI⟩; rw [← HM.out] at hI; have k0 := At.cell hI 1; have k1 := At.free hI 1; have hJ := At.setCell hI 1 (.int .i64 4); have m0 := hJ.pick3.cell 1; have m1 := hJ.pick3.free 1; have hT := hJ.pick3.setCell 1 (.int .i64 x); have n0 := hT.cell 0; have n1 := hT.cell 1; have hal := hT.pick4.alloc (.cells #[.slice ao1 j cap1, .int .i64 x] 74); have hrn := hal.rdN; simp only [World.size_setCell] at hal hrn)
                | (at_builtin; refine wpList_append_row rfl (.tmp 52) (.tmp 54) 35 rfl (.agg #[.slice none 0 0, .int .i64 0]) 32 under_tables info_table rfl (by decide) hal.pick2 rfl _ 1 1 [.slice ao1 j cap1, .int .i64 x] rfl rfl hrn (by intro u hu; simp at hu; rcases hu with rfl | rfl <;> rfl) (by unfold maxLen; omega) (by omega) ?_; intro ao' cap' w' hX))
              go_roundw
              case rel =>
                refine ⟨k + 1, ao', cap', vs ++ [[.slice ao1 j cap1, .int .i64 x]], by rw [HD2.out], rfl, by omega, by rw [HGO.out]; simp [HLEN.out], ?_⟩
                rw [HGO.out, HRT.out, flatten_snoc]
                exact (((hX.pick2.drop.pick2.drop.pick3.own_imp (R' := fun w => kTable.R w (cl, x, ()) [.slice ao1 j cap1, .int .i64 x]) (fun w h => ⟨[.slice ao1 j cap1], _, rfl, kslice_of h, [.int .i64 x], _, rfl, ⟨rfl, wf_of (x := x) hxf⟩, rfl⟩)).pick4.own_snoc kTable).pick2)
              case measure => simp [intOf]
            · have T1 : decide (x < -1) = false := decide_eq_false hx1
              by_cases hx2 : 200 ≤ x
              · have T2 : decide (200 ≤ x) = true := decide_eq_true hx2
                have hrt := HRT.out
                rw [if_pos (.inr hx2)] at hrt
                clear HRT hx1 hx2
                have HRT := Lib.hid hrt; clear hrt
                go_wp2_with (first
                  | (go_at_call 49; with_reducible refine (HRI.out _ _ hK.pick3).mono ?_; rintro e w3 ⟨rfl, hI⟩; rw [← HM.out] at hI; have k0 := At.cell hI 1; have k1 := At.free hI 1; have hJ := At.setCell hI 1 (.int .i64 4); have m0 := hJ.pick3.cell 1; have m1 := hJ.pick3.free 1; have hT := hJ.pick3.setCell 1 (.int .i64 x); have n0 := hT.cell 0; have n1 := hT.cell 1; have hal := hT.pick4.alloc (.cells #[.slice ao1 j cap1, .int .i64 x] 74); have hrn := hal.rdN; simp only [World.size_setCell] at hal hrn)
                  | (at_builtin; refine wpList_append_row rfl (.tmp 52) (.tmp 54) 35 rfl (.agg #[.slice none 0 0, .int .i64 0]) 32 under_tables info_table rfl (by decide) hal.pick2 rfl _ 1 1 [.slice ao1 j cap1, .int .i64 x] rfl rfl hrn (by intro u hu; simp at hu; rcases hu with rfl | rfl <;> rfl) (by unfold maxLen; omega) (by omega) ?_; intro ao' cap' w' hX))
                go_roundw
                case rel =>
                  refine ⟨k + 1, ao', cap', vs ++ [[.slice ao1 j cap1, .int .i64 x]], by rw [HD2.out], rfl, by omega, by rw [HGO.out]; simp [HLEN.out], ?_⟩
                  rw [HGO.out, HRT.out, flatten_snoc]
                  exact (((hX.pick2.drop.pick2.drop.pick3.own_imp (R' := fun w => kTable.R w (cl, x, ()) [.slice ao1 j cap1, .int .i64 x]) (fun w h => ⟨[.slice ao1 j cap1], _, rfl, kslice_of h, [.int .i64 x], _, rfl, ⟨rfl, wf_of (x := x) hxf⟩, rfl⟩)).pick4.own_snoc kTable).pick2)
                case measure => simp [intOf]
              · have T2 : decide (200 ≤ x) = false := decide_eq_false hx2
                have hrt := HRT.out
                rw [if_neg (by omega)] at hrt
                clear HRT hx1 hx2
                have HRT := Lib.hid hrt; clear hrt
                go_wp2_with (first
                  | (go_at_call 49; with_reducible refine (HRI.out _ _ hK.pick3).mono ?_; rintro e w3 ⟨rfl, hI⟩; rw [← HM.out] at hI; have hJ := hI; have m0 := hJ.pick3.cell 1; have m1 := hJ.pick3.free 1; have hT := hJ.pick3.setCell 1 (.int .i64 x); have n0 := hT.cell 0; have n1 := hT.cell 1; have hal := hT.pick4.alloc (.cells #[.slice ao1 j cap1, .int .i64 x] 74); have hrn := hal.rdN; simp only [World.size_setCell] at hal hrn)
                  | (at_builtin; refine wpList_append_row rfl (.tmp 52) (.tmp 54) 35 rfl (.agg #[.slice none 0 0, .int .i64 0]) 32 under_tables info_table rfl (by decide) hal.pick2 rfl _ 1 1 [.slice ao1 j cap1, .int .i64 x] rfl rfl hrn (by intro u hu; simp at hu; rcases hu with rfl | rfl <;> rfl) (by unfold maxLen; omega) (by omega) ?_; intro ao' cap' w' hX))
                go_roundw
                case rel =>
                  refine ⟨k + 1, ao', cap', vs ++ [[.slice ao1 j cap1, .int .i64 x]], by rw [HD2.out], rfl, by omega, by rw [HGO.out]; simp [HLEN.out], ?_⟩
                  rw [HGO.out, HRT.out, flatten_snoc]
                  exact (((hX.pick2.drop.pick2.drop.pick3.own_imp (R' := fun w => kTable.R w (cl, x, ()) [.slice ao1 j cap1, .int .i64 x]) (fun w h => ⟨[.slice ao1 j cap1], _, rfl, kslice_of h, [.int .i64 x], _, rfl, ⟨rfl, wf_of (x := x) hxf⟩, rfl⟩)).pick4.own_snoc kTable).pick2)
                case measure => simp [intOf]
      · have HST := Lib.hid (rrun_stop he n hk)
        have E0 : ((rrun rrtab k R1).2.err == 0) = false := by simp [he]
        clear he
        go_wp2
        go_returns
        rw [HST.out, HLEN.out]
        exact ⟨_, _, rfl, hV.row_kn kTable (by decide)⟩
    · have hkl : n = k := by omega
      subst hkl
      rw [Nat.sub_self]
      go_wp2
      go_returns
      rw [HLEN.out]
      exact ⟨_, _, rfl, hV.row_kn kTable (by decide)⟩
end
end Go.Proofs.Ytebolbjbfnolpab
