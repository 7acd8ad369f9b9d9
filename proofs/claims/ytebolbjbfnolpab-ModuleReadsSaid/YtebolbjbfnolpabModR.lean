/-
  The contract of module.Bytes.
-/
import Derived.Test.YtebolbjbfnolpabModQ
import Derived.Lib.SmallJoins
namespace Go.Proofs.Ytebolbjbfnolpab
open Go.RowKit HP
open Go.Proofs.Ytebolbjbfnolpab.Mod

namespace Mod
theorem err_right {m : List Act} (h : err m = 0) : m.length ≤ 8 ∧ m.all little = true ∧ m ≠ [] ∧ (m.all fun a => right a m.length) = true := by
  unfold err at h
  split at h
  · cases h
  · rename_i h1
    split at h
    · cases h
    · rename_i h2
      rw [not_or] at h1 h2
      rw [not_or] at h2
      refine ⟨by omega, by simpa using h1.2, fun e => h2.1 (by rw [e]; rfl), by simpa using h2.2.2⟩
theorem right_pos {a : Act} {n : Int} (h : right a n = true) : ∀ t ∈ a.tabs, ∀ c ∈ t.1, 0 ≤ c.1 ∧ c.1 ≤ 300 ∧ 0 ≤ c.2 ∧ c.2 ≤ 300 := by
  intro t ht c hc
  simp only [right, Bool.and_eq_true] at h
  have h1 := List.all_eq_true.1 h.1.2 t ht
  simp only [tab, Bool.and_eq_true] at h1
  have h2 := List.all_eq_true.1 h1.1 c hc
  simp only [clause, place, Bool.and_eq_true, decide_eq_true_eq] at h2
  omega
end Mod

theorem code_at {w : World} {b off : Nat} {l : List ActD} (h : Kn.At_ kActor w (some ⟨b, off, none⟩) l) (i : Nat) (hi : i < l.length) :
    ∀ x ∈ l[i].2.2.2.1.map toP, -9223372036854775808 ≤ x.2 ∧ x.2 ≤ 9223372036854775807 := by
  rcases h with rfl | ⟨b', off', e, h⟩
  · simp at hi
  · cases e
    obtain ⟨cs, ⟨_, _, rfl, ⟨aP, cP, rfl, p1, p2, _, p3⟩, _, _, rfl, ⟨aR, cR, rfl, r1, r2, _, r3⟩, _, _, rfl, ⟨aM, cM, rfl, m1, m2, _, m3⟩, _, _, rfl, ⟨aC, cC, rfl, c1, c2, _, c3⟩, _, _, rfl, ⟨aT, cT, rfl, t1, t2, _, t3⟩, rfl⟩, hc⟩ := h i _ (List.getElem?_eq_getElem hi)
    intro x hx
    obtain ⟨y, hy, rfl⟩ := List.mem_map.1 hx
    obtain ⟨k, hk, rfl⟩ := List.mem_iff_getElem.1 hy
    exact (code_fits c3 k hk).2

section
variable {w0 w : World} {L : List HP}

def HdRel (w0 : World) (a : Nat) (M : List HP) (i : Value) (wr : World) : Prop :=
  ∃ k : Nat, i = .int .i64 k ∧ k ≤ 3 ∧ At w0 wr (WriterC a (([67, 66, 49].take k).foldl Reel.W.byte (Reel.new 1048576)) :: M)

set_option maxRecDepth 100000 in
set_option maxHeartbeats 8000000 in
theorem mbytes_any (l : List ActD) (ao : Option Addr) (n cap : Nat) (hn : l.length = n) (hm : n ≤ maxLen) (hrd : Kn.At_ kActor w ao l) (hA : At w0 w L) :
    Calls Try.prog 8 #[.agg #[.slice ao n cap]] w fun e w' => e = .returned (.tuple #[.string (str (Mod.bytes (l.map toAct)).1), .int .i64 (Mod.bytes (l.map toAct)).2]) ∧ At w0 w' L := by
  suffices h : Calls Try.prog 8 #[.agg #[.slice ao n cap]] w fun e w' => e = .returned (.tuple #[.string (str (Mod.bytes (l.map toAct)).1), .int .i64 (Mod.bytes (l.map toAct)).2]) ∧ At w w' [] from h.mono fun e w' h => ⟨h.1, hA.join h.2⟩
  clear hA
  have hB := (At.start w).alloc (.cells #[.slice ao n cap] 25)
  have b0 := hB.cell 0
  have hr := modRight_any l ao n cap hn hm (Kn.At_.mv hB.below hrd) hB
  by_cases he : err (l.map toAct) = 0
  · have hb : Mod.bytes (l.map toAct) = (wmod (l.map toAct)).done := if_pos he
    obtain ⟨e1, e2, e3, e4⟩ := err_right he
    rw [he] at hr
    rw [hb]
    clear hb he
    have HR := Lib.hid hr; clear hr
    have hmod : wmod (l.map toAct) = l.foldl (fun W x => wact W (toAct x)) (whead.num n) := by rw [wmod, List.foldl_map, List.length_map, hn]
    rw [hmod]
    have HN := Lib.hid hn; clear hn hmod
    rw [List.length_map, HN.out] at e1 e4
    have E4 := Lib.hid (List.all_eq_true.1 e4); clear e2 e3 e4
    go_enter Try.func8, Try.ntmps8
    go_wp2_with (first
      | (go_at_call 16; with_reducible refine HR.out.mono ?_; rintro e w1 ⟨rfl, hV1⟩)
      | (go_at_call 26; refine (wnew_any 1048576 hV1).mono ?_; rintro e w2 ⟨a, rfl, hV2⟩; have hcv := Go.Joins.run_convert_bytes_const_at (P := Try.prog) (w2.alloc (.cells #[.pointer (some ⟨a, 0, none⟩)] 64)) 65 5 #[.int .u8 67, .int .u8 66, .int .u8 49] 3 3 (w2.heap.size + 1) (by simp) under_bytes under_byte))
    have hV3 := ((hV2.alloc (.cells #[.pointer (some ⟨a, 0, none⟩)] 64)).alloc (.cells #[.int .u8 67, .int .u8 66, .int .u8 49] 5 (3, 4))).pick3
    rw [World.size_alloc] at hV3
    obtain ⟨bw, hbw⟩ : ∃ bw, bw = w2.heap.size := ⟨_, rfl⟩
    obtain ⟨bm, hbm⟩ : ∃ bm, bm = w.heap.size := ⟨_, rfl⟩
    rw [← hbw, ← hbm] at hV3 ⊢
    clear hcv hbw hbm b0 hB HR hV1 hV2
    generalize hM : HP.one bw (.cells #[.pointer (some ⟨a, 0, none⟩)] 64 (0, 0)) = BW at *
    generalize hN : HP.one bm (.cells #[.slice ao n cap] 25 (0, 0)) = BM at *
    generalize hK : HP.one (bw + 1) (.cells #[.int .u8 67, .int .u8 66, .int .u8 49] 5 (3, 4)) = BK at *
    have HM := Lib.hid hM; clear hM
    have HNN := Lib.hid hN; clear hN
    have HK := Lib.hid hK; clear hK
    have hac : ∀ (w' : World) (V : Reel.W), At w w' [WriterC a V, BK, BW, BM] → w'.cell? ⟨bw, 0, none⟩ = some (.pointer (some ⟨a, 0, none⟩)) ∧ w'.cell? ⟨bm, 0, none⟩ = some (.slice ao n cap) ∧ w'.cell? ⟨bw + 1, 0, none⟩ = some (.int .u8 67) ∧ w'.cell? ⟨bw + 1, 1, none⟩ = some (.int .u8 66) ∧ w'.cell? ⟨bw + 1, 2, none⟩ = some (.int .u8 49) := by
      intro w' V h
      rw [← HM.out, ← HNN.out, ← HK.out] at h
      exact ⟨h.pick3.cell 0, h.pick4.cell 0, Go.Joins.cell_of_block h.pick2.blk 0, Go.Joins.cell_of_block h.pick2.blk 1, Go.Joins.cell_of_block h.pick2.blk 2⟩
    have HAC := Lib.hid hac; clear hac
    go_loopw [20] (fun i wr => HdRel w a [BK, BW, BM] i wr) (fun i _ => 3 - (intOf i).toNat)
    case atStart => exact ⟨0, rfl, by omega, hV3⟩
    case round =>
      clear hV3
      obtain ⟨k, rfl, hk, hV⟩ := hrel
      obtain ⟨g1, g2, g3, g4, g5⟩ := HAC.out _ _ hV
      rcases (by omega : k = 0 ∨ k = 1 ∨ k = 2 ∨ k = 3) with rfl | rfl | rfl | rfl
      · have hcb := wbyte_any 67 hV (by decide) (by decide) (by decide)
        have HB := Lib.hid hcb; clear hcb
        go_wp2_with (first
          | (go_at_call 27; with_reducible refine HB.out.mono ?_; rintro e w3 ⟨rfl, hU⟩))
        go_roundw
        case rel => exact ⟨1, by go_num, by omega, hU⟩
        case measure => simp [intOf]
      · have hcb := wbyte_any 66 hV (by decide) (by decide) (by decide)
        have HB := Lib.hid hcb; clear hcb
        go_wp2_with (first
          | (go_at_call 27; with_reducible refine HB.out.mono ?_; rintro e w3 ⟨rfl, hU⟩))
        go_roundw
        case rel => exact ⟨2, by go_num, by omega, hU⟩
        case measure => simp [intOf]
      · have hcb := wbyte_any 49 hV (by decide) (by decide) (by decide)
        have HB := Lib.hid hcb; clear hcb
        go_wp2_with (first
          | (go_at_call 27; with_reducible refine HB.out.mono ?_; rintro e w3 ⟨rfl, hU⟩))
        go_roundw
        case rel => exact ⟨3, by go_num, by omega, hU⟩
        case measure => simp [intOf]
      · have hV' : At w wr [WriterC a whead, BK, BW, BM] := hV
        clear hV
        have hcn := wcount_any n (by omega) Fit.head hV'
        have HCN := Lib.hid hcn; clear hcn
        go_wp2_with (first
          | (go_at_call 28; with_reducible refine HCN.out.mono ?_; rintro e w6 ⟨rfl, hV5⟩; obtain ⟨u1, u2, u3, u4, u5⟩ := HAC.out _ _ hV5))
        clear HCN hV' g1 g2 g3 g4 g5
        go_loopw [38] (fun i wr => WtRel (fun W x => wact W (toAct x)) l (whead.num n) w a [BK, BW, BM] n i wr) (fun i _ => n - (intOf i).toNat)
        case atStart => exact ⟨0, rfl, by omega, hV5⟩
        case round =>
          clear hV5 u1 u2 u3 u4 u5
          obtain ⟨j, rfl, hj, hV⟩ := hrel
          by_cases hlt : j < n
          · have hlt1 : j < l.length := by rw [HN.out]; exact hlt
            have HS := Lib.hid (foldl_take_succ (fun W x => wact W (toAct x)) (whead.num n) l j hlt1)
            obtain ⟨b, off, rfl⟩ : ∃ b off, ao = some ⟨b, off, none⟩ := by
              rcases hrd with rfl | ⟨b, off, e, _⟩
              · simp at hlt1
              · exact ⟨b, off, e⟩
            obtain ⟨aP, cP, aR, cR, aM, cM, aC, cC, aT, cT, ⟨d0, d1, d2, d3, d4⟩, gA⟩ := actor_at2 hrd j hlt1
            have hfits := code_at hrd j hlt1
            have hpos : Pos l[j].2.2.2.2.1 := fun t ht c hc => right_pos (E4.out (toAct l[j]) (List.mem_map_of_mem (List.getElem_mem hlt1))) (toTab t) (List.mem_map_of_mem ht) c hc
            have hft : Fit ((l.take j).foldl (fun W x => wact W (toAct x)) (whead.num n)) := Fit.fold (fun _ x h => h.act _) _ _ (Fit.head.num _)
            generalize (l.take j).foldl (fun W x => wact W (toAct x)) (whead.num n) = V at *
            generalize l[j] = x at *
            obtain ⟨p, r, m, c, ts, _⟩ := x
            simp only at d0 d1 d2 d3 d4 gA hfits hpos
            have d0 := hV.oldCell d0
            have d1 := hV.oldCell d1
            have d2 := hV.oldCell d2
            have d3 := hV.oldCell d3
            have d4 := hV.oldCell d4
            have hE := (hV.alloc (.cells #[.slice aP p.length cP, .slice aR r.length cR, .slice aM m.length cM, .slice aC c.length cC, .slice aT ts.length cT] 37)).pick2
            obtain ⟨g1, g2, g3⟩ := HAC.out _ _ hE.pick2.drop
            have e0 := hE.pick2.cell 0
            have e1 := hE.pick2.cell 1
            have e2 := hE.pick2.cell 2
            have e3 := hE.pick2.cell 3
            have e4 := hE.pick2.cell 4
            have hca := wactor_any p r m (c.map toP) ts aP aR aM aC aT cP cR cM cC cT p.length r.length m.length c.length ts.length rfl rfl rfl (by simp) rfl hfits hpos gA hft hE
            have HCA := Lib.hid hca; clear hca hfits hpos gA
            go_wp2_with (first
              | (go_at_call 29; with_reducible refine HCA.out.mono ?_; rintro e w6 ⟨rfl, hV6⟩))
            go_roundw
            case rel => exact ⟨j + 1, by go_num, by omega, by rw [HS.out]; exact hV6.pick2.drop⟩
            case measure => simp [intOf]; omega
          · have hkl : j = n := by omega
            have hT : (l.take j).foldl (fun W x => wact W (toAct x)) (whead.num n) = l.foldl (fun W x => wact W (toAct x)) (whead.num n) := by rw [List.take_of_length_le (by rw [HN.out]; omega)]
            rw [hT] at hV
            subst hkl
            obtain ⟨g1, g2, g3⟩ := HAC.out _ _ hV
            have hcd := wdone_any hV
            have HCD := Lib.hid hcd; clear hcd hT
            go_wp2_with (first
              | (go_at_call 30; refine HCD.out.mono ?_; rintro e w6 ⟨rfl, q, rfl⟩))
            go_returns
            exact ⟨rfl, (hV.drewN q).drop.drop.drop.drop⟩
  · have hb : Mod.bytes (l.map toAct) = ([], err (l.map toAct)) := if_neg he
    have T : (err (l.map toAct) != 0) = true := by simp [he]
    rw [hb]
    generalize err (l.map toAct) = e at *
    have HR := Lib.hid hr; clear hr hb he
    go_enter Try.func8, Try.ntmps8
    go_wp2_with (first
      | (go_at_call 16; with_reducible refine HR.out.mono ?_; rintro e w1 ⟨rfl, hV1⟩))
    go_returns
    exact ⟨rfl, hV1.drop⟩
end
end Go.Proofs.Ytebolbjbfnolpab
