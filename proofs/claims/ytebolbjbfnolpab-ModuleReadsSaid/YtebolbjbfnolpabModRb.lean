/-
  The reference's reader of modules: instructions.
-/
import Derived.Test.YtebolbjbfnolpabModRa
import Derived.Test.YtebolbjbfnolpabInstrD
namespace Go.Proofs.Ytebolbjbfnolpab
open Go.RowKit HP
open Go.Proofs.Ytebolbjbfnolpab.Mod

namespace Mod
def rrins (R : Reel.R) : PairD × Reel.R :=
  (((Instr.read (R.text.drop R.pos)).1, (Instr.read (R.text.drop R.pos)).2.1, ()), ⟨R.text, R.pos + (Instr.read (R.text.drop R.pos)).2.2.1.toNat, (Instr.read (R.text.drop R.pos)).2.2.2⟩)
theorem Tx.rrins {R : Reel.R} (h : Tx R) : Tx (Mod.rrins R).2 := h
def rrcode (R : Reel.R) : List PairD × Reel.R := rrun rrins (rcount 200 R).1 (rcount 200 R).2
theorem Tx.rrcode {R : Reel.R} (h : Tx R) : Tx (Mod.rrcode R).2 := Tx.rrun (fun _ h => h.rrins) (h.rcount 200) _
/-- what is read of any text fits -/
theorem read_fits (t : List UInt8) : (0 ≤ (Instr.read t).1 ∧ (Instr.read t).1 ≤ 26) ∧ (-9223372036854775808 ≤ (Instr.read t).2.1 ∧ (Instr.read t).2.1 ≤ 9223372036854775807) ∧ 0 ≤ (Instr.read t).2.2.1 ∧ (Instr.read t).2.2.1 ≤ t.length := by
  by_cases h : (Instr.read t).2.2.2 = 0
  · obtain ⟨_, _, g1, g2, g3, g4, g5, g6⟩ := Instr.read_ok t h
    exact ⟨⟨g3, g4⟩, ⟨g5, g6⟩, by omega, g2⟩
  · obtain ⟨g1, g2, g3⟩ := Instr.read_no t h
    rw [g1, g2, g3]
    exact ⟨⟨by decide, by decide⟩, ⟨by decide, by decide⟩, by decide, by omega⟩
theorem bins_bytes {op a : Int} (h : Instr.right op a = true) : bins (op, a) = (Instr.bytes op a).1 := by rw [Instr.bytes, if_pos h]; rfl
theorem rreads_ins {i : PairD} (h : ins (toP i) = true) (hf : -9223372036854775808 ≤ i.2.1 ∧ i.2.1 ≤ 9223372036854775807) : RReads rrins (bins (toP i)) i := by
  obtain ⟨op, a, u⟩ := i
  simp only [toP] at h hf ⊢
  unfold ins at h
  intro T p r e
  rw [bins_bytes h] at e ⊢
  have := Instr.read_bytes op a hf.1 hf.2 h r
  unfold rrins
  simp only [e, this]
  rfl
theorem rreads_code {c : List PairD} (h1 : c.length ≤ 200) (h : ∀ i ∈ c, ins (toP i) = true) (hf : ∀ i ∈ c, -9223372036854775808 ≤ i.2.1 ∧ i.2.1 ≤ 9223372036854775807) : RReads rrcode (bcode (c.map toP)) c := by
  intro T p r e
  rw [bcode, List.length_map, ← flat_map, List.append_assoc] at e
  have e1 := rreads_count h1 (by decide) T p _ e
  have e2 := rreads_run (f := rrins) (b := fun i => bins (toP i)) (fun i hi => rreads_ins (h i hi) (hf i hi)) T _ r (behind e)
  unfold rrcode
  rw [e1]
  simp only [e2]
  rw [bcode, List.length_map, ← flat_map, List.length_append, Nat.add_assoc]
theorem rback_ins (R : Reel.R) (h0 : R.err = 0) (h : (rrins R).2.err = 0) : rrest R = bins (toP (rrins R).1) ++ rrest (rrins R).2 := by
  obtain ⟨g1, g2, g3, g4, _⟩ := Instr.read_ok (R.text.drop R.pos) h
  have e : bins (toP (rrins R).1) = (R.text.drop R.pos).take (Instr.read (R.text.drop R.pos)).2.2.1.toNat := by
    show bins ((Instr.read (R.text.drop R.pos)).1, (Instr.read (R.text.drop R.pos)).2.1) = _
    rw [bins_bytes g1, g2]
  rw [e]
  unfold rrest rrins
  simp only
  rw [← List.drop_drop, List.take_append_drop]
theorem rback_code : RBack rrcode (fun c => bcode (c.map toP)) := by
  intro R h
  have h1 := rback_run (f := rrins) (b := fun i => bins (toP i)) rback_ins _ _ h
  have h2 := rback_count 200 _ h1.1
  refine ⟨h2.1, ?_⟩
  have hl : (rcount 200 R).1 = (rrcode R).1.length := by
    unfold rrcode
    suffices ∀ k, (rrun rrins k (rcount 200 R).2).2.err = 0 → (rrun rrins k (rcount 200 R).2).1.length = k from (this _ h).symm
    intro k
    induction k with
    | zero => intro _; rfl
    | succ k ih =>
      intro hk
      rw [rrun] at hk ⊢
      by_cases h0 : (rrun rrins k (rcount 200 R).2).2.err = 0
      · rw [if_pos h0, List.length_append, ih h0]; rfl
      · rw [if_neg h0] at hk; exact absurd hk h0
  have e1 : rrest R = Reel.digits (rcount 200 R).1 ++ (((rrcode R).1.map fun i => bins (toP i)).flatten ++ rrest (rrcode R).2) := h2.2.trans (by rw [h1.2]; rfl)
  show rrest R = bcode ((rrcode R).1.map toP) ++ rrest (rrcode R).2
  rw [e1, bcode, List.length_map, hl, ← flat_map, List.append_assoc]
end Mod

section
variable {w0 w : World} {L : List HP} {a : Nat} {R : Reel.R}

/-- the loops that end at an error -/
def RuRel {t : TypeId} {α : Type} (K : Kn Try.prog t α) (f : Reel.R → α × Reel.R) (R1 : Reel.R) (w0 : World) (a : Nat) (L : List HP) (n : Nat) (i l : Value) (wr : World) : Prop :=
  ∃ (k : Nat) (ao : Option Addr) (cap : Nat) (vs : List (List Value)), i = .int .i64 ((n - k : Nat) : Int) ∧ l = .slice ao k cap ∧ k ≤ n ∧ (rrun f k R1).1.length = k ∧ At w0 wr (HP.row t K.sz ao k cap vs.flatten :: HP.Own (fun w => All2 (K.R w) (rrun f k R1).1 vs) :: RReaderC a (rrun f k R1).2 :: L)

set_option maxRecDepth 100000 in
set_option maxHeartbeats 4000000 in
theorem rrcode_any (hl : Tx R) (hA : At w0 w (RReaderC a R :: L)) :
    Calls Try.prog 20 #[.pointer (some ⟨a, 0, none⟩)] w fun e w' => ∃ ao cap, e = .returned (.slice ao (rrcode R).1.length cap) ∧
      At w0 w' (HP.Own (fun w => KSl kIns w (rrcode R).1 ao (rrcode R).1.length cap) :: RReaderC a (rrcode R).2 :: L) := by
  have hn := rcount_any 200 (by decide) hl hA
  have hle := rcount_le 200 R
  have hl2 := hl.rcount 200
  have hrt : rrcode R = rrun rrins (rcount 200 R).1 (rcount 200 R).2 := rfl
  rw [hrt]
  clear hrt hl hA
  generalize rcount 200 R = p at *
  obtain ⟨n, R1⟩ := p
  simp only at hn hle hl2 ⊢
  have HN := Lib.hid hn; clear hn
  go_enter Try.func20, Try.ntmps20
  go_wp2_with (go_at_call 18; refine HN.out.mono ?_; rintro e w1 ⟨rfl, hV⟩)
  go_loopw [4, 3] (fun i l wr => RuRel kIns rrins R1 w0 a L n i l wr) (fun i _ _ => (intOf i).toNat)
  case atStart => exact ⟨0, none, 0, [], rfl, rfl, by omega, rfl, (hV.own_emp fun w => All2.nil _).row_nil _ _⟩
  case round =>
    clear hV HN
    obtain ⟨k, ao, cap, vs, rfl, rfl, hk, hlen, hV⟩ := hrel
    have hlk := Tx.rrun (fun s h => h.rrins) hl2 k
    have c1 := At.cell hV.pick3 1
    have HLEN := Lib.hid hlen; clear hlen
    by_cases hlt : k < n
    · obtain ⟨d, hd⟩ : ∃ d : Nat, n - k = d + 1 := ⟨n - k - 1, by omega⟩
      rw [hd]
      have hdb : d ≤ 1000 := by omega
      have hd2 : n - (k + 1) = d := by omega
      have HD2 := Lib.hid hd2; clear hd2 hd
      by_cases he : (rrun rrins k R1).2.err = 0
      · have HGO := Lib.hid (rrun_go he)
        have c0 := At.cell hV.pick3 0
        have hr := rread_any ((rrun rrins k R1).2.text.drop (rrun rrins k R1).2.pos) (by simp; unfold Tx at hlk; omega) hV
        have hfit := read_fits ((rrun rrins k R1).2.text.drop (rrun rrins k R1).2.pos)
        have hri : rrins (rrun rrins k R1).2 = (((Instr.read ((rrun rrins k R1).2.text.drop (rrun rrins k R1).2.pos)).1, (Instr.read ((rrun rrins k R1).2.text.drop (rrun rrins k R1).2.pos)).2.1, ()), ⟨(rrun rrins k R1).2.text, (rrun rrins k R1).2.pos + (Instr.read ((rrun rrins k R1).2.text.drop (rrun rrins k R1).2.pos)).2.2.1.toNat, (Instr.read ((rrun rrins k R1).2.text.drop (rrun rrins k R1).2.pos)).2.2.2⟩) := rfl
        have E0 : ((rrun rrins k R1).2.err == 0) = true := by simp [he]
        have hgo := HGO.out
        have hlen := HLEN.out
        rw [hri] at hgo
        clear hri HGO HLEN he
        generalize rrun rrins k R1 = q at *
        obtain ⟨l0, T, p, er⟩ := q
        simp only at hr hfit hgo E0 hV c0 c1 hlen hlk
        have hsd : (str (T.drop p)).size = (T.drop p).length := rfl
        have htl := str_tail (T.drop p)
        have hdd := fun m => List.drop_drop (l := T) (i := m) (j := p)
        obtain ⟨t, ht⟩ : ∃ t, t = T.drop p := ⟨_, rfl⟩
        have hq0 : RReaderC a ⟨T, p, er⟩ = HP.one a (.cells #[.string (str t), .int .i64 er] 53 (0, 0)) := by unfold RReaderC; simp only; rw [ht]
        rw [hq0] at hV hr
        rw [← ht] at hr hfit hgo hsd htl hdd c0
        clear ht hq0
        generalize Instr.read t = g at *
        obtain ⟨op, ar, sz, er2⟩ := g
        simp only at hr hfit hgo
        obtain ⟨⟨f1, f2⟩, ⟨f3, f4⟩, f5, f6⟩ := hfit
        obtain ⟨m, rfl⟩ : ∃ m : Nat, sz = m := ⟨sz.toNat, by omega⟩
        have hm : m ≤ t.length := by omega
        rw [Int.toNat_natCast] at hgo
        have HR := Lib.hid hr; clear hr
        have HGO := Lib.hid hgo; clear hgo
        have HLEN := Lib.hid hlen; clear hlen
        have HTL := Lib.hid (htl m); clear htl
        have HDD := Lib.hid (hdd m); clear hdd
        have hq : RReaderC a ⟨T, p + m, er2⟩ = HP.one a (.cells #[.string (str (t.drop m)), .int .i64 er2] 53 (0, 0)) := by unfold RReaderC; simp only; rw [HDD.out]
        have HQ := Lib.hid hq; clear hq
        have htl2 := HTL.out
        have T11 : decide ((0 : Int) < (d : Int) + 1) = true := decide_eq_true (by omega)
        have hk200 : k ≤ 200 := by omega
        go_wp2_with (first
          | (go_at_call 48; refine HR.out.mono ?_; rintro e w2 ⟨rfl, hU⟩; have hU2 := hU.alloc (.cells #[.int .i64 op, .int .i64 ar] 32); have r0 := At.cell hU2.pick4 0; have r1 := At.cell hU2.pick4 1; have rf := At.free hU2.pick4 1; have hS1 := At.setCell hU2.pick4 1 (.int .i64 er2); have s0 := At.cell hS1 0; have sf := At.free hS1 0; have hS2 := hS1.setCell 0 (.string (str (t.drop m))); have b0 := hS2.pick2.cell 0; have b1 := hS2.pick2.cell 1; have hal := hS2.pick3.alloc (.cells #[.int .i64 op, .int .i64 ar] 32); have hrn := hal.rdN; simp only [World.size_setCell, World.size_alloc] at hal hrn)
          | (at_builtin; refine wpList_append_row rfl (.tmp 43) (.tmp 45) 33 rfl (.agg #[.int .i64 0, .int .i64 0]) 16 under_inss info_ins rfl (by decide) hal.pick2 rfl _ 1 1 [.int .i64 op, .int .i64 ar] rfl rfl hrn (by intro u hu; simp at hu; rcases hu with rfl | rfl <;> rfl) (by unfold maxLen; omega) (by omega) ?_; intro ao' cap' w' hX))
        go_roundw
        case rel =>
          refine ⟨k + 1, ao', cap', vs ++ [[.int .i64 op, .int .i64 ar]], by rw [HD2.out], rfl, by omega, by rw [HGO.out]; simp [HLEN.out], ?_⟩
          rw [HGO.out, flatten_snoc, HQ.out]
          exact ((hX.pick2.drop.pick3.drop).pick3.own_snoc' kIns (fun w => ⟨[.int .i64 op], _, rfl, ⟨rfl, wf_of (x := op) (by omega)⟩, [.int .i64 ar], _, rfl, ⟨rfl, wf_of (x := ar) ⟨f3, f4⟩⟩, rfl⟩)).pick2
        case measure => simp [intOf]
      · have HST := Lib.hid (rrun_stop he n hk)
        have E0 : ((rrun rrins k R1).2.err == 0) = false := by simp [he]
        have T11 : decide ((0 : Int) < (d : Int) + 1) = true := decide_eq_true (by omega)
        clear he
        go_wp2
        go_returns
        rw [HST.out, HLEN.out]
        exact ⟨_, _, rfl, hV.row_kn kIns (by decide)⟩
    · have hkl : n = k := by omega
      subst hkl
      rw [Nat.sub_self]
      go_wp2
      go_returns
      rw [HLEN.out]
      exact ⟨_, _, rfl, hV.row_kn kIns (by decide)⟩
end
end Go.Proofs.Ytebolbjbfnolpab
