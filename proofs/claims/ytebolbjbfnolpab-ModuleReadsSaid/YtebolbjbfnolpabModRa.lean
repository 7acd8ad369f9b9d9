/-
  The reference's reader of modules: numbers, types.
-/
import Derived.Test.YtebolbjbfnolpabModLaw
import Derived.Test.YtebolbjbfnolpabReelRef3
namespace Go.Proofs.Ytebolbjbfnolpab
open Go.RowKit HP
open Go.Proofs.Ytebolbjbfnolpab.Mod

namespace Mod
/-- what the reference's reader holds is of a size that there is -/
def Tx (R : Reel.R) : Prop := R.text.length ≤ 140737488355328
theorem Tx.byte {R : Reel.R} (h : Tx R) : Tx R.byte.2 := by unfold Tx; rw [Reel.R.byte_text]; exact h
theorem Tx.num {R : Reel.R} (h : Tx R) : Tx R.num.2 := by unfold Tx; rw [Reel.R.num_text]; exact h
theorem Tx.int {R : Reel.R} (h : Tx R) : Tx R.int.2 := h.num
theorem Tx.er {R : Reel.R} (h : Tx R) (e : Int) : Tx { R with err := e } := h
def rcount (most : Nat) (R : Reel.R) : Nat × Reel.R :=
  if R.num.2.err = 0 then (if most < R.num.1 then (0, { R.num.2 with err := 4 }) else (R.num.1, R.num.2)) else (0, R.num.2)
theorem Tx.rcount {R : Reel.R} (h : Tx R) (most : Nat) : Tx (Mod.rcount most R).2 := by
  unfold Mod.rcount
  split
  · split
    · exact h.num.er 4
    · exact h.num
  · exact h.num
theorem rcount_le (most : Nat) (R : Reel.R) : (rcount most R).1 ≤ most := by
  unfold rcount
  split
  · split
    · exact Nat.zero_le _
    · simp only; omega
  · exact Nat.zero_le _
/-- so often, whatever comes -/
def rrep {α : Type} (f : Reel.R → α × Reel.R) : Nat → Reel.R → List α × Reel.R
  | 0, R => ([], R)
  | k + 1, R => ((rrep f k R).1 ++ [(f (rrep f k R).2).1], (f (rrep f k R).2).2)
/-- so often, till an error comes -/
def rrun {α : Type} (f : Reel.R → α × Reel.R) : Nat → Reel.R → List α × Reel.R
  | 0, R => ([], R)
  | k + 1, R => if (rrun f k R).2.err = 0 then ((rrun f k R).1 ++ [(f (rrun f k R).2).1], (f (rrun f k R).2).2) else rrun f k R
theorem Tx.rrep {α : Type} {f : Reel.R → α × Reel.R} (hf : ∀ R, Tx R → Tx (f R).2) {R : Reel.R} (h : Tx R) : ∀ k, Tx (Mod.rrep f k R).2
  | 0 => h
  | k + 1 => hf _ (Tx.rrep hf h k)
theorem Tx.rrun {α : Type} {f : Reel.R → α × Reel.R} (hf : ∀ R, Tx R → Tx (f R).2) {R : Reel.R} (h : Tx R) : ∀ k, Tx (Mod.rrun f k R).2
  | 0 => h
  | k + 1 => by
    unfold Mod.rrun
    split
    · exact hf _ (Tx.rrun hf h k)
    · exact Tx.rrun hf h k
theorem rrep_len {α : Type} (f : Reel.R → α × Reel.R) (R : Reel.R) : ∀ k, (rrep f k R).1.length = k
  | 0 => rfl
  | k + 1 => by rw [rrep, List.length_append, rrep_len f R k]; rfl
theorem rrun_stop {α : Type} {f : Reel.R → α × Reel.R} {R : Reel.R} {k : Nat} (h : (rrun f k R).2.err ≠ 0) : ∀ n, k ≤ n → rrun f n R = rrun f k R := by
  intro n hn
  induction n with
  | zero => rw [show k = 0 by omega]
  | succ n ih =>
    by_cases hk : k = n + 1
    · rw [hk]
    · have e := ih (by omega)
      rw [rrun, e, if_neg h]
theorem rrun_go {α : Type} {f : Reel.R → α × Reel.R} {R : Reel.R} {k : Nat} (h : (rrun f k R).2.err = 0) : rrun f (k + 1) R = ((rrun f k R).1 ++ [(f (rrun f k R).2).1], (f (rrun f k R).2).2) := by
  rw [rrun, if_pos h]
theorem rrun_len {α : Type} (f : Reel.R → α × Reel.R) (R : Reel.R) : ∀ k, (rrun f k R).1.length ≤ k
  | 0 => Nat.le_refl _
  | k + 1 => by
    rw [rrun]
    split
    · rw [List.length_append]; have := rrun_len f R k; simp; omega
    · have := rrun_len f R k; omega
def rrtypes (most : Nat) (R : Reel.R) : List Int × Reel.R := rrep Reel.R.byte (rcount most R).1 (rcount most R).2
theorem Tx.rrtypes {R : Reel.R} (h : Tx R) (most : Nat) : Tx (Mod.rrtypes most R).2 := Tx.rrep (fun _ h => h.byte) (h.rcount most) _

/-! there -/
def RReads {α : Type} (f : Reel.R → α × Reel.R) (b : List UInt8) (x : α) : Prop :=
  ∀ (T : List UInt8) (p : Nat) (h : List UInt8), T.drop p = b ++ h → f ⟨T, p, 0⟩ = (x, ⟨T, p + b.length, 0⟩)
theorem rreads_count {n most : Nat} (h : n ≤ most) (h2 : most ≤ 1000) : RReads (rcount most) (Reel.digits n) n := by
  intro T p r e
  have := num_of (n := n) (by omega) e
  unfold rcount
  simp only [this]
  rw [if_pos trivial, if_neg (by omega)]
theorem rreads_byte {x : Int} (h0 : 0 ≤ x) (h1 : x ≤ 255) : RReads Reel.R.byte [UInt8.ofNat x.toNat] x := fun _ _ _ e => byte_of h0 h1 e
theorem rreads_rep {α : Type} {f : Reel.R → α × Reel.R} {b : α → List UInt8} {l : List α} (h : ∀ x ∈ l, RReads f (b x) x) : RReads (rrep f l.length) (l.map b).flatten l := by
  suffices ∀ k, k ≤ l.length → RReads (rrep f k) ((l.take k).map b).flatten (l.take k) by
    have := this l.length (Nat.le_refl _)
    rwa [List.take_length] at this
  intro k
  induction k with
  | zero => intro _ T p r _; rfl
  | succ k ih =>
    intro hk T p r e
    have hx := h l[k] (List.getElem_mem _)
    rw [List.take_succ_eq_append_getElem (by omega), List.map_append, List.flatten_append] at e ⊢
    simp only [List.map_cons, List.map_nil, List.flatten_cons, List.flatten_nil, List.append_nil] at e ⊢
    rw [List.append_assoc] at e
    have e1 := ih (by omega) T p _ e
    have e2 := hx T _ _ (behind e)
    rw [rrep, e1]
    simp only [e2, List.length_append]
    rw [Nat.add_assoc]
theorem rreads_run {α : Type} {f : Reel.R → α × Reel.R} {b : α → List UInt8} {l : List α} (h : ∀ x ∈ l, RReads f (b x) x) : RReads (rrun f l.length) (l.map b).flatten l := by
  suffices ∀ k, k ≤ l.length → RReads (rrun f k) ((l.take k).map b).flatten (l.take k) by
    have := this l.length (Nat.le_refl _)
    rwa [List.take_length] at this
  intro k
  induction k with
  | zero => intro _ T p r _; rfl
  | succ k ih =>
    intro hk T p r e
    have hx := h l[k] (List.getElem_mem _)
    rw [List.take_succ_eq_append_getElem (by omega), List.map_append, List.flatten_append] at e ⊢
    simp only [List.map_cons, List.map_nil, List.flatten_cons, List.flatten_nil, List.append_nil] at e ⊢
    rw [List.append_assoc] at e
    have e1 := ih (by omega) T p _ e
    have e2 := hx T _ _ (behind e)
    rw [rrun, e1]
    simp only [if_true, e2, List.length_append]
    rw [Nat.add_assoc]
theorem rreads_types {l : List Int} {most : Nat} (h1 : l.length ≤ most) (h2 : most ≤ 1000) (h : ∀ t ∈ l, 0 ≤ t ∧ t ≤ 255) : RReads (rrtypes most) (bt l) l := by
  intro T p r e
  rw [bt, ← flat_one, List.append_assoc] at e
  have e1 := rreads_count h1 h2 T p _ e
  have e2 := rreads_rep (f := Reel.R.byte) (b := fun t => [UInt8.ofNat t.toNat]) (fun t ht => rreads_byte (h t ht).1 (h t ht).2) T _ r (behind e)
  unfold rrtypes
  rw [e1]
  simp only [e2]
  rw [bt, ← flat_one, List.length_append, Nat.add_assoc]

/-! and back -/
def rrest (R : Reel.R) : List UInt8 := R.text.drop R.pos
def RBack {α : Type} (f : Reel.R → α × Reel.R) (b : α → List UInt8) : Prop := ∀ R : Reel.R, (f R).2.err = 0 → R.err = 0 ∧ rrest R = b (f R).1 ++ rrest (f R).2
theorem rback_count (most : Nat) : RBack (rcount most) Reel.digits := by
  intro R h
  unfold rcount at h ⊢
  by_cases h1 : R.num.2.err = 0
  · rw [if_pos h1] at h ⊢
    by_cases h2 : most < R.num.1
    · rw [if_pos h2] at h; exact absurd h (by simp)
    · rw [if_neg h2]; exact back_num h1
  · rw [if_neg h1] at h; exact absurd h h1
theorem rback_byte : RBack Reel.R.byte (fun x => [UInt8.ofNat x.toNat]) := fun _ h => back_byte h
theorem rback_rep {α : Type} {f : Reel.R → α × Reel.R} {b : α → List UInt8} (h : RBack f b) (k : Nat) : RBack (rrep f k) (fun l => (l.map b).flatten) := by
  induction k with
  | zero => intro s hs; exact ⟨hs, rfl⟩
  | succ k ih =>
    intro s hs
    have h1 := h (rrep f k s).2 hs
    have h2 := ih s h1.1
    refine ⟨h2.1, ?_⟩
    rw [h2.2, h1.2]
    simp [rrep]
theorem rback_run {α : Type} {f : Reel.R → α × Reel.R} {b : α → List UInt8} (h : ∀ R, R.err = 0 → (f R).2.err = 0 → rrest R = b (f R).1 ++ rrest (f R).2) (k : Nat) : RBack (rrun f k) (fun l => (l.map b).flatten) := by
  induction k with
  | zero => intro s hs; exact ⟨hs, rfl⟩
  | succ k ih =>
    intro s hs
    rw [rrun] at hs ⊢
    by_cases h0 : (rrun f k s).2.err = 0
    · rw [if_pos h0] at hs ⊢
      have h1 := h _ h0 hs
      have h2 := ih s h0
      refine ⟨h2.1, ?_⟩
      rw [h2.2, h1]
      simp
    · rw [if_neg h0] at hs; exact absurd hs h0
theorem rback_types (most : Nat) : RBack (rrtypes most) bt := by
  intro R h
  have h1 := rback_rep rback_byte _ _ h
  have h2 := rback_count most _ h1.1
  refine ⟨h2.1, ?_⟩
  rw [h2.2, h1.2]
  simp only [flat_one, bt, rrtypes, rrep_len, List.append_assoc]
end Mod

section
variable {w0 w : World} {L : List HP} {a : Nat} {R : Reel.R}

theorem rcount_any (most : Nat) (hmost : most ≤ 1000) (hl : Tx R) (hA : At w0 w (RReaderC a R :: L)) :
    Calls Try.prog 18 #[.pointer (some ⟨a, 0, none⟩), .int .i64 most] w fun e w' => e = .returned (.int .i64 (rcount most R).1) ∧ At w0 w' (RReaderC a (rcount most R).2 :: L) := by
  have hn := rrnum_any hl hA
  have hfit := R.num_fits
  have hrc : rcount most R = if R.num.2.err = 0 then (if most < R.num.1 then (0, { R.num.2 with err := 4 }) else (R.num.1, R.num.2)) else (0, R.num.2) := rfl
  rw [hrc]
  clear hrc
  generalize R.num = p at *
  obtain ⟨v, R'⟩ := p
  simp only at hn hfit ⊢
  have HN := Lib.hid hn; clear hn
  by_cases he : R'.err = 0
  · rw [if_pos he]
    have E1 : (R'.err == 0) = true := by simp [he]
    have E2 : (R'.err != 0) = false := by simp [he]
    by_cases hlt : most < v
    · rw [if_pos hlt]
      have T : decide (most < v) = true := decide_eq_true hlt
      clear hlt he
      go_enter Try.func18, Try.ntmps18
      go_wp2_with (go_at_call 47; refine HN.out.mono ?_; rintro e w1 ⟨rfl, hV⟩; have c1 := At.cell hV 1; have f1 := At.free hV 1; have hS := hV.setCell 1 (.int .i64 4); have d1 := hS.cell 1)
      go_returns
      exact ⟨rfl, hS⟩
    · rw [if_neg hlt]
      have T : decide (most < v) = false := decide_eq_false hlt
      have hv : v ≤ 1000 := by omega
      clear hlt he
      go_enter Try.func18, Try.ntmps18
      go_wp2_with (go_at_call 47; refine HN.out.mono ?_; rintro e w1 ⟨rfl, hV⟩; have c1 := At.cell hV 1)
      go_returns
      exact ⟨rfl, hV⟩
  · rw [if_neg he]
    have E1 : (R'.err == 0) = false := by simp [he]
    have E2 : (R'.err != 0) = true := by simp [he]
    clear he
    go_enter Try.func18, Try.ntmps18
    go_wp2_with (go_at_call 47; refine HN.out.mono ?_; rintro e w1 ⟨rfl, hV⟩; have c1 := At.cell hV 1)
    go_returns
    exact ⟨rfl, hV⟩

/-- the loops: so many are left -/
def RnRel {t : TypeId} {α : Type} (K : Kn Try.prog t α) (f : Reel.R → α × Reel.R) (R1 : Reel.R) (w0 : World) (a : Nat) (L : List HP) (n : Nat) (i l : Value) (wr : World) : Prop :=
  ∃ (k : Nat) (ao : Option Addr) (cap : Nat) (vs : List (List Value)), i = .int .i64 ((n - k : Nat) : Int) ∧ l = .slice ao k cap ∧ k ≤ n ∧ At w0 wr (HP.row t K.sz ao k cap vs.flatten :: HP.Own (fun w => All2 (K.R w) (rrep f k R1).1 vs) :: RReaderC a (rrep f k R1).2 :: L)

set_option maxRecDepth 100000 in
set_option maxHeartbeats 4000000 in
theorem rrtypes_any (most : Nat) (hmost : most ≤ 1000) (hl : Tx R) (hA : At w0 w (RReaderC a R :: L)) :
    Calls Try.prog 19 #[.pointer (some ⟨a, 0, none⟩), .int .i64 most] w fun e w' => ∃ ao cap, e = .returned (.slice ao (rrtypes most R).1.length cap) ∧
      At w0 w' (HP.Own (fun w => KSl kType w (rrtypes most R).1 ao (rrtypes most R).1.length cap) :: RReaderC a (rrtypes most R).2 :: L) := by
  have hn := rcount_any most hmost hl hA
  have hle := rcount_le most R
  have hl2 := hl.rcount most
  have hrt : rrtypes most R = rrep Reel.R.byte (rcount most R).1 (rcount most R).2 := rfl
  rw [hrt]
  clear hrt hl hA
  generalize rcount most R = p at *
  obtain ⟨n, R1⟩ := p
  simp only at hn hle hl2 ⊢
  rw [rrep_len]
  have HN := Lib.hid hn; clear hn
  go_enter Try.func19, Try.ntmps19
  go_wp2_with (go_at_call 18; refine HN.out.mono ?_; rintro e w1 ⟨rfl, hV⟩)
  go_loopw [6, 5] (fun i l wr => RnRel kType Reel.R.byte R1 w0 a L n i l wr) (fun i _ _ => (intOf i).toNat)
  case atStart => exact ⟨0, none, 0, [], rfl, rfl, by omega, (hV.own_emp fun w => All2.nil _).row_nil _ _⟩
  case round =>
    clear hV HN
    obtain ⟨k, ao, cap, vs, rfl, rfl, hk, hV⟩ := hrel
    have hlk := Tx.rrep (fun s h => h.byte) hl2 k
    by_cases hlt : k < n
    · have hb := rrbyte_any hV.pick3
      have hfit := byte_fits (rrep Reel.R.byte k R1).2
      have HS := Lib.hid (show rrep Reel.R.byte (k + 1) R1 = ((rrep Reel.R.byte k R1).1 ++ [(rrep Reel.R.byte k R1).2.byte.1], (rrep Reel.R.byte k R1).2.byte.2) from rfl)
      generalize rrep Reel.R.byte k R1 = q at *
      obtain ⟨l0, R2⟩ := q
      simp only at hb hfit hV HS
      generalize R2.byte = bb at *
      obtain ⟨x, R'⟩ := bb
      simp only at hb hfit HS
      have HB := Lib.hid hb; clear hb
      have hfit2 : -9223372036854775808 ≤ x ∧ x ≤ 9223372036854775807 := by omega
      obtain ⟨d, hd⟩ : ∃ d : Nat, n - k = d + 1 := ⟨n - k - 1, by omega⟩
      rw [hd]
      have hdb : d ≤ 1000 := by omega
      have hd2 : n - (k + 1) = d := by omega
      have HD2 := Lib.hid hd2; clear hd2 hd
      go_wp2_with (first
        | (go_at_call 17; refine HB.out.mono ?_; rintro e w2 ⟨rfl, hU⟩)
        | (at_builtin; refine wpList_append1 hU.pick2 rfl (.tmp 14) (.tmp 17) 34 rfl (.int .i64 0) 8 under_types info_type rfl (by decide) rfl rfl rfl rfl (by omega) ?_; intro ao' cap' w' hX))
      go_roundw
      case rel =>
        refine ⟨k + 1, ao', cap', vs ++ [[.int .i64 x]], by rw [HD2.out], rfl, by omega, ?_⟩
        rw [HS.out, flatten_snoc]
        exact ((hX.pick3.own_snoc' kType (fun w => ⟨rfl, wf_of (x := x) hfit2⟩)).pick2)
      case measure => simp [intOf]
    · have hkl : n = k := by omega
      subst hkl
      rw [Nat.sub_self]
      go_wp2
      go_returns
      exact ⟨_, _, rfl, hV.row_kn kType (by decide)⟩
end
end Go.Proofs.Ytebolbjbfnolpab
