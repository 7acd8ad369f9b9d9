/-
  The contracts of the reference's heap: cut, Cancel, least, Next, Pop, All.
-/
import Derived.Test.YtfooejfnlggncaaHeapR
import Derived.Deep.LoopGhost
namespace Go.Proofs.Ytfooejfnlggncaa
open Go.RowKit HP
open Heap (Th)
open HI (enc)

namespace Heap
/-- what a walk over a list without place i has collected behind k places -/
def er (R : List (Th Int)) (i k : Nat) : List (Th Int) := (R.take k).eraseIdx i
theorem er_skip (R : List (Th Int)) (i : Nat) (hi : i < R.length) : er R i (i + 1) = er R i i := by
  unfold er
  rw [List.take_succ_eq_append_getElem hi, List.eraseIdx_append_of_length_le (by simp; omega), List.eraseIdx_of_length_le (l := R.take i) (by simp; omega)]
  have : i - (R.take i).length = 0 := by simp; omega
  rw [this]; simp
theorem er_step (R : List (Th Int)) (i k : Nat) (hk : k < R.length) (h : k ≠ i) : er R i (k + 1) = er R i k ++ [R[k]] := by
  unfold er
  have hl : (R.take k).length = k := by simp; omega
  rw [List.take_succ_eq_append_getElem hk]
  by_cases hlt : i < k
  · rw [List.eraseIdx_append_of_lt_length (by omega)]
  · rw [List.eraseIdx_of_length_le (by simp; omega), List.eraseIdx_of_length_le (by omega)]
theorem er_all (R : List (Th Int)) (i : Nat) : er R i R.length = R.eraseIdx i := by unfold er; rw [List.take_length]
theorem er_len (R : List (Th Int)) (i k : Nat) : (er R i k).length ≤ R.length := by
  unfold er
  have := (List.eraseIdx_sublist (R.take k) i).length_le
  simp at this; omega
end Heap

section
variable {w0 w : World} {L : List HP} {r N : Nat} {R A : List (Th Int)}
def CutRel (w0 : World) (L : List HP) (r N i : Nat) (ao : Option Addr) (cap n : Nat) (R : List (Th Int)) (l k : Value) (wr : World) : Prop :=
  ∃ (j m c2 : Nat) (a2 : Option Addr), k = .int .i64 j ∧ j ≤ n ∧ l = .slice a2 m c2 ∧ (Heap.er R i j).length = m ∧
    At w0 wr (row 74 3 a2 m c2 (tvs enc (Heap.er R i j)) :: HP.one r (.cells #[.slice ao n cap, .int .i64 N] 51 (0, 0)) :: row 74 3 ao n cap (tvs enc R) :: L)

set_option maxHeartbeats 4000000 in
set_option maxRecDepth 100000 in
theorem cut_raw (i : Nat) (hi : i < R.length) (hl : R.length ≤ 1099511627776) (hA : At w0 w (RRaw r R N :: L)) :
    Calls Try.prog 36 #[.pointer (some ⟨r, 0, none⟩), .int .i64 i] w fun e w' => e = .returned (.tuple #[]) ∧ At w0 w' (RRaw r (R.eraseIdx i) N :: L) := by
  obtain ⟨ao, cap, hO⟩ := RRaw.op hA
  obtain ⟨n, hn⟩ : ∃ n, n = R.length := ⟨_, rfl⟩
  rw [← hn] at hO hi hl
  have HN := Lib.hid hn; clear hn hA
  go_enter Try.func36, Try.ntmps36
  go_wp2
  go_loopw [4, 5] (fun l k wr => CutRel w0 L r N i ao cap n R l k wr) (fun _ k _ => n - (intOf k).toNat)
  case atStart => exact ⟨0, 0, 0, none, rfl, by omega, rfl, by simp [Heap.er], by simpa [Heap.er, tvs] using hO.row_nil 74 3⟩
  case round =>
    clear hO
    obtain ⟨j, m, c2, a2, rfl, hj, rfl, hm, hr⟩ := hrel
    have c0 := hr.pick2.cell 0
    have f0 := hr.pick2.free 0
    have hml := Heap.er_len R i j
    rw [hm, ← HN.out] at hml
    have HM := Lib.hid hm; clear hm
    by_cases hlt : j < n
    · have hjR : j < R.length := by rw [← HN.out]; exact hlt
      have hg := List.getElem?_eq_getElem hjR
      by_cases hji : j = i
      · have T : ((j : Int) != (i : Int)) = false := by simp; omega
        have hsk : Heap.er R i (j + 1) = Heap.er R i j := by rw [hji]; exact Heap.er_skip R i (by rw [← HN.out]; exact hi)
        have HJI := Lib.hid hji; clear hji
        have HSK := Lib.hid hsk; clear hsk
        go_wp2
        go_roundw
        case rel => exact ⟨j + 1, m, c2, a2, by go_num, by omega, rfl, by rw [HSK.out]; exact HM.out, by rw [HSK.out]; exact hr⟩
        case measure => simp [intOf]; omega
      · have T : ((j : Int) != (i : Int)) = true := by simp; omega
        have hst := Heap.er_step R i j hjR hji
        generalize R[j] = t at *
        obtain ⟨b0, b1, b2⟩ := t
        obtain ⟨g, off, rfl⟩ := hr.pick3.row_some (by rw [tvs_len]; omega)
        obtain ⟨u0, u1, u2⟩ := hr.pick3.tv_at j _ _ _ hg
        have hal := (hr.alloc (.cells #[.int .i64 b0, .int .i64 b1, .int .i64 b2] 74)).pick2
        have hrn := hal.pick2.rdN
        have HST := Lib.hid hst; clear hst
        have HJI := Lib.hid hji; clear hji hg
        go_wp2_with (at_builtin; refine wpList_append_row rfl (.tmp 18) (.tmp 26) 49 rfl (.agg #[.int .i64 0, .int .i64 0, .int .i64 0]) 24 under_rths info_rth rfl (by decide) hal (by rfl) (some ⟨wr.heap.size, 0, none⟩) 1 1 [.int .i64 b0, .int .i64 b1, .int .i64 b2] (by rfl) rfl hrn (HI.one [(b0, b1, b2)]) (by unfold maxLen; omega) (by omega) ?_; intro a3 c3 w3 hF)
        go_roundw
        case rel =>
          refine ⟨j + 1, m + 1, c3, a3, by go_num, by omega, rfl, by rw [HST.out, List.length_append, HM.out]; rfl, ?_⟩
          rw [HST.out, tvs_append]
          exact hF.pick2.drop
        case measure => simp [intOf]; omega
    · obtain rfl : j = n := by omega
      have hall := Heap.er_all R i
      rw [← HN.out] at hall
      have HALL := Lib.hid hall; clear hall
      go_wp2
      have hS := hr.pick2.setCell 0 (.slice a2 m c2)
      go_returns
      exact ⟨rfl, RRaw.cl (n := m) (ao := a2) (cap := c2) (by rw [← HALL.out]; exact HM.out) (by rw [← HALL.out]; exact hS.pick3.drop)⟩

def LeaRel (w : World) (R : List (Th Int)) (n : Nat) (a k : Value) (wr : World) : Prop :=
  ∃ j q : Nat, k = .int .i64 j ∧ j ≤ n ∧ a = .int .i64 (Heap.lea R j) ∧ wr = w.drewN q
set_option maxHeartbeats 4000000 in
set_option maxRecDepth 100000 in
theorem least_raw (hl : R.length ≤ 1099511627776) (hA : At w0 w (RRaw r R N :: L)) :
    Calls Try.prog 37 #[.pointer (some ⟨r, 0, none⟩)] w fun e w' => e = .returned (.int .i64 (Heap.lea R R.length)) ∧ At w0 w' (RRaw r R N :: L) := by
  suffices h : Calls Try.prog 37 #[.pointer (some ⟨r, 0, none⟩)] w fun e w' => e = .returned (.int .i64 (Heap.lea R R.length)) ∧ ∃ q, w' = w.drewN q from
    h.mono fun e w' ⟨h1, q, h2⟩ => ⟨h1, by rw [h2]; exact hA.drewN q⟩
  obtain ⟨ao, cap, hO⟩ := RRaw.op hA
  obtain ⟨n, hn⟩ : ∃ n, n = R.length := ⟨_, rfl⟩
  rw [← hn] at hO hl
  rw [← hn]
  have HN := Lib.hid hn; clear hn hA
  have c0 := hO.cell 0
  go_enter Try.func37, Try.ntmps37
  go_wp2
  go_loopw [3, 4] (fun a k wr => LeaRel w R n a k wr) (fun _ k _ => n - (intOf k).toNat)
  case atStart => exact ⟨0, 0, rfl, by omega, rfl, rfl⟩
  case round =>
    obtain ⟨j, q, rfl, hj, rfl, rfl⟩ := hrel
    by_cases hlt : j < n
    · have hjR : j < R.length := by rw [← HN.out]; exact hlt
      have hg := List.getElem?_eq_getElem hjR
      have hstep : Heap.lea R (j + 1) = if Heap.lea R j < 0 ∨ (Heap.g R j).1 < (Heap.g R (Heap.lea R j).toNat).1 then (j : Int) else Heap.lea R j := rfl
      rw [Heap.g_get R j hjR] at hstep
      have i1 : (0 : Int) ≤ (j : Int) := by omega
      have i2 : (j : Int) < (n : Int) := by omega
      by_cases h0 : j = 0
      · subst h0
        have hz : Heap.lea R 0 = -1 := rfl
        rw [hz] at hstep ⊢
        rw [if_pos (.inl (by omega))] at hstep
        have HST := Lib.hid hstep; clear hstep hz hg
        have T : decide ((-1 : Int) < 0) = true := rfl
        go_wp2
        go_quiet (fail)
        go_wp2
        go_roundw
        case rel => exact ⟨1, _, by go_num, by omega, by rw [HST.out], rfl⟩
        case measure => simp [intOf]; omega
      · obtain ⟨m, hm1, hm2, _, _⟩ := Heap.lea_spec R j (by omega)
        have hmR : m < R.length := by omega
        have hg2 := List.getElem?_eq_getElem hmR
        rw [hm2] at hstep ⊢
        rw [Int.toNat_natCast, Heap.g_get R m hmR] at hstep
        generalize R[j] = t at *
        generalize R[m] = u at *
        obtain ⟨b0, b1, b2⟩ := t
        obtain ⟨a0, a1, a2⟩ := u
        obtain ⟨g, off, rfl⟩ := hO.pick2.row_some (by rw [tvs_len]; omega)
        obtain ⟨k0, _, _⟩ := hO.pick2.tv_at j _ _ _ hg
        obtain ⟨u0, _, _⟩ := hO.pick2.tv_at m _ _ _ hg2
        have i3 : (0 : Int) ≤ (m : Int) := by omega
        have i4 : (m : Int) < (n : Int) := by omega
        have i5 : m < n := by omega
        have T : decide ((m : Int) < 0) = false := decide_eq_false (by omega)
        have HM2 := Lib.hid hm2; clear hm2 hg hg2
        by_cases hc : b0 < a0
        · rw [if_pos (.inr hc)] at hstep
          have HST := Lib.hid hstep; clear hstep
          have e1 : decide (b0 < a0) = true := decide_eq_true hc
          clear hc
          go_wp2
          go_quiet (fail)
          go_wp2
          go_roundw
          case rel => exact ⟨j + 1, _, by go_num, by omega, by rw [HST.out], rfl⟩
          case measure => simp [intOf]; omega
        · rw [if_neg (by simp only; omega)] at hstep
          have HST := Lib.hid hstep; clear hstep
          have e1 : decide (b0 < a0) = false := decide_eq_false hc
          clear hc
          go_wp2
          go_quiet (fail)
          go_wp2
          go_roundw
          case rel => exact ⟨j + 1, _, by go_num, by omega, by rw [HST.out], rfl⟩
          case measure => simp [intOf]; omega
    · obtain rfl : j = n := by omega
      go_wp2
      go_returns
      exact ⟨rfl, q, rfl⟩

/-- The reference's heap that holds A, in its order. -/
def RHc (r N : Nat) (A : List (Th Int)) : HP := ex fun R => pr (Heap.Rl R N A) (RRaw r R N)
theorem RHc.op (h : At w0 w (RHc r N A :: L)) : ∃ R, Heap.Rl R N A ∧ At w0 w (RRaw r R N :: L) := by
  obtain ⟨R, h⟩ := h.ex
  obtain ⟨p, h⟩ := h.pr
  exact ⟨R, p, h⟩
theorem RHc.cl (p : Heap.Rl R N A) (h : At w0 w (RRaw r R N :: L)) : At w0 w (RHc r N A :: L) := At.ex_mk R (At.pr_mk p h)
/-- the length as the law reads it -/
theorem RHc.cell (h : At w0 w (RHc r N A :: L)) : ∃ ao cap, w.cell? ⟨r, 0, none⟩ = some (.slice ao A.length cap) := by
  obtain ⟨R, p, h⟩ := RHc.op h
  obtain ⟨ao, cap, hO⟩ := RRaw.op h
  exact ⟨ao, cap, by rw [← p.len]; exact hO.cell 0⟩

theorem rput_any (k x : Int) (hl : A.length ≤ 1099511627776) (hN : N ≤ 1099511627776) (hA : At w0 w (RHc r N A :: L)) :
    Calls Try.prog 25 #[.pointer (some ⟨r, 0, none⟩), .int .i64 k, .int .i64 x] w fun e w' => e = .returned (.int .i64 ((N : Int) + 1)) ∧ At w0 w' (RHc r (N + 1) (Heap.ins (k, (N : Int) + 1, x) A) :: L) := by
  obtain ⟨R, p, h⟩ := RHc.op hA
  exact (rput_raw k x (by rw [p.len]; exact hl) hN h).mono fun _ _ ⟨he, h⟩ => ⟨he, RHc.cl (p.put k x) h⟩

def CanRel (k : Int) (R : List (Th Int)) (n : Nat) (i : Value) : Prop :=
  ∃ j : Nat, i = .int .i64 j ∧ j ≤ n ∧ Heap.hasT k R = Heap.hasT k (R.drop j)
set_option maxHeartbeats 4000000 in
set_option maxRecDepth 100000 in
theorem rcancel_any (k : Int) (hl : A.length ≤ 1099511627776) (hA : At w0 w (RHc r N A :: L)) :
    Calls Try.prog 26 #[.pointer (some ⟨r, 0, none⟩), .int .i64 k] w fun e w' => e = .returned (.bool (Heap.hasT k A)) ∧ At w0 w' (RHc r N (Heap.cancel k A) :: L) := by
  obtain ⟨R, p, h⟩ := RHc.op hA
  obtain ⟨ao, cap, hO⟩ := RRaw.op h
  have hhas := p.has k
  have hcan := p.cancel k
  rw [← hhas]
  obtain ⟨n, hn⟩ : ∃ n, n = R.length := ⟨_, rfl⟩
  have hlR : n ≤ 1099511627776 := by rw [hn, p.len]; exact hl
  rw [← hn] at hO
  have HN := Lib.hid hn; clear hn
  have HT := Lib.hid p.tks
  have HC := Lib.hid hcan; clear hcan
  have HP_ := Lib.hid p; clear p hl hhas
  have c0 := hO.cell 0
  have hcut := fun i hi => cut_raw (w0 := w0) (w := w) (L := L) (r := r) (N := N) (R := R) i hi (by rw [← HN.out]; exact hlR) h
  have HCUT := Lib.hid hcut; clear hcut
  go_enter Try.func26, Try.ntmps26
  go_wp2
  go_loop [5] (fun i => CanRel k R n i) (fun i => n - (intOf i).toNat)
  case atStart => exact ⟨0, rfl, by omega, rfl⟩
  case round =>
    obtain ⟨j, rfl, hj, hx⟩ := hrel
    have HX := Lib.hid hx; clear hx
    by_cases hlt : j < n
    · have hjR : j < R.length := by rw [← HN.out]; exact hlt
      have hg := List.getElem?_eq_getElem hjR
      have HD := Lib.hid (show R.drop j = R[j] :: R.drop (j + 1) from List.drop_eq_getElem_cons hjR)
      have hce := Heap.cancel_erase HT.out j hjR
      have hcr := HCUT.out j hjR
      generalize R[j] = t at *
      obtain ⟨b0, b1, b2⟩ := t
      obtain ⟨g, off, rfl⟩ := hO.pick2.row_some (by rw [tvs_len]; omega)
      obtain ⟨_, u1, _⟩ := hO.pick2.tv_at j _ _ _ hg
      simp only at hce
      clear hg
      have i1 : (0 : Int) ≤ (j : Int) := by omega
      have i2 : (j : Int) < (n : Int) := by omega
      by_cases he : b1 = k
      · subst he
        rw [← hce] at hcr
        have HCR := Lib.hid hcr; clear hcr hce
        go_wp2_with (go_at_call 36; refine HCR.out.mono ?_; rintro e w5 ⟨rfl, hV⟩)
        go_returns
        exact ⟨ret_bool (by rw [HX.out, HD.out]; simp [Heap.hasT]), RHc.cl HC.out hV⟩
      · have T : (b1 == k) = false := by simp [he]
        have HE := Lib.hid he; clear he hcr hce
        go_wp2
        go_round
        case rel => exact ⟨j + 1, by go_num, by omega, by rw [HX.out, HD.out]; simp [Heap.hasT, Ne.symm HE.out]⟩
        case measure => simp [intOf]; omega
    · obtain rfl : j = n := by omega
      have hf : Heap.hasT k R = false := by rw [HX.out, List.drop_of_length_le (by rw [← HN.out]; omega)]; rfl
      have hca : Heap.cancel k A = A := Heap.cancel_no (by rw [← HP_.out.has k]; exact hf)
      have HF := Lib.hid hf; clear hf
      have HCA := Lib.hid hca; clear hca
      go_wp2
      go_returns
      exact ⟨ret_bool HF.out.symm, by rw [HCA.out]; exact hA⟩

theorem rnext_any (hl : A.length ≤ 1099511627776) (hA : At w0 w (RHc r N A :: L)) :
    Calls Try.prog 28 #[.pointer (some ⟨r, 0, none⟩)] w fun e w' => e = .returned (.tuple #[.int .i64 (Heap.next A).1, .bool (Heap.next A).2]) ∧ At w0 w' (RHc r N A :: L) := by
  obtain ⟨R, p, h⟩ := RHc.op hA
  have hle := least_raw (by rw [p.len]; exact hl) h
  by_cases hne : R = []
  · have hA0 : A = [] := by
      have := p.len
      rw [hne] at this
      exact List.eq_nil_of_length_eq_zero this.symm
    rw [hA0] at p ⊢
    have hz : Heap.lea R R.length = -1 := by rw [hne]; rfl
    rw [hz] at hle
    have HL := Lib.hid hle; clear hle hz hne hA0
    go_enter Try.func28, Try.ntmps28
    go_wp2_with (go_at_call 37; refine HL.out.mono ?_; rintro e w5 ⟨rfl, hV⟩)
    go_returns
    exact ⟨rfl, RHc.cl p hV⟩
  · obtain ⟨m, hm, q, h1, h2, _⟩ := p.least hne
    have hg := List.getElem?_eq_getElem hm
    generalize R[m] = t at *
    obtain ⟨b0, b1, b2⟩ := t
    have hn : Heap.next A = (b0, true) := by rw [h2]; rfl
    rw [hn]
    rw [h1] at hle
    have hex := fun w' (hV : At w0 w' (RRaw r R N :: L)) => RRaw.op hV
    have i1 : (0 : Int) ≤ (m : Int) := by omega
    have i2 : (m : Int) < (R.length : Int) := by omega
    have T : decide ((m : Int) < 0) = false := decide_eq_false (by omega)
    have HG := Lib.hid hg; clear hg h1 h2 hn
    have HL := Lib.hid hle; clear hle hne
    have HPP := Lib.hid p; clear p
    go_enter Try.func28, Try.ntmps28
    go_wp2_with (go_at_call 37; refine HL.out.mono ?_; rintro e w5 ⟨rfl, hV⟩; obtain ⟨ao, cap, hO⟩ := hex _ hV; obtain ⟨g, off, rfl⟩ := hO.pick2.row_some (by rw [tvs_len]; omega); have c0 := hO.cell 0; obtain ⟨u0, u1, u2⟩ := hO.pick2.tv_at m _ _ _ HG.out)
    go_returns
    exact ⟨rfl, RHc.cl HPP.out hV⟩

set_option maxHeartbeats 4000000 in
theorem rpop_any (now : Int) (hl : A.length ≤ 1099511627776) (hA : At w0 w (RHc r N A :: L)) :
    Calls Try.prog 27 #[.pointer (some ⟨r, 0, none⟩), .int .i64 now] w fun e w' =>
      e = .returned (.tuple #[.int .i64 (Heap.pop now A).1.1, .int .i64 (Heap.pop now A).1.2.1, .bool (Heap.pop now A).1.2.2]) ∧ At w0 w' (RHc r N (Heap.pop now A).2 :: L) := by
  obtain ⟨R, p, h⟩ := RHc.op hA
  have hle := least_raw (by rw [p.len]; exact hl) h
  by_cases hne : R = []
  · have hA0 : A = [] := by
      have := p.len
      rw [hne] at this
      exact List.eq_nil_of_length_eq_zero this.symm
    rw [hA0] at p ⊢
    have hz : Heap.lea R R.length = -1 := by rw [hne]; rfl
    rw [hz] at hle
    have HL := Lib.hid hle; clear hle hz hne hA0
    have T : decide ((-1 : Int) < 0) = true := rfl
    go_enter Try.func27, Try.ntmps27
    go_wp2_with (go_at_call 37; refine HL.out.mono ?_; rintro e w5 ⟨rfl, hV⟩)
    go_returns
    exact ⟨rfl, RHc.cl p hV⟩
  · obtain ⟨m, hm, q, h1, h2, h3⟩ := p.least hne
    have hg := List.getElem?_eq_getElem hm
    have hct := fun w L hA => cut_raw (w0 := w0) (w := w) (L := L) (r := r) (N := N) (R := R) m hm (by rw [p.len]; exact hl) hA
    generalize R.eraseIdx m = R2 at *
    generalize R[m] = t at *
    obtain ⟨b0, b1, b2⟩ := t
    rw [h1] at hle
    have hex := fun w' (hV : At w0 w' (RRaw r R N :: L)) => RRaw.op hV
    have i1 : (0 : Int) ≤ (m : Int) := by omega
    have i2 : (m : Int) < (R.length : Int) := by omega
    have T : decide ((m : Int) < 0) = false := decide_eq_false (by omega)
    have HG := Lib.hid hg; clear hg h1
    have HL := Lib.hid hle; clear hle hne
    have HPP := Lib.hid p; clear p
    have HCT := Lib.hid hct; clear hct
    have H3 := Lib.hid h3; clear h3
    rw [h2]
    by_cases hdue : b0 ≤ now
    · have hp : Heap.pop now ((b0, b1, b2) :: q) = ((b2, b0, true), q) := Heap.pop_due hdue
      rw [hp]
      have hd : decide (now < b0) = false := decide_eq_false (by omega)
      clear hdue hp h2
      go_enter Try.func27, Try.ntmps27
      go_wp2_with (first
        | (go_at_call 37; refine HL.out.mono ?_; rintro e w5 ⟨rfl, hV⟩; obtain ⟨ao, cap, hO⟩ := hex _ hV; obtain ⟨g, off, rfl⟩ := hO.pick2.row_some (by rw [tvs_len]; omega); have c0 := hO.cell 0; obtain ⟨u0, u1, u2⟩ := hO.pick2.tv_at m _ _ _ HG.out)
        | (go_at_call 36; refine (HCT.out _ _ (hV.alloc (.cells #[.int .i64 b0, .int .i64 b1, .int .i64 b2] 74)).pick2).mono ?_; rintro e w6 ⟨rfl, hU⟩; have m0 := hU.pick2.cell 0; have m2 := hU.pick2.cell 2))
      go_quiet (fail)
      go_wp2
      go_returns
      exact ⟨rfl, RHc.cl H3.out (hU.drewN _).pick2.drop⟩
    · have hp : Heap.pop now ((b0, b1, b2) :: q) = ((0, 0, false), (b0, b1, b2) :: q) := Heap.pop_late hdue
      rw [hp]
      have hd : decide (now < b0) = true := decide_eq_true (by omega)
      rw [h2] at HPP
      clear hdue hp h2
      go_enter Try.func27, Try.ntmps27
      go_wp2_with (first
        | (go_at_call 37; refine HL.out.mono ?_; rintro e w5 ⟨rfl, hV⟩; obtain ⟨ao, cap, hO⟩ := hex _ hV; obtain ⟨g, off, rfl⟩ := hO.pick2.row_some (by rw [tvs_len]; omega); have c0 := hO.cell 0; obtain ⟨u0, u1, u2⟩ := hO.pick2.tv_at m _ _ _ HG.out))
      go_returns
      exact ⟨rfl, RHc.cl HPP.out hV⟩

theorem perm4' (a b c d : HP) (L : List HP) : (a :: b :: c :: d :: L).Perm (c :: d :: a :: b :: L) := (List.perm_append_comm (l₁ := [a, b]) (l₂ := [c, d])).append_right L
theorem perm3' (a b c : HP) (L : List HP) : (a :: b :: c :: L).Perm (b :: c :: a :: L) := (List.perm_append_comm (l₁ := [a]) (l₂ := [b, c])).append_right L
def AllRel (w0 : World) (L : List HP) (r cb N : Nat) (A : List (Th Int)) (k : Nat) (out : Value) (wr : World) : Prop :=
  ∃ (R2 A2 done : List (Th Int)) (a3 : Option Addr) (n3 c3 : Nat), k = A2.length ∧ A = done ++ A2 ∧ Heap.Rl R2 N A2 ∧ done.length = n3 ∧ out = .slice a3 n3 c3 ∧
    At w0 wr (RRaw cb R2 0 :: row 74 3 a3 n3 c3 (tvs enc done) :: RHc r N A :: L)
set_option maxHeartbeats 8000000 in
set_option maxRecDepth 100000 in
theorem rall_any (hl : A.length ≤ 1099511627776) (hA : At w0 w (RHc r N A :: L)) :
    Calls Try.prog 30 #[.pointer (some ⟨r, 0, none⟩)] w fun e w' => ∃ ao cap, e = .returned (.slice ao A.length cap) ∧ At w0 w' (row 74 3 ao A.length cap (tvs enc A) :: RHc r N A :: L) := by
  obtain ⟨R, p, h⟩ := RHc.op hA
  obtain ⟨ao, cap, hO⟩ := RRaw.op h
  have hlR : R.length ≤ 1099511627776 := by rw [p.len]; exact hl
  have c0 := hO.cell 0
  have hrd := hO.pick2.rd
  have hN := hO.row_nil 74 3
  have HPP := Lib.hid p; clear p
  go_enter Try.func30, Try.ntmps30
  go_wp2_with (at_builtin; refine wpList_append_row rfl _ (.tmp 9) 49 rfl (.agg #[.int .i64 0, .int .i64 0, .int .i64 0]) 24 under_rths info_rth rfl (by decide) hN (by rfl) ao R.length cap (tvs enc R) (by rfl) (tvs_len enc R) hrd (HI.one R) (by unfold maxLen; omega) (by omega) ?_; intro a2 c2 w2 hF; simp only [Nat.zero_add, List.nil_append] at hF)
  have hC := (hF.alloc (.cells #[.slice a2 R.length c2, .int .i64 0] 51))
  have hC2 : At w0 (w2.alloc (.cells #[.slice a2 R.length c2, .int .i64 0] 51)) (RRaw w2.heap.size R 0 :: RHc r N A :: L) := RRaw.cl rfl ((RHc.cl HPP.out (RRaw.cl rfl (hC.perm (perm4' _ _ _ _ _)))).perm (perm3' _ _ _ _))
  go_loopg [4] A.length (fun k out wr => AllRel w0 L r w2.heap.size N A k out wr)
  case atStart => exact ⟨R, A, [], none, 0, 0, rfl, rfl, HPP.out, rfl, rfl, by simpa [tvs] using (hC2.row_nil 74 3).pick2⟩
  case round =>
    clear hC hC2 hF hN hrd c0 hO
    obtain ⟨R2, A2, done, a3, n3, c3, rfl, hAe, p2, hn3, rfl, hr⟩ := hrel
    obtain ⟨ao2, cap2, hO2⟩ := RRaw.op hr
    have z0 := hO2.cell 0
    have hlA : A2.length + n3 = A.length := by rw [hAe]; simp; omega
    have hlR2 : R2.length ≤ 1099511627776 := by rw [p2.len]; omega
    have hle := least_raw hlR2 hr
    by_cases hne : R2 = []
    · have hA0 : A2 = [] := by
        have := p2.len
        rw [hne] at this
        exact List.eq_nil_of_length_eq_zero this.symm
      have hl0 : R2.length = 0 := by rw [hne]; rfl
      have hAd : A = done := by rw [hAe, hA0]; simp
      have HAD := Lib.hid hAd; clear hAd
      have HN3 := Lib.hid hn3; clear hn3
      clear hle hne hA0 hAe p2 hlA
      go_wp2
      go_returns
      rw [HAD.out, HN3.out]
      rw [HAD.out] at hr
      exact ⟨a3, c3, rfl, hr.drop⟩
    · obtain ⟨m, hm, q, h1, h2, h3⟩ := p2.least hne
      have hg := List.getElem?_eq_getElem hm
      have hct := fun w L hA => cut_raw (w0 := w0) (w := w) (L := L) (r := w2.heap.size) (N := 0) (R := R2) m hm hlR2 hA
      generalize R2.eraseIdx m = R3 at *
      generalize R2[m] = t at *
      obtain ⟨b0, b1, b2⟩ := t
      rw [h1] at hle
      have hex := fun w' (hV : At w0 w' (RRaw w2.heap.size R2 0 :: row 74 3 a3 n3 c3 (tvs enc done) :: RHc r N A :: L)) => RRaw.op hV
      have i1 : (0 : Int) ≤ (m : Int) := by omega
      have i2 : (m : Int) < (R2.length : Int) := by omega
      have i3 : decide ((0 : Int) < (R2.length : Int)) = true := decide_eq_true (by omega)
      have i4 : 0 < R2.length := by omega
      have hq : q.length + (n3 + 1) = A.length := by rw [h2] at hlA; simp at hlA; omega
      have hqA : A2.length = q.length + 1 := by rw [h2]; simp
      have hAe2 : A = (done ++ [(b0, b1, b2)]) ++ q := by rw [hAe, h2]; simp
      have hA2p : 0 < A2.length := by omega
      have HG := Lib.hid hg; clear hg h1
      have HL := Lib.hid hle; clear hle hne
      have HCT := Lib.hid hct; clear hct
      have H3 := Lib.hid h3; clear h3 p2
      have HAE := Lib.hid hAe2; clear hAe2 hAe h2
      have HN3 := Lib.hid hn3; clear hn3
      have HQA := Lib.hid hqA; clear hqA
      have hn3b : n3 ≤ 1099511627776 := by omega
      clear hlA hq
      go_wp2_with (first
        | (go_at_call 37; refine HL.out.mono ?_; rintro e w5 ⟨rfl, hV⟩; obtain ⟨ao5, cap5, hO⟩ := hex _ hV; obtain ⟨g, off, rfl⟩ := hO.pick2.row_some (by rw [tvs_len]; omega); have c0 := hO.cell 0; obtain ⟨u0, u1, u2⟩ := hO.pick2.tv_at m _ _ _ HG.out; have hal := (hV.pick2.alloc (.cells #[.int .i64 b0, .int .i64 b1, .int .i64 b2] 74)).pick2; have hrn := hal.pick2.rdN)
        | (at_builtin; refine wpList_append_row rfl (.tmp 21) (.tmp 29) 49 rfl (.agg #[.int .i64 0, .int .i64 0, .int .i64 0]) 24 under_rths info_rth rfl (by decide) hal (by rfl) (some ⟨w5.heap.size, 0, none⟩) 1 1 [.int .i64 b0, .int .i64 b1, .int .i64 b2] (by rfl) rfl hrn (HI.one [(b0, b1, b2)]) (by unfold maxLen; omega) (by omega) ?_; intro a4 c4 w6 hF)
        | (go_at_call 36; refine (HCT.out _ _ hF.pick3).mono ?_; rintro e w7 ⟨rfl, hU⟩))
      go_roundg q.length
      case rel =>
        refine ⟨R3, q, done ++ [(b0, b1, b2)], a4, n3 + 1, c4, rfl, HAE.out, H3.out, by rw [List.length_append, HN3.out]; rfl, rfl, ?_⟩
        rw [tvs_append]
        exact hU.pick3.drop
      case measure => have := HQA.out; omega
end
end Go.Proofs.Ytfooejfnlggncaa
