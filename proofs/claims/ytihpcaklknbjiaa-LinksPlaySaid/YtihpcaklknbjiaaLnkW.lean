/-
  The law LinksPlay.
-/
import Derived.Test.YtihpcaklknbjiaaLnkV
namespace Go.Proofs.Ytihpcaklknbjiaa
open Go.RowKit HP
open Go.Proofs.Ytihpcaklknbjiaa.Lnk

def PlRel (W : World) (p q : Nat) (U : List Int) (m : Nat) (i : Value) (wr : World) : Prop :=
  ∃ (j k : Nat) (N : Int → List Int) (l : List Pr), i = .int .i64 j ∧ j ≤ m ∧ Ok N U ∧ Is N l ∧ NoSelf l ∧ l.length ≤ j ∧ At W wr [HP.web p N k, HP.rweb q l]
namespace linksPlay
set_option maxRecDepth 100000 in
set_option maxHeartbeats 8000000 in
theorem linksPlay_any (W : World) (a b : Int) (ha : -9223372036854775808 ≤ a ∧ a ≤ 9223372036854775807) (hb : -9223372036854775808 ≤ b ∧ b ≤ 9223372036854775807) (l : List OpD) (ao : Option Addr) (cap : Nat) (hc : l.length ≤ cap) (hm : cap ≤ maxLen) (h0 : ao = none → cap = 0) (hrd : Kn.At_ kOp W ao l) :
    Calls Try.prog 3 #[.slice ao l.length cap, .int .i64 a, .int .i64 b] W fun e w' => e = .returned (.bool true) ∧ Below W.heap.size W w' := by
  have hA := At.start W
  have hE := early_any ao l.length cap hc hm h0
  have hN := fun (w : World) (L : List HP) (h : At W w L) => lnew_any h
  have hT := at_take hrd 500
  have hTl : (l.take 500).length = min l.length 500 := by rw [List.length_take, Nat.min_comm]
  obtain ⟨m, hmm⟩ : ∃ m, m = min l.length 500 := ⟨_, rfl⟩
  rw [← hmm] at hE hTl
  have hm5 : m ≤ 500 := by omega
  clear hmm hrd hc hm h0
  generalize l.take 500 = T at *
  generalize l.length = n at *
  obtain ⟨U, hU⟩ : ∃ U, U = a :: b :: nds T := ⟨_, rfl⟩
  have hUf : Fits U := by
    subst hU
    intro x hx
    rcases List.mem_cons.1 hx with rfl | hx
    · exact ha
    · rcases List.mem_cons.1 hx with rfl | hx
      · exact hb
      · exact nds_fits hT x hx
  have hUl : U.length ≤ 1002 := by subst hU; rw [List.length_cons, List.length_cons, nds_len, hTl]; omega
  have hUa : a ∈ U := by subst hU; exact List.mem_cons_self
  have hUb : b ∈ U := by subst hU; exact List.mem_cons_of_mem _ List.mem_cons_self
  have hUn : ∀ o ∈ T, o.2.1 ∈ U ∧ o.2.2.1 ∈ U := fun o ho => by
    subst hU; exact ⟨List.mem_cons_of_mem _ (List.mem_cons_of_mem _ (nds_mem ho).1), List.mem_cons_of_mem _ (List.mem_cons_of_mem _ (nds_mem ho).2)⟩
  clear hU ha hb
  have HN := Lib.hid hN; clear hN
  have HE := Lib.hid hE; clear hE
  have HL := Lib.hid hTl; clear hTl
  have HUF := Lib.hid hUf; clear hUf
  have HUL := Lib.hid hUl; clear hUl
  have HUA := Lib.hid hUa; clear hUa
  have HUB := Lib.hid hUb; clear hUb
  have HUN := Lib.hid hUn; clear hUn
  go_enter Try.func3, Try.ntmps3
  go_wp2_with (first
    | (go_at_call 9; with_reducible refine (lives_any hA).mono ?_; rintro e w1 ⟨rfl, h1⟩)
    | (go_at_call 10; with_reducible refine (HE.out _).mono ?_; rintro e w2 ⟨rfl, rfl⟩)
    | (go_at_call 11; with_reducible refine (HN.out _ _ h1).mono ?_; rintro e w3 ⟨p, rfl, h3⟩; have h4 := (h3.alloc (.cells #[.slice none 0 0] 30))))
  have hR : At W _ (HP.rweb w3.heap.size [] :: _) := At.rweb_cl (l := []) (n := 0) rfl (h4.row_nil 51 2).pick2
  obtain ⟨q, hq⟩ : ∃ q, q = w3.heap.size := ⟨_, rfl⟩
  rw [← hq] at hR ⊢
  clear hq h4
  go_loopw [9] (fun i wr => PlRel W p q U m i wr) (fun i _ => m - (intOf i).toNat)
  case atStart => exact ⟨0, 0, _, [], rfl, Nat.zero_le _, Ok.nil _, Is.nil, (fun p hp => by cases hp), Nat.zero_le _, hR.pick2⟩
  case round =>
    clear hR h3 h1
    obtain ⟨j, k, N, l1, rfl, hj, hO, hI, hS, hl1, hr⟩ := hrel
    by_cases hlt : j < m
    · have hjl : j < T.length := by rw [HL.out]; exact hlt
      obtain ⟨g, off, rfl, k0, k1, k2, _, _⟩ := op_at hT j hjl
      have hun := HUN.out T[j] (List.getElem_mem hjl)
      generalize T[j] = o at *
      obtain ⟨cu, x, y, _⟩ := o
      simp only at k0 k1 k2 hun
      have d0 := hr.oldCell k0
      have d1 := hr.oldCell k1
      have d2 := hr.oldCell k2
      clear k0 k1 k2 hjl
      have hB := hr.alloc (.cells #[.bool cu, .int .i64 x, .int .i64 y] 32)
      have e1 := hB.cell 1
      have e2 := hB.cell 2
      cases cu with
      | true =>
        have hct := fun (w : World) (L : List HP) (h : At W w (HP.web p N k :: L)) => lcut_any x (hO.fits HUF.out x) (by have := hO.le x; omega) (fun z => hO.iff x z) (hO.ir x) h
        have hrc := fun (w : World) (L : List HP) (h : At W w (HP.rweb q l1 :: L)) => rcut_any x hI hS hO (by omega) h
        have hsl := sortI_len (N x)
        have hx8 := hO.le x
        have HO2 := Lib.hid (hO.ct x)
        obtain ⟨S1, hS1⟩ : ∃ S1, S1 = sortI (N x) := ⟨_, rfl⟩
        obtain ⟨n1, hn1⟩ : ∃ n1, n1 = (N x).length := ⟨_, rfl⟩
        rw [← hS1] at hct hrc hsl
        rw [← hn1] at hct hrc hsl hx8
        clear hS1 hn1
        have HCT := Lib.hid hct; clear hct
        have HRC := Lib.hid hrc; clear hrc
        have HSL := Lib.hid hsl; clear hsl
        clear hO hI hS hun
        go_wp2
        go_region_held3 (fun w' => w'.cell? ⟨wr.heap.size, 1, none⟩ = some (.int .i64 x)) (first | exact e1 | exact g5 | exact g6 | exact g7)
          (first
            | (go_at_call 12; refine (same_true rfl HSL.out HSL.out (by unfold maxLen; omega) (by unfold maxLen; omega) h6.pick3.rd h6.rd).mono ?_; rintro e w7 ⟨rfl, q7, rfl⟩; have h7 := h6.drewN q7; have g7 := h7.pick5.cell 1)
            | (go_at_call 14; refine (HRC.out _ _ h5.pick4).mono ?_; rintro e w6 ⟨a6, c6, rfl, l2, HI2, HS2, hl2, h6⟩; have g6 := h6.pick5.cell 1)
            | (go_at_call 13; refine (HCT.out _ _ hB.drew.pick2).mono ?_; rintro e w5 ⟨a5, c5, rfl, h5⟩; have g5 := h5.pick3.cell 1))
        have hV0 := h7.drop.pick2.drop.pick3.pick3
        replace HI2 := Lib.hid HI2
        replace HS2 := Lib.hid HS2
        have hl2 : l2.length ≤ j + 1 := by omega
        obtain ⟨N2, hN2⟩ : ∃ N2, N2 = ct N x := ⟨_, rfl⟩
        rw [← hN2] at hV0 HI2 HO2
        clear hN2
        obtain ⟨k2, hk2⟩ : ∃ k2, k2 = k := ⟨_, rfl⟩
        rw [← hk2] at hV0
        clear hk2
        have hV := hV0.pick2
        clear hV0
        have hb1 : ∀ c : Bool, (c != c) = false := fun c => by cases c <;> rfl
        have v1 := hV.cell 1
        have hll := fun (w : World) (L : List HP) (h : At W w (HP.web p N2 k2 :: L)) => llinked_any a b h
        have hrl := fun (w : World) (L : List HP) (h : At W w (HP.rweb q l2 :: L)) => rlinked_any a b (by omega) h
        rw [show decide (HasP l2 a b) = decide (b ∈ N2 a) from by rw [decide_eq_decide]; exact hasP_eq HI2.out HS2.out] at hrl
        have hlo := fun (w : World) (L : List HP) (h : At W w (HP.web p N2 k2 :: L)) => lof_any x (HO2.out.fits HUF.out x) (by have := HO2.out.le x; omega) h
        have hro := fun (w : World) (L : List HP) (h : At W w (HP.rweb q l2 :: L)) => rof_any x (by omega) h
        rw [rOf_eq HI2.out HS2.out (HO2.out.nd x), sortI_len] at hro
        have hsl := sortI_len (N2 x)
        have hx8 := HO2.out.le x
        obtain ⟨S2, hS2⟩ : ∃ S2, S2 = sortI (N2 x) := ⟨_, rfl⟩
        obtain ⟨n2, hn2⟩ : ∃ n2, n2 = (N2 x).length := ⟨_, rfl⟩
        rw [← hS2] at hlo hro hsl
        rw [← hn2] at hlo hro hsl hx8
        clear hS2 hn2
        obtain ⟨c, hc⟩ : ∃ c, c = decide (b ∈ N2 a) := ⟨_, rfl⟩
        rw [← hc] at hll hrl
        clear hc
        have HLL := Lib.hid hll; clear hll
        have HRL := Lib.hid hrl; clear hrl
        have HLO := Lib.hid hlo; clear hlo
        have HRO := Lib.hid hro; clear hro
        have HSL2 := Lib.hid hsl; clear hsl
        have TC := hb1 c
        clear hb1
        go_wp2
        go_region_held3 (fun w' => w'.cell? ⟨wr.heap.size, 1, none⟩ = some (.int .i64 x)) (first | exact v1 | exact g9 | exact g10 | exact g11)
          (first
            | (go_at_call 12; refine (same_true rfl HSL2.out HSL2.out (by unfold maxLen; omega) (by unfold maxLen; omega) h10.pick3.rd h10.rd).mono ?_; rintro e w11 ⟨rfl, q11, rfl⟩; have h11 := h10.drewN q11; have g11 := h11.pick5.cell 1)
            | (go_at_call 20; refine (HRO.out _ _ h9.pick4).mono ?_; rintro e w10 ⟨a10, c10, rfl, h10⟩; have g10 := h10.pick5.cell 1)
            | (go_at_call 19; refine (HLO.out _ _ hV.drew.pick2).mono ?_; rintro e w9 ⟨a9, c9, rfl, h9⟩; have g9 := h9.pick3.cell 1)
            | (go_at_call 18; refine (HRL.out _ _ hV.drew.pick3).mono ?_; rintro e w8 ⟨rfl, rfl⟩)
            | (go_at_call 17; refine (HLL.out _ _ hV.drew.pick2).mono ?_; rintro e w7 ⟨rfl, rfl⟩))
        go_wp2
        go_roundw
        case rel => exact ⟨j + 1, k2, N2, l2, by go_num, by omega, HO2.out, HI2.out, HS2.out, hl2, h11.drop.pick2.drop.pick3.drop.pick2⟩
        case measure => simp only [intOf]; omega
      | false =>
        have hlk := fun (w : World) (L : List HP) (h : At W w (HP.web p N k :: L)) => llink_any x y (fun h1 h2 => h1 (hO.sy _ _ h2)) h
        have hrk := fun (w : World) (L : List HP) (h : At W w (HP.rweb q l1 :: L)) => rlink_any x y hI hS hO (by omega) h
        have HO2 := Lib.hid (hO.lk hun.1 hun.2)
        obtain ⟨c0, hc0⟩ : ∃ c0, c0 = (lk N x y).1 := ⟨_, rfl⟩
        obtain ⟨N2, hN2⟩ : ∃ N2, N2 = (lk N x y).2 := ⟨_, rfl⟩
        rw [← hc0] at hlk hrk
        rw [← hN2] at hlk hrk HO2
        clear hc0 hN2 hO hI hS hun
        have T0 : (c0 != c0) = false := by simp
        have HLK := Lib.hid hlk; clear hlk
        have HRK := Lib.hid hrk; clear hrk
        go_wp2
        go_region_held3 (fun w' => w'.cell? ⟨wr.heap.size, 1, none⟩ = some (.int .i64 x) ∧ w'.cell? ⟨wr.heap.size, 2, none⟩ = some (.int .i64 y)) (first | exact ⟨e1, e2⟩ | exact ⟨g5, f5⟩ | exact ⟨g6, f6⟩)
          (first
            | (go_at_call 16; refine (HRK.out _ _ h5.pick3).mono ?_; rintro e w6 ⟨rfl, l2, HI2, HS2, hl2, h6⟩; have g6 := h6.pick3.cell 1; have f6 := h6.pick3.cell 2)
            | (go_at_call 15; refine (HLK.out _ _ hB.drew.pick2).mono ?_; rintro e w5 ⟨rfl, h5⟩; have g5 := h5.pick2.cell 1; have f5 := h5.pick2.cell 2))
        have hV0 := h6
        replace HI2 := Lib.hid HI2
        replace HS2 := Lib.hid HS2
        have hl2 : l2.length ≤ j + 1 := by omega
        obtain ⟨k2, hk2⟩ : ∃ k2, k2 = k + 2 := ⟨_, rfl⟩
        rw [← hk2] at hV0
        clear hk2
        have hV := hV0.pick3.pick3.pick2
        clear hV0
        have hb1 : ∀ c : Bool, (c != c) = false := fun c => by cases c <;> rfl
        have v1 := hV.cell 1
        have hll := fun (w : World) (L : List HP) (h : At W w (HP.web p N2 k2 :: L)) => llinked_any a b h
        have hrl := fun (w : World) (L : List HP) (h : At W w (HP.rweb q l2 :: L)) => rlinked_any a b (by omega) h
        rw [show decide (HasP l2 a b) = decide (b ∈ N2 a) from by rw [decide_eq_decide]; exact hasP_eq HI2.out HS2.out] at hrl
        have hlo := fun (w : World) (L : List HP) (h : At W w (HP.web p N2 k2 :: L)) => lof_any x (HO2.out.fits HUF.out x) (by have := HO2.out.le x; omega) h
        have hro := fun (w : World) (L : List HP) (h : At W w (HP.rweb q l2 :: L)) => rof_any x (by omega) h
        rw [rOf_eq HI2.out HS2.out (HO2.out.nd x), sortI_len] at hro
        have hsl := sortI_len (N2 x)
        have hx8 := HO2.out.le x
        obtain ⟨S2, hS2⟩ : ∃ S2, S2 = sortI (N2 x) := ⟨_, rfl⟩
        obtain ⟨n2, hn2⟩ : ∃ n2, n2 = (N2 x).length := ⟨_, rfl⟩
        rw [← hS2] at hlo hro hsl
        rw [← hn2] at hlo hro hsl hx8
        clear hS2 hn2
        obtain ⟨c, hc⟩ : ∃ c, c = decide (b ∈ N2 a) := ⟨_, rfl⟩
        rw [← hc] at hll hrl
        clear hc
        have HLL := Lib.hid hll; clear hll
        have HRL := Lib.hid hrl; clear hrl
        have HLO := Lib.hid hlo; clear hlo
        have HRO := Lib.hid hro; clear hro
        have HSL2 := Lib.hid hsl; clear hsl
        have TC := hb1 c
        clear hb1
        go_wp2
        go_region_held3 (fun w' => w'.cell? ⟨wr.heap.size, 1, none⟩ = some (.int .i64 x)) (first | exact v1 | exact g9 | exact g10 | exact g11)
          (first
            | (go_at_call 12; refine (same_true rfl HSL2.out HSL2.out (by unfold maxLen; omega) (by unfold maxLen; omega) h10.pick3.rd h10.rd).mono ?_; rintro e w11 ⟨rfl, q11, rfl⟩; have h11 := h10.drewN q11; have g11 := h11.pick5.cell 1)
            | (go_at_call 20; refine (HRO.out _ _ h9.pick4).mono ?_; rintro e w10 ⟨a10, c10, rfl, h10⟩; have g10 := h10.pick5.cell 1)
            | (go_at_call 19; refine (HLO.out _ _ hV.drew.pick2).mono ?_; rintro e w9 ⟨a9, c9, rfl, h9⟩; have g9 := h9.pick3.cell 1)
            | (go_at_call 18; refine (HRL.out _ _ hV.drew.pick3).mono ?_; rintro e w8 ⟨rfl, rfl⟩)
            | (go_at_call 17; refine (HLL.out _ _ hV.drew.pick2).mono ?_; rintro e w7 ⟨rfl, rfl⟩))
        go_wp2
        go_roundw
        case rel => exact ⟨j + 1, k2, N2, l2, by go_num, by omega, HO2.out, HI2.out, HS2.out, hl2, h11.drop.pick2.drop.pick3.drop.pick2⟩
        case measure => simp only [intOf]; omega
    · have hof1 := fun (w : World) (L : List HP) (h : At W w (HP.web p N k :: L)) => lof_any a (hO.fits HUF.out a) (by have := hO.le a; omega) h
      have hof2 := fun (w : World) (L : List HP) (h : At W w (HP.rweb q l1 :: L)) => rof_any a (by omega) h
      rw [rOf_eq hI hS (hO.nd a), sortI_len] at hof2
      have hsl := sortI_len (N a)
      have hx8 := hO.le a
      obtain ⟨S2, hS2⟩ : ∃ S2, S2 = sortI (N a) := ⟨_, rfl⟩
      obtain ⟨n2, hn2⟩ : ∃ n2, n2 = (N a).length := ⟨_, rfl⟩
      rw [← hS2] at hof1 hof2 hsl
      rw [← hn2] at hof1 hof2 hsl hx8
      clear hS2 hn2
      have hfa := fun (x : Int) (hx : x ∈ U) (w : World) (L : List HP) (h : At W w (HP.web p N k :: L)) => lfall_n x U hx hO HUF.out (by have := HUL.out; omega) h
      have hrf := fun (x : Int) (hx : x ∈ U) (w : World) (L : List HP) (h : At W w (HP.rweb q l1 :: L)) => rfall_any x hI hS hO hx (by have := HUL.out; omega) (by omega) h
      have hfaa := hfa a HUA.out
      have hfab := hfa b HUB.out
      have hrfa := hrf a HUA.out
      have hrfb := hrf b HUB.out
      clear hfa hrf hO hI hS
      have HOF1 := Lib.hid hof1; clear hof1
      have HOF2 := Lib.hid hof2; clear hof2
      have HFA := Lib.hid hfaa; clear hfaa
      have HFB := Lib.hid hfab; clear hfab
      have HRA := Lib.hid hrfa; clear hrfa
      have HRB := Lib.hid hrfb; clear hrfb
      have HSL2 := Lib.hid hsl; clear hsl
      go_wp2_with (first
        | (go_at_call 12; with_reducible refine (same_true (f11.unique f12) hn11 hn12 h12.pick3.row_max h12.row_max h12.pick3.rd h12.rd).mono ?_; rintro e w13 ⟨rfl, q13, rfl⟩; have h13 := h12.drewN q13)
        | (go_at_call 22; with_reducible refine (HRB.out _ _ h11.pick4).mono ?_; rintro e w12 ⟨a12, n12, c12, l12, rfl, hn12, f12, h12⟩)
        | (go_at_call 21; with_reducible refine (HFB.out _ _ h10.pick4).mono ?_; rintro e w11 ⟨a11, n11, c11, l11, rfl, hn11, _, f11, h11⟩)
        | (go_at_call 12; with_reducible refine (same_true (f8.unique f9) hn8 hn9 h9.pick3.row_max h9.row_max h9.pick3.rd h9.rd).mono ?_; rintro e w10 ⟨rfl, q10, rfl⟩; have h10 := h9.drewN q10)
        | (go_at_call 22; with_reducible refine (HRA.out _ _ h8.pick4).mono ?_; rintro e w9 ⟨a9, n9, c9, l9, rfl, hn9, f9, h9⟩)
        | (go_at_call 21; with_reducible refine (HFA.out _ _ h7.pick4).mono ?_; rintro e w8 ⟨a8, n8, c8, l8, rfl, hn8, _, f8, h8⟩)
        | (go_at_call 12; with_reducible refine (same_true rfl HSL2.out HSL2.out (by unfold maxLen; omega) (by unfold maxLen; omega) h6.pick3.rd h6.rd).mono ?_; rintro e w7 ⟨rfl, q7, rfl⟩; have h7 := h6.drewN q7)
        | (go_at_call 20; with_reducible refine (HOF2.out _ _ h5.pick3).mono ?_; rintro e w6 ⟨a6, c6, rfl, h6⟩)
        | (go_at_call 19; with_reducible refine (HOF1.out _ _ hr).mono ?_; rintro e w5 ⟨a5, c5, rfl, h5⟩))
      go_returns
      exact ⟨rfl, h13.below⟩
theorem linksPlay_walk (W : World) (l : List OpD) (v : Value) (hR : kOps.R W l [v]) (a : Int) (wa : (Lit.int .i64 a).wf = true) (b : Int) (wb : (Lit.int .i64 b).wf = true) :
    Calls Try.prog 3 #[v, .int .i64 a, .int .i64 b] W fun e w' => e = .returned (.bool true) ∧ Below W.heap.size W w' := by
  obtain ⟨ao, cap, hv, h1, h2, h3, hi⟩ := hR
  injection hv with hv _
  subst hv
  exact linksPlay_any W a b (wf_i64l wa) (wf_i64l wb) l ao cap h1 h2 h3 hi
end linksPlay
end Go.Proofs.Ytihpcaklknbjiaa
