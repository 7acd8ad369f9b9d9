/-
  The law LinksOrder.
-/
import Derived.Test.YtihpcaklknbjiaaLnkS
import Derived.Deep.RegionHeld3
namespace Go.Proofs.Ytihpcaklknbjiaa
open Go.RowKit HP
open Go.Proofs.Ytihpcaklknbjiaa.Lnk

theorem prs_at {l : List OpD} {k : Nat} (h : k < l.length) : (prs l)[k]? = some (l[k].2.1, l[k].2.2.1) := by
  unfold prs; rw [List.getElem?_map, List.getElem?_eq_getElem h]; rfl
def Or1 (W : World) (p p2 : Nat) (T : List OpD) (U : List Int) (m : Nat) (i : Value) (wr : World) : Prop :=
  ∃ (j k : Nat) (N : Int → List Int), i = .int .i64 j ∧ j ≤ m ∧ Ok N U ∧ Is N ((prs T).take j) ∧ At W wr [HP.web p N k, HP.web p2 (fun _ => []) 0]
def Or2 (W : World) (p k p2 : Nat) (N : Int → List Int) (T : List OpD) (U : List Int) (m : Nat) (i : Value) (wr : World) : Prop :=
  ∃ (z : Int) (j k2 : Nat) (M : Int → List Int), i = .int .i64 z ∧ z + 1 = j ∧ j ≤ m ∧ Ok M U ∧ Is M ((prs T).drop j) ∧ At W wr [HP.web p2 M k2, HP.web p N k]
namespace linksOrder
set_option maxHeartbeats 4000000 in
theorem linksOrder_any (W : World) (a : Int) (ha : -9223372036854775808 ≤ a ∧ a ≤ 9223372036854775807) (l : List OpD) (ao : Option Addr) (cap : Nat) (hc : l.length ≤ cap) (hm : cap ≤ maxLen) (h0 : ao = none → cap = 0) (hrd : Kn.At_ kOp W ao l) :
    Calls Try.prog 8 #[.slice ao l.length cap, .int .i64 a] W fun e w' => e = .returned (.bool true) ∧ Below W.heap.size W w' := by
  have hA := At.start W
  have hE := early_any ao l.length cap hc hm h0
  have hN := fun (w : World) (L : List HP) (h : At W w L) => lnew_any h
  have hT := at_take hrd 500
  have hTl : (l.take 500).length = min l.length 500 := by rw [List.length_take, Nat.min_comm]
  obtain ⟨m, hmm⟩ : ∃ m, m = min l.length 500 := ⟨_, rfl⟩
  rw [← hmm] at hE hTl
  have hm5 : m ≤ 500 := by omega
  clear hmm hrd hc hm h0
  generalize l.take 500 = T at *
  generalize l.length = n at *
  obtain ⟨U, hU⟩ : ∃ U, U = a :: nds T := ⟨_, rfl⟩
  have hUf : Fits U := by
    subst hU
    intro x hx
    rcases List.mem_cons.1 hx with rfl | hx
    · exact ha
    · exact nds_fits hT x hx
  have hUl : U.length ≤ 1001 := by subst hU; rw [List.length_cons, nds_len, hTl]; omega
  have hUa : a ∈ U := by subst hU; exact List.mem_cons_self
  have hUn : ∀ o ∈ T, o.2.1 ∈ U ∧ o.2.2.1 ∈ U := fun o ho => by
    subst hU; exact ⟨List.mem_cons_of_mem _ (nds_mem ho).1, List.mem_cons_of_mem _ (nds_mem ho).2⟩
  clear hU ha
  have HN := Lib.hid hN; clear hN
  have HE := Lib.hid hE; clear hE
  have HL := Lib.hid hTl; clear hTl
  have HUF := Lib.hid hUf; clear hUf
  have HUL := Lib.hid hUl; clear hUl
  have HUN := Lib.hid hUn; clear hUn
  go_enter Try.func8, Try.ntmps8
  go_wp2_with (first
    | (go_at_call 9; with_reducible refine (lives_any hA).mono ?_; rintro e w1 ⟨rfl, h1⟩)
    | (go_at_call 10; with_reducible refine (HE.out _).mono ?_; rintro e w2 ⟨rfl, rfl⟩)
    | (go_at_call 11; with_reducible refine (HN.out _ _ h1).mono ?_; rintro e w3 ⟨p, rfl, h3⟩)
    | (go_at_call 11; with_reducible refine (HN.out _ _ h3).mono ?_; rintro e w4 ⟨p2, rfl, h4⟩))
  go_loopw [7] (fun i wr => Or1 W p p2 T U m i wr) (fun i _ => m - (intOf i).toNat)
  case atStart => exact ⟨0, 0, _, rfl, Nat.zero_le _, Ok.nil _, Is.nil, h4.pick2⟩
  case round =>
    clear h4 h3 h1
    obtain ⟨j, k, N, rfl, hj, hO, hI, hr⟩ := hrel
    by_cases hlt : j < m
    · have hjl : j < T.length := by rw [HL.out]; exact hlt
      obtain ⟨b, off, rfl, k0, k1, k2, _, _⟩ := op_at hT j hjl
      have hp := prs_at hjl
      have hun := HUN.out T[j] (List.getElem_mem hjl)
      generalize T[j] = o at *
      obtain ⟨cu, x, y, _⟩ := o
      simp only at k1 k2 hp hun
      have d1 := hr.oldCell k1
      have d2 := hr.oldCell k2
      have i1 : (0 : Int) ≤ (j : Int) := by omega
      have i2 : (j : Int) < (m : Int) := by omega
      have hlk := fun (w : World) (h : At W w [HP.web p N k, HP.web p2 (fun _ => []) 0]) => llink_any x y (fun h1 h2 => h1 (hO.sy _ _ h2)) h
      have hO2 := hO.lk hun.1 hun.2
      rcases lk_code N x y with e | e
      · have hI2 := st1 hI hO hp e
        have T1 : ((0 : Int) != 0) = false := by decide
        rw [e] at hlk
        have HLK := Lib.hid hlk; clear hlk
        have HO := Lib.hid hO; clear hO
        have HI := Lib.hid hI; clear hI
        have HO2 := Lib.hid hO2; clear hO2
        have HI2 := Lib.hid hI2; clear hI2
        clear e hp hun k0
        go_wp2
        go_region_held3 (fun w' => w'.cell? ⟨b, off + j * 3 + 1, none⟩ = some (.int .i64 x) ∧ w'.cell? ⟨b, off + j * 3 + 2, none⟩ = some (.int .i64 y)) (first | exact ⟨d1, d2⟩ | exact ⟨h5.oldCell k1, h5.oldCell k2⟩)
          (first
            | (go_at_call 15; refine (HLK.out _ hr.drew).mono ?_; rintro e w5 ⟨rfl, h5⟩))
        go_wp2
        go_roundw
        case rel => exact ⟨j + 1, _, _, by go_num, by omega, HO2.out, HI2.out, h5⟩
        case measure => simp [intOf]; omega
      · rw [e] at hlk
        have T1 : ((7 : Int) != 0) = true := by decide
        have HLK := Lib.hid hlk; clear hlk
        have HO := Lib.hid hO; clear hO
        have HI := Lib.hid hI; clear hI
        have HO2 := Lib.hid hO2; clear hO2
        clear e hp hun k0
        go_wp2
        go_region_held3 (fun w' => w'.cell? ⟨b, off + j * 3 + 1, none⟩ = some (.int .i64 x) ∧ w'.cell? ⟨b, off + j * 3 + 2, none⟩ = some (.int .i64 y)) (first | exact ⟨d1, d2⟩ | exact ⟨h5.oldCell k1, h5.oldCell k2⟩)
          (first
            | (go_at_call 15; refine (HLK.out _ hr.drew).mono ?_; rintro e w5 ⟨rfl, h5⟩))
        go_wp2
        go_returns
        exact ⟨rfl, h5.below⟩
    · obtain rfl : j = m := by omega
      rw [List.take_of_length_le (by unfold prs; rw [List.length_map, HL.out]; exact Nat.le_refl _)] at hI
      clear hlt hj
      go_wp2
      go_loopw [8] (fun i wr => Or2 W p k p2 N T U j i wr) (fun i _ => (intOf i + 1).toNat)
      case atStart =>
        refine ⟨(j : Int) - 1, j, 0, _, by go_num, by omega, Nat.le_refl _, Ok.nil _, ?_, hr.pick2⟩
        rw [List.drop_of_length_le (by unfold prs; rw [List.length_map, HL.out]; exact Nat.le_refl _)]
        exact Is.nil
      case round =>
        clear hr
        obtain ⟨z, i, k2, M, rfl, hz, hi, hOM, hIM, hr⟩ := hrel
        by_cases hlt : 0 ≤ z
        · obtain ⟨q, rfl⟩ : ∃ q : Nat, z = q := ⟨z.toNat, by omega⟩
          obtain rfl : i = q + 1 := by omega
          have hjl : q < T.length := by rw [HL.out]; omega
          obtain ⟨b, off, rfl, k0, k1, k2', _, _⟩ := op_at hT q hjl
          have hp := prs_at hjl
          have hun := HUN.out T[q] (List.getElem_mem hjl)
          generalize T[q] = o at *
          obtain ⟨cu, x, y, _⟩ := o
          simp only at k1 k2' hp hun
          have d1 := hr.oldCell k1
          have d2 := hr.oldCell k2'
          have e := st2e hI hO hIM hOM hp
          have hIM2 := st2 hIM hOM hp e
          have hOM2 := hOM.lk hun.2 hun.1
          have hlk := fun (w : World) (h : At W w [HP.web p2 M k2, HP.web p N k]) => llink_any y x (fun h1 h2 => h1 (hOM.sy _ _ h2)) h
          rw [e] at hlk
          have T1 : ((0 : Int) != 0) = false := by decide
          have i2 : (q : Int) < (j : Int) := by omega
          have HLK := Lib.hid hlk; clear hlk
          have HO := Lib.hid hO; clear hO
          have HI := Lib.hid hI; clear hI
          have HOM := Lib.hid hOM; clear hOM
          have HIM := Lib.hid hIM; clear hIM
          have HOM2 := Lib.hid hOM2; clear hOM2
          have HIM2 := Lib.hid hIM2; clear hIM2
          clear e hp hun k0
          go_wp2
          go_region_held3 (fun w' => w'.cell? ⟨b, off + q * 3 + 1, none⟩ = some (.int .i64 x) ∧ w'.cell? ⟨b, off + q * 3 + 2, none⟩ = some (.int .i64 y)) (first | exact ⟨d1, d2⟩ | exact ⟨h5.oldCell k1, h5.oldCell k2'⟩)
            (first
              | (go_at_call 15; refine (HLK.out _ hr.drew).mono ?_; rintro e w5 ⟨rfl, h5⟩))
          go_wp2
          go_roundw
          case rel => exact ⟨(q : Int) - 1, q, _, _, by go_num, by omega, by omega, HOM2.out, HIM2.out, h5⟩
          case measure => simp [intOf] <;> omega
        · obtain rfl : z = -1 := by omega
          obtain rfl : i = 0 := by omega
          rw [List.drop_zero] at hIM
          have hc : ∀ x y, y ∈ M x ↔ y ∈ N x := fun x y => by rw [hIM, hI]
          have hs := sortI_congr (hOM.nd a) (hO.nd a) (hc a)
          have hsl : (M a).length = (N a).length := by rw [← sortI_len (M a), hs, sortI_len]
          have hcl : ∀ {Q : Int → List Int}, Ok Q U → ∀ x ∈ U, ∀ y ∈ Q x, y ∈ U := fun h x _ y hy => h.un x y hy
          have hof1 := fun (w : World) (L : List HP) (h : At W w (HP.web p N k :: L)) => lof_any a (hO.fits HUF.out a) (by have := hO.le a; omega) h
          have hof2 := fun (w : World) (L : List HP) (h : At W w (HP.web p2 M k2 :: L)) => lof_any a (hOM.fits HUF.out a) (by have := hOM.le a; omega) h
          rw [hs, hsl] at hof2
          have hn8 := hO.le a
          have hsn := sortI_len (N a)
          obtain ⟨S, hS⟩ : ∃ S, S = sortI (N a) := ⟨_, rfl⟩
          obtain ⟨sn, hsn2⟩ : ∃ sn, sn = (N a).length := ⟨_, rfl⟩
          rw [← hS] at hof1 hof2 hsn
          rw [← hsn2] at hof1 hof2 hsn hn8
          have hfa1 := fun (w : World) (L : List HP) (h : At W w (HP.web p N k :: L)) => lfall_any a U hUa (hcl hO) HUF.out (by have := HUL.out; omega) (fun x => by have := hO.le x; omega) h
          have hfa2 := fun (w : World) (L : List HP) (h : At W w (HP.web p2 M k2 :: L)) => lfall_any a U hUa (hcl hOM) HUF.out (by have := HUL.out; omega) (fun x => by have := hOM.le x; omega) h
          have hun : ∀ (l1 l2 : List Int), IsFall N a l1 → IsFall M a l2 → l2 = l1 := fun _ _ h1 h2 => (h2.congr hc).unique h1
          have hsame := fun (l : List Int) (n : Nat) (ao ao2 : Option Addr) (cap cap2 : Nat) (w : World) (hn : l.length = n) (hm : n ≤ maxLen) (h1 : Rd w ao (l.map (Value.int .i64))) (h2 : Rd w ao2 (l.map (Value.int .i64))) => sameLongs_any l l ao ao2 n n cap cap2 hn hn hm hm h1 h2
          simp only [decide_true] at hsame
          clear hS hsn2 hs hsl hIM hI hcl
          have HOF1 := Lib.hid hof1; clear hof1
          have HOF2 := Lib.hid hof2; clear hof2
          have HFA1 := Lib.hid hfa1; clear hfa1
          have HFA2 := Lib.hid hfa2; clear hfa2
          have HUN2 := Lib.hid hun; clear hun
          have HSM := Lib.hid hsame; clear hsame
          have HSN := Lib.hid hsn; clear hsn
          have HC := Lib.hid hc; clear hc
          have HO := Lib.hid hO; clear hO
          have HOM := Lib.hid hOM; clear hOM
          go_wp2_with (first
            | (go_at_call 19; with_reducible refine (HOF1.out _ _ hr.pick2).mono ?_; rintro e w6 ⟨a1, c1, rfl, g1⟩)
            | (go_at_call 19; with_reducible refine (HOF2.out _ _ g1.pick3).mono ?_; rintro e w7 ⟨a2, c2, rfl, g2⟩)
            | (go_at_call 12; with_reducible refine (HSM.out _ sn _ _ _ _ _ HSN.out (by unfold maxLen; omega) g2.pick3.rd g2.rd).mono ?_; rintro e w8 ⟨rfl, q8, rfl⟩; have g3 := g2.drewN q8)
            | (go_at_call 21; with_reducible refine (HFA1.out _ _ g3.pick4).mono ?_; rintro e w9 ⟨a3, c3, l3, rfl, f3, g4⟩)
            | (go_at_call 21; with_reducible refine (HFA2.out _ _ g4.pick4).mono ?_; rintro e w10 ⟨a4, c4, l4, rfl, f4, g5⟩; obtain rfl := HUN2.out _ _ f3 f4)
            | (go_at_call 12; with_reducible refine (HSM.out _ _ _ _ _ _ _ rfl (by have := g5.row_len; omega) g5.pick3.rd g5.rd).mono ?_; rintro e w11 ⟨rfl, q11, rfl⟩; have g6 := g5.drewN q11))
          go_returns
          exact ⟨rfl, g6.below⟩
theorem linksOrder_walk (W : World) (l : List OpD) (v : Value) (hR : kOps.R W l [v]) (a : Int) (wa : (Lit.int .i64 a).wf = true) :
    Calls Try.prog 8 #[v, .int .i64 a] W fun e w' => e = .returned (.bool true) ∧ Below W.heap.size W w' := by
  obtain ⟨ao, cap, hv, h1, h2, h3, hi⟩ := hR
  injection hv with hv _
  subst hv
  exact linksOrder_any W a (wf_i64l wa) l ao cap h1 h2 h3 hi
end linksOrder
end Go.Proofs.Ytihpcaklknbjiaa
