/-
  The law LinksBoth.
-/
import Derived.Test.YtihpcaklknbjiaaLnkO
import Derived.Test.YtihpcaklknbjiaaLnkI
namespace Go.Proofs.Ytihpcaklknbjiaa
open Go.RowKit HP
open Go.Proofs.Ytihpcaklknbjiaa.Lnk

namespace Lnk
section
variable {N : Int → List Int} {a x z : Int}
theorem Reach.trans (h1 : Reach N a z) (h2 : Reach N z x) : Reach N a x := fun P p q => h2 P (h1 P p q) q
theorem Reach.symm (hs : ∀ x y, y ∈ N x → x ∈ N y) (h : Reach N a x) : Reach N x a :=
  h (fun y => Reach N y a) (Reach.refl N a) fun _ z hy hz => ((Reach.refl N z).step (hs _ _ hz)).trans hy
/-- who falls with one, that one falls with -/
theorem fall_back (hs : ∀ x y, y ∈ N x → x ∈ N y) {l l2 : List Int} (h : IsFall N a l) (hz : z ∈ l) (h2 : IsFall N z l2) : insI l2 z = insI l a := by
  have haz := ((h.2 z).1 hz).2
  refine rising_unique (insI_rising h2.1 z) (insI_rising h.1 a) fun x => ?_
  rw [insI_mem, insI_mem, h.2, h2.2]
  have e1 : (x ≠ z ∧ Reach N z x) ∨ x = z ↔ Reach N z x := by
    constructor
    · rintro (h | rfl)
      · exact h.2
      · exact Reach.refl N x
    · intro h
      by_cases e : x = z
      · exact .inr e
      · exact .inl ⟨e, h⟩
  have e2 : (x ≠ a ∧ Reach N a x) ∨ x = a ↔ Reach N a x := by
    constructor
    · rintro (h | rfl)
      · exact h.2
      · exact Reach.refl N x
    · intro h
      by_cases e : x = a
      · exact .inr e
      · exact .inl ⟨e, h⟩
  rw [e1, e2]
  exact ⟨fun h => haz.trans h, fun h => (haz.symm hs).trans h⟩
end
end Lnk
theorem insert_in {w0 w : World} {L : List HP} (l : List Int) (x : Int) (ao : Option Addr) (n cap : Nat) (hn : l.length = n) (hm : n ≤ 100000) (hrd : Rd w ao (l.map (Value.int .i64))) (hA : At w0 w L) :
    Calls Try.prog 23 #[.slice ao n cap, .int .i64 x] w fun e w' => ∃ ao2 cap2, e = .returned (.slice ao2 (insI l x).length cap2) ∧ At w0 w' (row 2 1 ao2 (insI l x).length cap2 ((insI l x).map (Value.int .i64)) :: L) :=
  (insert_any l x ao n cap hn hm w hrd).mono fun _ _ ⟨ao2, cap2, h1, h2⟩ => ⟨ao2, cap2, h1, hA.join h2⟩

theorem lfall_n {w0 w : World} {L : List HP} {p k : Nat} {N : Int → List Int} (a : Int) (U : List Int) (hU : a ∈ U) (hO : Ok N U) (hUf : Fits U) (hUl : U.length ≤ 100000) (hA : At w0 w (HP.web p N k :: L)) :
    Calls Try.prog 21 #[.pointer (some ⟨p, 0, none⟩), .int .i64 a] w fun e w' => ∃ ao n cap l, e = .returned (.slice ao n cap) ∧ l.length = n ∧ n ≤ U.length ∧ IsFall N a l ∧
      At w0 w' (row 2 1 ao n cap (l.map (Value.int .i64)) :: HP.web p N k :: L) :=
  (lfall_any a U hU (fun x _ y hy => hO.un x y hy) hUf hUl (fun x => by have := hO.le x; omega) hA).mono fun _ _ ⟨ao, cap, l, h1, h2, h3⟩ =>
    ⟨ao, l.length, cap, l, h1, rfl, nodup_le (h2.1.imp fun h => Int.ne_of_lt h) (fun x hx => ((h2.2 x).1 hx).2 (fun x => x ∈ U) hU (fun y z _ hz => hO.un y z hz)), h2, h3⟩

theorem same_true {w : World} {l l2 : List Int} {ao ao2 : Option Addr} {n n2 cap cap2 : Nat} (e : l = l2) (hn : l.length = n) (hn2 : l2.length = n2) (hm : n ≤ maxLen) (hm2 : n2 ≤ maxLen) (h1 : Rd w ao (l.map (Value.int .i64))) (h2 : Rd w ao2 (l2.map (Value.int .i64))) :
    Calls Try.prog 12 #[.slice ao n cap, .slice ao2 n2 cap2] w fun e w' => e = .returned (.bool true) ∧ ∃ q, w' = w.drewN q :=
  (sameLongs_any l l2 ao ao2 n n2 cap cap2 hn hn2 hm hm2 h1 h2).mono fun _ _ ⟨h3, h4⟩ => ⟨h3.trans (by rw [decide_eq_true e]), h4⟩
theorem At.row_max {w0 w : World} {L : List HP} {e size n cap : Nat} {ao : Option Addr} {xs : List Value} (h : At w0 w (row e size ao n cap xs :: L)) : n ≤ maxLen := Nat.le_trans h.row_len.2.1 h.row_len.2.2

def HasRel (w : World) (l : List Int) (x : Int) (n : Nat) (i : Value) (wr : World) : Prop := ∃ k : Nat, i = .int .i64 k ∧ k ≤ n ∧ x ∉ l.take k ∧ wr = w
set_option maxHeartbeats 1000000 in
theorem has_any (l : List Int) (x : Int) (ao : Option Addr) (n cap : Nat) (hn : l.length = n) (hm : n ≤ maxLen) (w : World) (hrd : Rd w ao (l.map (Value.int .i64))) :
    Calls Try.prog 24 #[.slice ao n cap, .int .i64 x] w fun e w' => e = .returned (.bool (decide (x ∈ l))) ∧ w' = w := by
  unfold maxLen at hm
  have HN := Lib.hid hn; clear hn
  go_enter Try.func24, Try.ntmps24
  go_wp2
  go_loopw [5] (fun i wr => HasRel w l x n i wr) (fun i _ => n - (intOf i).toNat)
  case atStart => exact ⟨0, rfl, Nat.zero_le _, by simp, rfl⟩
  case round =>
    obtain ⟨k, rfl, hk, hx, rfl⟩ := hrel
    by_cases hlt : k < n
    · have hjl : k < l.length := by rw [HN.out]; exact hlt
      obtain ⟨b, off, rfl, hc⟩ := hrd.some_ (by simp; omega)
      have d0 := hc k (.int .i64 l[k]) (by simp [hjl])
      have htk := List.take_succ_eq_append_getElem hjl
      have hmem := List.getElem_mem hjl
      clear hc
      generalize l[k] = y at *
      clear hjl
      by_cases h1 : y = x
      · subst h1
        have T : (y == y) = true := by simp
        have HM := Lib.hid hmem; clear hmem hx htk
        go_wp2
        go_returns
        exact ⟨ret_bool (by simp [HM.out]), rfl⟩
      · have T : (y == x) = false := by simp [h1]
        have hx2 : x ∉ l.take (k + 1) := by
          rw [htk]
          intro h
          rcases List.mem_append.1 h with h | h
          · exact hx h
          · simp at h; exact h1 h.symm
        have HX := Lib.hid hx2; clear hx2 hx htk hmem h1
        go_wp2
        go_roundw
        case rel => exact ⟨k + 1, by go_num, by omega, HX.out, rfl⟩
        case measure => simp [intOf]; omega
    · rw [List.take_of_length_le (by rw [HN.out]; omega)] at hx
      have HX := Lib.hid hx; clear hx
      go_wp2
      go_returns
      exact ⟨ret_bool (by simp [HX.out]), rfl⟩

/-- a loop that keeps its pieces -/
def LpRel (W : World) (L : List HP) (n : Nat) (i : Value) (wr : World) : Prop := ∃ j : Nat, i = .int .i64 j ∧ j ≤ n ∧ At W wr L
def Bt1 (W : World) (p : Nat) (U : List Int) (m : Nat) (s i : Value) (wr : World) : Prop :=
  ∃ (j k n1 : Nat) (N : Int → List Int) (A : List Int) (ao : Option Addr) (cap : Nat), i = .int .i64 j ∧ j ≤ m ∧ s = .slice ao n1 cap ∧ A.length = n1 ∧ n1 ≤ 2 * j ∧ Ok N U ∧ (∀ x ∈ A, x ∈ U) ∧
    At W wr [row 2 1 ao n1 cap (A.map (Value.int .i64)), HP.web p N k]
namespace linksBoth
set_option maxRecDepth 100000 in
set_option maxHeartbeats 8000000 in
theorem linksBoth_any (W : World) (l : List OpD) (ao : Option Addr) (cap : Nat) (hc : l.length ≤ cap) (hm : cap ≤ maxLen) (h0 : ao = none → cap = 0) (hrd : Kn.At_ kOp W ao l) :
    Calls Try.prog 4 #[.slice ao l.length cap] W fun e w' => e = .returned (.bool true) ∧ Below W.heap.size W w' := by
  have hA := At.start W
  have hE := early_any ao l.length cap hc hm h0
  have hN := fun (w : World) (L : List HP) (h : At W w L) => lnew_any h
  have hT := at_take hrd 500
  have hTl : (l.take 500).length = min l.length 500 := by rw [List.length_take, Nat.min_comm]
  obtain ⟨m, hmm⟩ : ∃ m, m = min l.length 500 := ⟨_, rfl⟩
  rw [← hmm] at hE hTl
  have hm5 : m ≤ 500 := by omega
  clear hmm hrd hc hm h0
  generalize l.take 500 = T at *
  generalize l.length = n at *
  obtain ⟨U, hU⟩ : ∃ U, U = nds T := ⟨_, rfl⟩
  have hUf : Fits U := by subst hU; exact nds_fits hT
  have hUl : U.length ≤ 1001 := by subst hU; rw [nds_len, hTl]; omega
  have hUn : ∀ o ∈ T, o.2.1 ∈ U ∧ o.2.2.1 ∈ U := fun o ho => by subst hU; exact nds_mem ho
  clear hU
  have HN := Lib.hid hN; clear hN
  have HE := Lib.hid hE; clear hE
  have HL := Lib.hid hTl; clear hTl
  have HUF := Lib.hid hUf; clear hUf
  have HUL := Lib.hid hUl; clear hUl
  have HUN := Lib.hid hUn; clear hUn
  go_enter Try.func4, Try.ntmps4
  go_wp2_with (first
    | (go_at_call 9; with_reducible refine (lives_any hA).mono ?_; rintro e w1 ⟨rfl, h1⟩)
    | (go_at_call 10; with_reducible refine (HE.out _).mono ?_; rintro e w2 ⟨rfl, rfl⟩)
    | (go_at_call 11; with_reducible refine (HN.out _ _ h1).mono ?_; rintro e w3 ⟨p, rfl, h3⟩))
  go_loopw [4, 5] (fun s i wr => Bt1 W p U m s i wr) (fun _ i _ => m - (intOf i).toNat)
  case atStart => exact ⟨0, 0, 0, _, [], none, 0, rfl, Nat.zero_le _, rfl, rfl, Nat.zero_le _, Ok.nil _, (by simp), h3.row_nil _ _⟩
  case round =>
    clear h3 h1
    obtain ⟨j, k, n1, N, A, ao1, cap1, rfl, hj, rfl, hAl, hn1, hO, hAU, hr⟩ := hrel
    have HAL := Lib.hid hAl; clear hAl
    by_cases hlt : j < m
    · have hjl : j < T.length := by rw [HL.out]; exact hlt
      obtain ⟨b, off, rfl, k0, k1, k2, _, _⟩ := op_at hT j hjl
      have hun := HUN.out T[j] (List.getElem_mem hjl)
      generalize T[j] = o at *
      obtain ⟨cu, x, y, _⟩ := o
      simp only at k0 k1 k2 hun
      have d0 := hr.oldCell k0
      have d1 := hr.oldCell k1
      have d2 := hr.oldCell k2
      clear k0 k1 k2 hjl
      have hB := hr.alloc (.cells #[.bool cu, .int .i64 x, .int .i64 y] 32)
      have e1 := hB.cell 1
      have e2 := hB.cell 2
      have hin1 := fun (w : World) (L : List HP) (ao : Option Addr) (cap : Nat) (hrd : Rd w ao (A.map (Value.int .i64))) (h : At W w L) => insert_in A x ao n1 cap HAL.out (by omega) hrd h
      have hl1 := insI_len A x
      have hU1 : ∀ z ∈ insI A x, z ∈ U := fun z hz => by
        rcases insI_mem.1 hz with hz | rfl
        · exact hAU z hz
        · exact hun.1
      have hin2 := fun (w : World) (L : List HP) (n : Nat) (ao : Option Addr) (cap : Nat) (hn : (insI A x).length = n) (hm : n ≤ 100000) (hrd : Rd w ao ((insI A x).map (Value.int .i64))) (h : At W w L) => insert_in (insI A x) y ao n cap hn hm hrd h
      have hl2 := insI_len (insI A x) y
      have hU2 : ∀ z ∈ insI (insI A x) y, z ∈ U := fun z hz => by
        rcases insI_mem.1 hz with hz | rfl
        · exact hU1 z hz
        · exact hun.2
      have hlb : (insI A x).length ≤ 2 * j + 1 := by rw [HAL.out] at hl1; omega
      have hlc : (insI (insI A x) y).length ≤ 2 * (j + 1) := by omega
      clear hl1 hl2 hU1
      generalize hB1 : insI A x = B1 at *
      generalize hB2 : insI B1 y = B2 at *
      clear hB1 hB2
      have HIN1 := Lib.hid hin1; clear hin1
      have HIN2 := Lib.hid hin2; clear hin2
      have HU2 := Lib.hid hU2; clear hU2
      cases cu with
      | true =>
        have hct := fun (w : World) (L : List HP) (h : At W w (HP.web p N k :: L)) => lcut_any x (hO.fits HUF.out x) (by have := hO.le x; omega) (fun z => hO.iff x z) (hO.ir x) h
        have HCT := Lib.hid hct; clear hct
        have HO2 := Lib.hid (hO.ct x)
        have HO := Lib.hid hO; clear hO
        clear hun
        go_wp2_with (first
          | (go_at_call 13; with_reducible refine (HCT.out _ _ hB.pick3).mono ?_; rintro e w5 ⟨a5, c5, rfl, h5⟩; have h6 := h5.drop.pick2; have f1 := h6.cell 1; have f2 := h6.cell 2))
        go_region_held3 (fun w' => w'.cell? ⟨wr.heap.size, 1, none⟩ = some (.int .i64 x) ∧ w'.cell? ⟨wr.heap.size, 2, none⟩ = some (.int .i64 y)) (first | exact ⟨f1, f2⟩ | exact ⟨g1, g2⟩ | exact ⟨i1, i2⟩)
          (first
            | (go_at_call 23; refine (HIN2.out _ _ _ _ _ rfl (by omega) h7.rd h7).mono ?_; rintro e w8 ⟨a8, c8, rfl, h8⟩; have i1 := h8.pick3.cell 1; have i2 := h8.pick3.cell 2)
            | (go_at_call 23; refine (HIN1.out _ _ _ _ h6.drew.pick3.rd h6.drew).mono ?_; rintro e w7 ⟨a7, c7, rfl, h7⟩; have g1 := h7.pick2.cell 1; have g2 := h7.pick2.cell 2))
        go_wp2
        go_roundw
        case rel => exact ⟨j + 1, _, _, _, _, _, _, by go_num, by omega, rfl, rfl, hlc, HO2.out, HU2.out, h8.pick2.drop.pick2.drop.pick3.drop⟩
        case measure => simp [intOf]; omega
      | false =>
        have hlk := fun (w : World) (L : List HP) (h : At W w (HP.web p N k :: L)) => llink_any x y (fun h1 h2 => h1 (hO.sy _ _ h2)) h
        have HLK := Lib.hid hlk; clear hlk
        have HO2 := Lib.hid (hO.lk hun.1 hun.2)
        have HO := Lib.hid hO; clear hO
        clear hun
        go_wp2_with (first
          | (go_at_call 15; with_reducible refine (HLK.out _ _ hB.pick3).mono ?_; rintro e w5 ⟨rfl, h5⟩; have h6 := h5.pick2; have f1 := h6.cell 1; have f2 := h6.cell 2))
        go_region_held3 (fun w' => w'.cell? ⟨wr.heap.size, 1, none⟩ = some (.int .i64 x) ∧ w'.cell? ⟨wr.heap.size, 2, none⟩ = some (.int .i64 y)) (first | exact ⟨f1, f2⟩ | exact ⟨g1, g2⟩ | exact ⟨i1, i2⟩)
          (first
            | (go_at_call 23; refine (HIN2.out _ _ _ _ _ rfl (by omega) h7.rd h7).mono ?_; rintro e w8 ⟨a8, c8, rfl, h8⟩; have i1 := h8.pick3.cell 1; have i2 := h8.pick3.cell 2)
            | (go_at_call 23; refine (HIN1.out _ _ _ _ h6.drew.pick3.rd h6.drew).mono ?_; rintro e w7 ⟨a7, c7, rfl, h7⟩; have g1 := h7.pick2.cell 1; have g2 := h7.pick2.cell 2))
        go_wp2
        go_roundw
        case rel => exact ⟨j + 1, _, _, _, _, _, _, by go_num, by omega, rfl, rfl, hlc, HO2.out, HU2.out, h8.pick2.drop.pick2.drop.pick3.drop⟩
        case measure => simp [intOf]; omega
    · obtain rfl : j = m := by omega
      clear hlt hj
      have hn2 : n1 ≤ 1000 := by omega
      have hfaU := fun (a : Int) (ha : a ∈ U) (w : World) (L : List HP) (h : At W w (HP.web p N k :: L)) => lfall_n a U ha hO HUF.out (by have := HUL.out; omega) h
      have hofU := fun (a : Int) (w : World) (L : List HP) (h : At W w (HP.web p N k :: L)) => lof_any a (hO.fits HUF.out a) (by have := hO.le a; omega) h
      have hliU := fun (a b : Int) (w : World) (L : List HP) (h : At W w (HP.web p N k :: L)) => llinked_any a b h
      have HFAU := Lib.hid hfaU; clear hfaU
      have HOFU := Lib.hid hofU; clear hofU
      have HLIU := Lib.hid hliU; clear hliU
      have HO := Lib.hid hO; clear hO
      have HAU := Lib.hid hAU; clear hAU
      go_wp2
      go_loopw [7] (fun i wr => LpRel W [HP.web p N k, row 2 1 ao1 n1 cap1 (A.map (Value.int .i64))] n1 i wr) (fun i _ => n1 - (intOf i).toNat)
      case atStart => exact ⟨0, rfl, Nat.zero_le _, hr.pick2⟩
      case round =>
        clear hr
        obtain ⟨i, rfl, hi, hr⟩ := hrel
        by_cases hlt : i < n1
        · have hil : i < A.length := by rw [HAL.out]; exact hlt
          have hau := HAU.out A[i] (List.getElem_mem hil)
          obtain ⟨g, off, rfl⟩ := hr.pick2.row_some (by simp; omega)
          have d0 := hr.pick2.rd.at_ i (.int .i64 A[i]) (by simp [hil])
          generalize A[i] = a at *
          clear hil
          have hfa := HFAU.out a hau
          have hof := HOFU.out a
          have hsn := sortI_len (N a)
          have hsm := fun z => (mem_sortI (l := N a) (x := z))
          have hn8 := HO.out.le a
          obtain ⟨sn, hsn2⟩ : ∃ sn, sn = (N a).length := ⟨_, rfl⟩
          obtain ⟨S, hS⟩ : ∃ S, S = sortI (N a) := ⟨_, rfl⟩
          rw [← hS] at hof hsn hsm
          rw [← hsn2] at hof hsn hn8
          clear hS hsn2
          have hli := HLIU.out a a
          rw [decide_eq_false (HO.out.ir a)] at hli
          have hir : ∀ l, IsFall N a l → decide (a ∈ l) = false := fun l h => decide_eq_false fun e => ((h.2 a).1 e).1 rfl
          have HFA := Lib.hid hfa; clear hfa
          have HOF := Lib.hid hof; clear hof
          have HLI := Lib.hid hli; clear hli
          have HIR := Lib.hid hir; clear hir
          have HSN := Lib.hid hsn; clear hsn
          have HSM := Lib.hid hsm; clear hsm
          have hinl := fun (l : List Int) (n : Nat) (w : World) (L : List HP) (ao : Option Addr) (cap : Nat) (hn : l.length = n) (hm : n ≤ 100000) (hrd : Rd w ao (l.map (Value.int .i64))) (h : At W w L) => insert_in l a ao n cap hn hm hrd h
          have HINL := Lib.hid hinl; clear hinl
          go_wp2_with (first
            | (go_at_call 17; with_reducible refine (HLI.out _ _ h6.pick2).mono ?_; rintro e w8 ⟨rfl, rfl⟩)
            | (go_at_call 24; with_reducible refine HH.out.mono ?_; rintro e w7 ⟨rfl, rfl⟩)
            | (go_at_call 19; with_reducible refine (HOF.out _ _ h5.pick2).mono ?_; rintro e w6 ⟨a6, c6, rfl, h6⟩; have hh := has_any l5 a a5 n5 c5 hn5 (by unfold maxLen; have := HUL.out; omega) w6 h6.pick3.rd; rw [HIR.out _ HF5.out] at hh; have HH := Lib.hid hh; clear hh)
            | (go_at_call 21; with_reducible refine (HFA.out _ _ hr).mono ?_; rintro e w5 ⟨a5, n5, c5, l5, rfl, hn5, hle5, f5, h5⟩; have HF5 := Lib.hid f5; clear f5))
          have hlea := HUL.out
          go_loopw [11] (fun i wr => LpRel W [row 2 1 a6 sn c6 (S.map (Value.int .i64)), HP.web p N k, row 2 1 a5 n5 c5 (l5.map (Value.int .i64)), row 2 1 (some ⟨g, off, none⟩) n1 cap1 (A.map (Value.int .i64))] sn i wr) (fun i _ => sn - (intOf i).toNat)
          case atStart => exact ⟨0, rfl, Nat.zero_le _, h6⟩
          case round =>
            clear h6 h5 hr
            obtain ⟨q, rfl, hq, hr⟩ := hrel
            by_cases hlt2 : q < sn
            · have hql : q < S.length := by rw [HSN.out]; exact hlt2
              have hyN := (HSM.out S[q]).1 (List.getElem_mem hql)
              obtain ⟨g6, off6, rfl⟩ := hr.row_some (by simp; omega)
              have hqs : (S.map (Value.int .i64))[q]? = some (.int .i64 S[q]) := by simp [hql]
              have d1 := hr.rd.at_ q (.int .i64 S[q]) hqs
              generalize S[q] = y at *
              clear hql
              have hli2 := HLIU.out y a
              rw [decide_eq_true (HO.out.sy _ _ hyN)] at hli2
              have hof2 := HOFU.out y
              have hny := HO.out.le y
              have hsl2 := sortI_len (N y)
              have ham : a ∈ sortI (N y) := mem_sortI.2 (HO.out.sy _ _ hyN)
              have hyl : y ∈ l5 := (HF5.out.2 y).2 ⟨fun e => HO.out.ir a (e ▸ hyN), (Lnk.Reach.refl N a).step hyN⟩
              obtain ⟨sy, hsy⟩ : ∃ sy, sy = (N y).length := ⟨_, rfl⟩
              rw [← hsy] at hof2 hsl2 hny
              have hha := fun (w : World) (ao : Option Addr) (cap : Nat) (h : Rd w ao ((sortI (N y)).map (Value.int .i64))) => has_any (sortI (N y)) a ao sy cap hsl2 (by unfold maxLen; omega) w h
              rw [decide_eq_true ham] at hha
              have hhb := fun (w : World) (h : Rd w a5 (l5.map (Value.int .i64))) => has_any l5 y a5 n5 c5 hn5 (by unfold maxLen; omega) w h
              rw [decide_eq_true hyl] at hhb
              have HLI2 := Lib.hid hli2; clear hli2
              have HOF2 := Lib.hid hof2; clear hof2
              have HHA := Lib.hid hha; clear hha
              have HHB := Lib.hid hhb; clear hhb
              have HQS := Lib.hid hqs; clear hqs
              clear hyN ham hyl hsy hsl2
              go_wp2_with (first
                | (go_at_call_of 24 (Value.int .i64 y); with_reducible refine (HHB.out _ h9.pick4.rd).mono ?_; rintro e w11 ⟨rfl, rfl⟩)
                | (go_at_call 24; with_reducible refine (HHA.out _ _ _ h9.rd).mono ?_; rintro e w10 ⟨rfl, rfl⟩)
                | (go_at_call 19; with_reducible refine (HOF2.out _ _ hr.pick2).mono ?_; rintro e w9 ⟨a9, c9, rfl, h9⟩; have d2 := h9.pick3.rd.at_ q (.int .i64 y) HQS.out)
                | (go_at_call 17; with_reducible refine (HLI2.out _ _ hr.pick2).mono ?_; rintro e w8 ⟨rfl, rfl⟩))
              go_roundw
              case rel => exact ⟨q + 1, by go_num, by omega, h9.drop.pick2⟩
              case measure => simp [intOf]; omega
            · go_wp2
              go_loopw [12] (fun i wr => LpRel W [row 2 1 a6 sn c6 (S.map (Value.int .i64)), HP.web p N k, row 2 1 a5 n5 c5 (l5.map (Value.int .i64)), row 2 1 (some ⟨g, off, none⟩) n1 cap1 (A.map (Value.int .i64))] n5 i wr) (fun i _ => n5 - (intOf i).toNat)
              case atStart => exact ⟨0, rfl, Nat.zero_le _, hr⟩
              case round =>
                clear hr
                obtain ⟨r, rfl, hrn, hr⟩ := hrel
                by_cases hlt3 : r < n5
                · have hrl : r < l5.length := by rw [hn5]; exact hlt3
                  have hmem := List.getElem_mem hrl
                  obtain ⟨g5, off5, rfl⟩ := hr.pick3.row_some (by simp; omega)
                  have hrs : (l5.map (Value.int .i64))[r]? = some (.int .i64 l5[r]) := by simp [hrl]
                  have d1 := hr.pick3.rd.at_ r (.int .i64 l5[r]) hrs
                  generalize l5[r] = z at *
                  clear hrl
                  have hzU : z ∈ U := ((HF5.out.2 z).1 hmem).2 (fun x => x ∈ U) hau (fun y z _ hz => HO.out.un y z hz)
                  have hfz := HFAU.out z hzU
                  have hbk := fun (l2 : List Int) (h : IsFall N z l2) => fall_back HO.out.sy HF5.out hmem h
                  have hinz := fun (l : List Int) (n : Nat) (w : World) (L : List HP) (ao : Option Addr) (cap : Nat) (hn : l.length = n) (hm : n ≤ 100000) (hrd : Rd w ao (l.map (Value.int .i64))) (h : At W w L) => insert_in l z ao n cap hn hm hrd h
                  have HFZ := Lib.hid hfz; clear hfz
                  have HBK := Lib.hid hbk; clear hbk
                  have HINZ := Lib.hid hinz; clear hinz
                  have HRS := Lib.hid hrs; clear hrs
                  clear hmem
                  have i1 : (r : Int) < (n5 : Int) := by omega
                  go_wp2
                  go_region_held3 (fun w' => w'.cell? ⟨g5, off5 + r, none⟩ = some (.int .i64 z)) (first | exact d1 | exact g1 | exact i1)
                    (first
                      | (go_at_call 23; refine (HINZ.out _ _ _ _ _ _ hn6 (by omega) h7.rd h7).mono ?_; rintro e w8 ⟨a8, c8, rfl, h8⟩; have i1 := h8.pick5.rd.at_ r (.int .i64 z) HRS.out)
                      | (go_at_call 21; refine (HFZ.out _ _ hr.drew.pick2).mono ?_; rintro e w7 ⟨a7, n6, c7, l6, rfl, hn6, hle6, f6, h7⟩; have g1 := h7.pick4.rd.at_ r (.int .i64 z) HRS.out))
                  go_wp2_with (first
                    | (go_at_call 12; with_reducible refine (same_true (HBK.out _ f6) rfl rfl h9.pick2.row_max h9.row_max h9.pick2.rd h9.rd).mono ?_; rintro e w10 ⟨rfl, q10, rfl⟩; have h10 := h9.drewN q10)
                    | (go_at_call 23; with_reducible refine (HINL.out _ _ _ _ _ _ hn5 (by omega) h8.pick5.rd h8).mono ?_; rintro e w9 ⟨a9, c9, rfl, h9⟩))
                  go_roundw
                  case rel => exact ⟨r + 1, by go_num, by omega, h10.drop.drop.drop.pick2⟩
                  case measure => simp only [intOf]; omega
                · go_wp2
                  go_roundw
                  case rel => exact ⟨i + 1, by go_num, by omega, hr.drop.pick2.drop⟩
                  case measure => simp [intOf]; omega
        · go_wp2
          go_returns
          exact ⟨rfl, hr.below⟩
theorem linksBoth_walk (W : World) (l : List OpD) (v : Value) (hR : kOps.R W l [v]) :
    Calls Try.prog 4 #[v] W fun e w' => e = .returned (.bool true) ∧ Below W.heap.size W w' := by
  obtain ⟨ao, cap, hv, h1, h2, h3, hi⟩ := hR
  injection hv with hv _
  subst hv
  exact linksBoth_any W l ao cap h1 h2 h3 hi
end linksBoth
end Go.Proofs.Ytihpcaklknbjiaa
