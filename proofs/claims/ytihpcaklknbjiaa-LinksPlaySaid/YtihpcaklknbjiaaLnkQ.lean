/-
  The law LinksCut.
-/
import Derived.Test.YtihpcaklknbjiaaLnkP
import Derived.Laws.OwnMore
import Derived.Deep.OwnRows
namespace Go.Proofs.Ytihpcaklknbjiaa
open Go.RowKit HP
open Go.Proofs.Ytihpcaklknbjiaa.Lnk

theorem info_i64s : (Try.prog.info? 34).map (fun i => (i.zero, i.size, i.bytes)) = some (some (.slice none 0 0), 1, 24) := by kernel_rfl
theorem under_i64ss : Try.prog.underlying 43 = some (.slice 34) := by kernel_rfl
/-- a kept list: where it lies, its room, its numbers -/
abbrev WsD := Option Addr × Nat × List Int
def wsv (s : WsD) : Value := .slice s.1 s.2.2.length s.2.1
def wsp (s : WsD) : HP := row 2 1 s.1 s.2.2.length s.2.1 (s.2.2.map (Value.int .i64))
theorem At.to_end {w0 w : World} {L : List HP} {Q : HP} (h : At w0 w (Q :: L)) : At w0 w (L ++ [Q]) := h.perm (List.perm_append_singleton _ _).symm
theorem At.rd_mem {w0 w : World} {L : List HP} {e size n cap : Nat} {ao : Option Addr} {xs : List Value} (h : At w0 w L) (hm : row e size ao n cap xs ∈ L) : Rd w ao xs := by
  obtain ⟨L1, L2, rfl⟩ := List.append_of_mem hm
  exact (h.perm List.perm_middle).rd
theorem At.max_mem {w0 w : World} {L : List HP} {e size n cap : Nat} {ao : Option Addr} {xs : List Value} (h : At w0 w L) (hm : row e size ao n cap xs ∈ L) : n ≤ maxLen := by
  obtain ⟨L1, L2, rfl⟩ := List.append_of_mem hm
  exact (h.perm List.perm_middle).row_max
def wcells (D : List WsD) (n : Nat) : List Value := D.map wsv ++ List.replicate (n - D.length) (.slice none 0 0)
theorem wcells_set (D : List WsD) (n : Nat) (s : WsD) (h : D.length < n) : (wcells D n).set D.length (wsv s) = wcells (D ++ [s]) n := by
  unfold wcells
  obtain ⟨m, hm⟩ : ∃ m, n - D.length = m + 1 := ⟨n - D.length - 1, by omega⟩
  rw [List.set_append_right _ _ (by simp), hm, List.length_map, Nat.sub_self, List.replicate_succ, List.set_cons_zero]
  simp only [List.map_append, List.map_cons, List.map_nil, List.length_append, List.length_singleton, List.append_assoc, List.cons_append, List.nil_append]
  rw [show n - (D.length + 1) = m by omega]
theorem wcells_len (D : List WsD) (n : Nat) (h : D.length ≤ n) : (wcells D n).length = n := by unfold wcells; simp; omega
theorem wcells_at (D : List WsD) (n j : Nat) (h : j < n) : ∃ v, (wcells D n)[j]? = some v := by
  unfold wcells
  by_cases h2 : j < D.length
  · exact ⟨wsv D[j], by rw [List.getElem?_append_left (by simp; exact h2)]; simp [h2]⟩
  · exact ⟨.slice none 0 0, by rw [List.getElem?_append_right (by simp; omega), List.getElem?_replicate, if_pos (by simp; omega)]⟩
theorem wcells_full (D : List WsD) (j : Nat) (h : j < D.length) : (wcells D D.length)[j]? = some (wsv D[j]) := by
  unfold wcells; simp [h]
theorem filter_sortI {S : List Int} (hS : S.Nodup) (a : Int) : sortI (S.filter (· != a)) = (sortI S).filter (· != a) :=
  rising_unique (sortI_rising (hS.filter _)) ((sortI_rising hS).filter _) fun x => by rw [mem_sortI, List.mem_filter, List.mem_filter, mem_sortI]

def Ws (W : World) (p k B n1 : Nat) (N : Int → List Int) (A : List Int) (ao1 : Option Addr) (cap1 : Nat) (i : Value) (wr : World) : Prop :=
  ∃ (j : Nat) (D : List WsD), i = .int .i64 j ∧ j ≤ n1 ∧ D.length = j ∧ D.map (·.2.2) = (A.take j).map (fun x => sortI (N x)) ∧
    At W wr (row 34 1 (some ⟨B, 0, none⟩) n1 n1 (wcells D n1) :: HP.web p N k :: row 2 1 ao1 n1 cap1 (A.map (Value.int .i64)) :: D.map wsp)
def Wk (W : World) (L : List HP) (a : Int) (S : List Int) (n : Nat) (s i : Value) (wr : World) : Prop :=
  ∃ (j n2 : Nat) (o : List Int) (ao : Option Addr) (cap : Nat), i = .int .i64 j ∧ j ≤ n ∧ s = .slice ao n2 cap ∧ o.length = n2 ∧ n2 ≤ j ∧ o = (S.take j).filter (· != a) ∧ At W wr (row 2 1 ao n2 cap (o.map (Value.int .i64)) :: L)
namespace linksCut
set_option maxRecDepth 100000 in
set_option maxHeartbeats 8000000 in
theorem linksCut_any (W : World) (a : Int) (ha : -9223372036854775808 ≤ a ∧ a ≤ 9223372036854775807) (l : List OpD) (ao : Option Addr) (cap : Nat) (hc : l.length ≤ cap) (hm : cap ≤ maxLen) (h0 : ao = none → cap = 0) (hrd : Kn.At_ kOp W ao l) :
    Calls Try.prog 5 #[.slice ao l.length cap, .int .i64 a] W fun e w' => e = .returned (.bool true) ∧ Below W.heap.size W w' := by
  have hA := At.start W
  have hE := early_any ao l.length cap hc hm h0
  have hN := fun (w : World) (L : List HP) (h : At W w L) => lnew_any h
  have hT := at_take hrd 500
  have hTl : (l.take 500).length = min l.length 500 := by rw [List.length_take, Nat.min_comm]
  obtain ⟨m, hmm⟩ : ∃ m, m = min l.length 500 := ⟨_, rfl⟩
  rw [← hmm] at hE hTl
  have hm5 : m ≤ 500 := by omega
  clear hmm hrd hc hm h0
  generalize l.take 500 = T at *
  generalize l.length = n at *
  obtain ⟨U, hU⟩ : ∃ U, U = a :: nds T := ⟨_, rfl⟩
  have hUf : Fits U := by
    subst hU
    intro x hx
    rcases List.mem_cons.1 hx with rfl | hx
    · exact ha
    · exact nds_fits hT x hx
  have hUl : U.length ≤ 1001 := by subst hU; rw [List.length_cons, nds_len, hTl]; omega
  have hUa : a ∈ U := by subst hU; exact List.mem_cons_self
  have hUn : ∀ o ∈ T, o.2.1 ∈ U ∧ o.2.2.1 ∈ U := fun o ho => by
    subst hU; exact ⟨List.mem_cons_of_mem _ (nds_mem ho).1, List.mem_cons_of_mem _ (nds_mem ho).2⟩
  clear hU ha
  have HN := Lib.hid hN; clear hN
  have HE := Lib.hid hE; clear hE
  have HL := Lib.hid hTl; clear hTl
  have HUF := Lib.hid hUf; clear hUf
  have HUL := Lib.hid hUl; clear hUl
  have HUA := Lib.hid hUa; clear hUa
  have HUN := Lib.hid hUn; clear hUn
  go_enter Try.func5, Try.ntmps5
  go_wp2_with (first
    | (go_at_call 9; with_reducible refine (lives_any hA).mono ?_; rintro e w1 ⟨rfl, h1⟩)
    | (go_at_call 10; with_reducible refine (HE.out _).mono ?_; rintro e w2 ⟨rfl, rfl⟩)
    | (go_at_call 11; with_reducible refine (HN.out _ _ h1).mono ?_; rintro e w3 ⟨p, rfl, h3⟩))
  go_loopw [6, 7] (fun s i wr => Bt1 W p U m s i wr) (fun _ i _ => m - (intOf i).toNat)
  case atStart => exact ⟨0, 0, 0, _, [], none, 0, rfl, Nat.zero_le _, rfl, rfl, Nat.zero_le _, Ok.nil _, (by simp), h3.row_nil _ _⟩
  case round =>
    clear h3 h1
    obtain ⟨j, k, n1, N, A, ao1, cap1, rfl, hj, rfl, hAl, hn1, hO, hAU, hr⟩ := hrel
    have HAL := Lib.hid hAl; clear hAl
    by_cases hlt : j < m
    · have hjl : j < T.length := by rw [HL.out]; exact hlt
      obtain ⟨b, off, rfl, k0, k1, k2, _, _⟩ := op_at hT j hjl
      have hun := HUN.out T[j] (List.getElem_mem hjl)
      generalize T[j] = o at *
      obtain ⟨cu, x, y, _⟩ := o
      simp only at k0 k1 k2 hun
      have d1 := hr.oldCell k1
      have d2 := hr.oldCell k2
      clear k0 hjl
      have hin1 := fun (w : World) (L : List HP) (ao : Option Addr) (cap : Nat) (hrd : Rd w ao (A.map (Value.int .i64))) (h : At W w L) => insert_in A x ao n1 cap HAL.out (by omega) hrd h
      have hl1 := insI_len A x
      have hU1 : ∀ z ∈ insI A x, z ∈ U := fun z hz => by
        rcases insI_mem.1 hz with hz | rfl
        · exact hAU z hz
        · exact hun.1
      have hin2 := fun (w : World) (L : List HP) (n : Nat) (ao : Option Addr) (cap : Nat) (hn : (insI A x).length = n) (hm : n ≤ 100000) (hrd : Rd w ao ((insI A x).map (Value.int .i64))) (h : At W w L) => insert_in (insI A x) y ao n cap hn hm hrd h
      have hl2 := insI_len (insI A x) y
      have hU2 : ∀ z ∈ insI (insI A x) y, z ∈ U := fun z hz => by
        rcases insI_mem.1 hz with hz | rfl
        · exact hU1 z hz
        · exact hun.2
      have hlb : (insI A x).length ≤ 2 * j + 1 := by rw [HAL.out] at hl1; omega
      have hlc : (insI (insI A x) y).length ≤ 2 * (j + 1) := by omega
      clear hl1 hl2 hU1
      generalize hB1 : insI A x = B1 at *
      generalize hB2 : insI B1 y = B2 at *
      clear hB1 hB2
      have HIN1 := Lib.hid hin1; clear hin1
      have HIN2 := Lib.hid hin2; clear hin2
      have HU2 := Lib.hid hU2; clear hU2
      have hlk := fun (w : World) (L : List HP) (h : At W w (HP.web p N k :: L)) => llink_any x y (fun h1 h2 => h1 (hO.sy _ _ h2)) h
      have HLK := Lib.hid hlk; clear hlk
      have HO2 := Lib.hid (hO.lk hun.1 hun.2)
      have HO := Lib.hid hO; clear hO
      clear hun
      have i1 : (0 : Int) ≤ (j : Int) := by omega
      have i2 : (j : Int) < (m : Int) := by omega
      go_wp2
      go_region_held3 (fun w' => w'.cell? ⟨b, off + j * 3 + 1, none⟩ = some (.int .i64 x) ∧ w'.cell? ⟨b, off + j * 3 + 2, none⟩ = some (.int .i64 y)) (first | exact ⟨d1, d2⟩ | exact ⟨h5.oldCell k1, h5.oldCell k2⟩)
        (first
          | (go_at_call 15; refine (HLK.out _ _ hr.drew.pick2).mono ?_; rintro e w5 ⟨rfl, h5⟩))
      have f1 := h5.oldCell k1
      have f2 := h5.oldCell k2
      go_wp2
      go_region_held3 (fun w' => w'.cell? ⟨b, off + j * 3 + 1, none⟩ = some (.int .i64 x) ∧ w'.cell? ⟨b, off + j * 3 + 2, none⟩ = some (.int .i64 y)) (first | exact ⟨f1, f2⟩ | exact ⟨h7.oldCell k1, h7.oldCell k2⟩ | exact ⟨h8.oldCell k1, h8.oldCell k2⟩)
        (first
          | (go_at_call 23; refine (HIN2.out _ _ _ _ _ rfl (by omega) h7.rd h7).mono ?_; rintro e w8 ⟨a8, c8, rfl, h8⟩)
          | (go_at_call 23; refine (HIN1.out _ _ _ _ h5.drew.pick2.rd h5.drew).mono ?_; rintro e w7 ⟨a7, c7, rfl, h7⟩))
      go_wp2
      go_roundw
      case rel => exact ⟨j + 1, _, _, _, _, _, _, by go_num, by omega, rfl, rfl, hlc, HO2.out, HU2.out, h8.pick2.drop.pick3.drop⟩
      case measure => simp [intOf]; omega
    · obtain rfl : j = m := by omega
      clear hlt hj
      have hn2 : n1 ≤ 1000 := by omega
      have hmk : ∀ w, (Instr.makeSlice 43 (.int .i64 (n1 : Int)) (.int .i64 (n1 : Int))).run Try.prog w = .ok (.slice (some ⟨w.heap.size, 0, none⟩) n1 n1) (w.alloc (.cells (madeCells #[.slice none 0 0] n1) 34)) := fun w =>
        run_make_row' (P := Try.prog) 43 34 (.slice none 0 0) 24 under_i64ss info_i64s rfl .i64 .i64 n1 (by omega) (by omega) w
      have hW := (hr.alloc (.cells (madeCells #[.slice none 0 0] n1) 34)).row_of_one (e := 34) (size := 1) n1 n1 (Nat.le_refl _) (by unfold maxLen; omega) (by simp [size_madeCells])
      rw [List.take_of_length_le (by simp [size_madeCells]), toList_madeCells_one] at hW
      obtain ⟨B, hB⟩ : ∃ B, B = wr.heap.size := ⟨_, rfl⟩
      rw [← hB] at hW
      go_wp2
      rw [← hB]
      clear hB hmk
      go_loopw [9] (fun i wr => Ws W p k B n1 N A ao1 cap1 i wr) (fun i _ => n1 - (intOf i).toNat)
      case atStart => exact ⟨0, [], rfl, Nat.zero_le _, rfl, rfl, hW.pick3.pick2⟩
      case round =>
        clear hr hW
        obtain ⟨i, D, rfl, hi, hDl, hDm, hr⟩ := hrel
        by_cases hlt : i < n1
        · have hil : i < A.length := by rw [HAL.out]; exact hlt
          obtain ⟨g, off, rfl⟩ := hr.pick3.row_some (by simp; omega)
          have d0 := hr.pick3.rd.at_ i (.int .i64 A[i]) (by simp [hil])
          have htk := List.take_succ_eq_append_getElem hil
          generalize A[i] = x at *
          clear hil
          have hof := lof_any x (hO.fits HUF.out x) (by have := hO.le x; omega) hr.pick2
          rw [← sortI_len (N x)] at hof
          obtain ⟨S, hS⟩ : ∃ S, S = sortI (N x) := ⟨_, rfl⟩
          rw [← hS] at hof
          have hmap : (D.map (·.2.2)) ++ [S] = ((A.take (i + 1)).map fun x => sortI (N x)) := by rw [htk, List.map_append, hDm, hS]; rfl
          obtain ⟨v0, hv0⟩ := wcells_at D n1 i hlt
          have hwl := wcells_len D n1 (by omega)
          obtain ⟨sn, hsn⟩ : ∃ sn, sn = S.length := ⟨_, rfl⟩
          rw [← hsn] at hof
          have HSN := Lib.hid hsn; clear hsn
          have HOF := Lib.hid hof; clear hof
          have HMAP := Lib.hid hmap; clear hmap hDm hS htk
          have HV := Lib.hid hv0; clear hv0
          have HWL := Lib.hid hwl; clear hwl
          have HO' := Lib.hid hO; clear hO
          have HDL := Lib.hid hDl; clear hDl
          have i1 : (0 : Int) ≤ (i : Int) := by omega
          have i2 : (i : Int) < (n1 : Int) := by omega
          go_wp2_with (go_at_call 19; with_reducible refine HOF.out.mono ?_; rintro e w5 ⟨a5, c5, rfl, h5⟩; have e5 := h5.pick3.rd.at_ i _ HV.out; have e6 := h5.pick3.row_free i; rw [Nat.zero_add] at e5)
          have hE := h5.pick3.row_set i (by rw [HWL.out]; exact hlt) (.slice a5 sn c5)
          rw [Nat.zero_add] at hE
          go_roundw
          case rel =>
            refine ⟨i + 1, D ++ [(a5, c5, S)], by go_num, by omega, by simp [HDL.out], by rw [List.map_append]; exact HMAP.out, ?_⟩
            have e7 := wcells_set D n1 (a5, c5, S) (by rw [HDL.out]; exact hlt)
            rw [HDL.out] at e7
            rw [← e7, List.map_append]
            have hF := hE.pick2.to_end
            have e8 := HSN.out
            subst e8
            exact hF
          case measure => simp [intOf]; omega
        · obtain rfl : i = n1 := by omega
          rw [List.take_of_length_le (by rw [HAL.out]; exact Nat.le_refl _)] at hDm
          have hwf : ∀ j (h : j < D.length), (wcells D i)[j]? = some (wsv D[j]) := fun j h => by rw [← hDl]; exact wcells_full D j h
          have hDS : ∀ j (h : j < D.length) (h2 : j < A.length), (D[j]).2.2 = sortI (N A[j]) := fun j h h2 => by
            have := congrArg (fun l => l[j]?) hDm
            simpa [h, h2] using this
          clear hDm hlt hi
          have hsl := sortI_len (N a)
          have hof1 := lof_any a (hO.fits HUF.out a) (by have := hO.le a; omega) hr.pick2
          have hct := fun (w : World) (L : List HP) (h : At W w (HP.web p N k :: L)) => lcut_any a (hO.fits HUF.out a) (by have := hO.le a; omega) (fun z => hO.iff a z) (hO.ir a) h
          have hOc := hO.ct a
          have hca : ct N a a = [] := by unfold ct; rw [if_pos rfl]
          have hofc := fun (x : Int) (w : World) (L : List HP) (h : At W w (HP.web p (ct N a) k :: L)) => lof_any x (hOc.fits HUF.out x) (by have := hOc.le x; omega) h
          have hof2 := hofc a
          rw [hca] at hof2
          have hfa : ∀ (w : World) (L : List HP), At W w (HP.web p (ct N a) k :: L) → Calls Try.prog 21 #[.pointer (some ⟨p, 0, none⟩), .int .i64 a] w fun e w' => ∃ ao cap, e = .returned (.slice ao 0 cap) ∧
              At W w' (row 2 1 ao 0 cap [] :: HP.web p (ct N a) k :: L) := fun w L h => (lfall_n a U HUA.out hOc HUF.out (by have := HUL.out; omega) h).mono fun _ _ ⟨ao, n, cap, l, g1, g2, _, g3, g4⟩ => by
            have e : l = [] := g3.unique (fall_of List.Pairwise.nil (by simp) (fun x hx => by cases hx) (fun y hy z hz => by
              simp at hy; subst hy; rw [hca] at hz; cases hz))
            subst e
            subst g2
            exact ⟨ao, cap, g1, g4⟩
          have hwant : ∀ x, x ≠ a → sortI (ct N a x) = (sortI (N x)).filter (· != a) := fun x hx => by
            unfold ct; rw [if_neg hx]; exact filter_sortI (hO.nd x) a
          obtain ⟨S, hS⟩ : ∃ S, S = sortI (N a) := ⟨_, rfl⟩
          obtain ⟨sn, hsn⟩ : ∃ sn, sn = (N a).length := ⟨_, rfl⟩
          rw [← hS] at hof1 hct hsl
          rw [← hsn] at hof1 hct hsl
          have hsn8 : sn ≤ 8 := by rw [hsn]; exact hO.le a
          clear hS hsn hca
          have HOF1 := Lib.hid hof1; clear hof1
          have HCT := Lib.hid hct; clear hct
          have HOF2 := Lib.hid hof2; clear hof2
          have HOFC := Lib.hid hofc; clear hofc
          have HFA := Lib.hid hfa; clear hfa
          have HWANT := Lib.hid hwant; clear hwant
          have HO := Lib.hid hO; clear hO
          have HOC := Lib.hid hOc; clear hOc
          have HSL := Lib.hid hsl; clear hsl
          have HWF := Lib.hid hwf; clear hwf
          have HDS := Lib.hid hDS; clear hDS
          have HDL := Lib.hid hDl; clear hDl
          have HAU := Lib.hid hAU; clear hAU
          go_wp2_with (first
            | (go_at_call 21; with_reducible refine (HFA.out _ _ h8.pick2).mono ?_; rintro e w9 ⟨a9, c9, rfl, h9⟩)
            | (go_at_call 19; with_reducible refine (HOF2.out _ _ h7.pick2).mono ?_; rintro e w8 ⟨a8, c8, rfl, h8⟩)
            | (go_at_call 12; with_reducible refine (same_true rfl HSL.out HSL.out (by unfold maxLen; omega) (by unfold maxLen; omega) h6.rd h6.pick3.rd).mono ?_; rintro e w7 ⟨rfl, q7, rfl⟩; have h7 := h6.drewN q7)
            | (go_at_call 13; with_reducible refine (HCT.out _ _ h5.pick2).mono ?_; rintro e w6 ⟨a6, c6, rfl, h6⟩)
            | (go_at_call 19; with_reducible refine HOF1.out.mono ?_; rintro e w5 ⟨a5, c5, rfl, h5⟩))
          have hL0 := h9.drop.pick2.drop.pick2.drop.pick2.drop
          clear h9 h8 h7 h6 h5 hr
          obtain ⟨L0, hLe⟩ : ∃ L0, L0 = D.map wsp := ⟨_, rfl⟩
          rw [← hLe] at hL0
          have hmemL : ∀ j (h : j < D.length), wsp D[j] ∈ L0 := fun j h => by subst hLe; exact List.mem_map.2 ⟨_, List.getElem_mem h, rfl⟩
          have HML := Lib.hid hmemL; clear hmemL hLe
          go_loopw [11] (fun q wr => LpRel W (HP.web p (ct N a) k :: row 34 1 (some ⟨B, 0, none⟩) i i (wcells D i) :: row 2 1 ao1 i cap1 (A.map (Value.int .i64)) :: L0) i q wr) (fun q _ => i - (intOf q).toNat)
          case atStart => exact ⟨0, rfl, Nat.zero_le _, hL0⟩
          case round =>
            clear hL0
            obtain ⟨r, rfl, hrn, hr⟩ := hrel
            by_cases hlt : r < i
            · have hrl : r < A.length := by rw [HAL.out]; exact hlt
              have hrd2 : r < D.length := by rw [HDL.out]; exact hlt
              obtain ⟨g, off, rfl⟩ := hr.pick3.row_some (by simp; omega)
              have hxs : (A.map (Value.int .i64))[r]? = some (.int .i64 A[r]) := by simp [hrl]
              have d0 := hr.pick3.rd.at_ r _ hxs
              have hds := HDS.out r hrd2 hrl
              have hws := HWF.out r hrd2
              have hmem := HML.out r hrd2
              generalize D[r] = s at *
              generalize A[r] = x at *
              obtain ⟨sao, scap, sl⟩ := s
              simp only at hds
              unfold wsv at hws
              unfold wsp at hmem
              simp only at hws hmem
              clear hrl hrd2
              by_cases hxa : x = a
              · have T : (x == a) = true := by simp [hxa]
                clear hxa hds hws hmem hxs
                go_wp2
                go_roundw
                case rel => exact ⟨r + 1, by go_num, by omega, hr⟩
                case measure => simp only [intOf]; omega
              · have T : (x == a) = false := by simp [hxa]
                have hwt := HWANT.out x hxa
                have hofx := HOFC.out x
                have hlx := sortI_len (ct N a x)
                have hlx8 := HOC.out.le x
                rw [hwt] at hofx hlx
                obtain ⟨wn, hwn⟩ : ∃ wn, wn = (ct N a x).length := ⟨_, rfl⟩
                rw [← hwn] at hofx hlx hlx8
                obtain ⟨n3, hn3⟩ : ∃ n3, n3 = sl.length := ⟨_, rfl⟩
                rw [← hn3] at hws hmem
                rw [← hds] at hofx hlx
                have hn38 : n3 ≤ 8 := by rw [hn3, hds, sortI_len]; exact HO.out.le x
                clear hds hwt hwn hxa
                have HN3 := Lib.hid hn3; clear hn3
                have HWS := Lib.hid hws; clear hws
                have HMEM := Lib.hid hmem; clear hmem
                have HXS := Lib.hid hxs; clear hxs
                have HOFX := Lib.hid hofx; clear hofx
                have HLX := Lib.hid hlx; clear hlx
                have i1 : (0 : Int) ≤ (r : Int) := by omega
                have i2 : (r : Int) < (i : Int) := by omega
                go_wp2
                go_loopw [12, 13] (fun s q wr => Wk W (HP.web p (ct N a) k :: row 34 1 (some ⟨B, 0, none⟩) i i (wcells D i) :: row 2 1 (some ⟨g, off, none⟩) i cap1 (A.map (Value.int .i64)) :: L0) a sl n3 s q wr) (fun _ q _ => n3 - (intOf q).toNat)
                case atStart => exact ⟨0, 0, [], none, 0, rfl, Nat.zero_le _, rfl, rfl, Nat.zero_le _, by simp, hr.row_nil _ _⟩
                case round =>
                  clear hr
                  obtain ⟨q, n2, o, ao2, cap2, rfl, hq, rfl, ho, hn2', hoe, hr⟩ := hrel
                  have dB := hr.pick3.rd.at_ r _ HWS.out
                  rw [Nat.zero_add] at dB
                  by_cases hlt3 : q < n3
                  · have hql : q < sl.length := by rw [← HN3.out]; exact hlt3
                    have hrs := hr.rd_mem (List.mem_cons_of_mem _ (List.mem_cons_of_mem _ (List.mem_cons_of_mem _ (List.mem_cons_of_mem _ HMEM.out))))
                    obtain ⟨g2, off2, rfl, hc⟩ := hrs.some_ (by simp; omega)
                    have dk := hc q (.int .i64 sl[q]) (by simp [hql])
                    have htk := List.take_succ_eq_append_getElem hql
                    clear hc hrs
                    generalize sl[q] = y at *
                    clear hql
                    have hoe2 : (sl.take (q + 1)).filter (· != a) = o ++ (if y != a then [y] else []) := by
                      rw [htk, List.filter_append, ← hoe]; by_cases h : y = a <;> simp [h]
                    clear htk
                    have HO2 := Lib.hid ho; clear ho
                    by_cases hya : y = a
                    · have T2 : (y != a) = false := by simp [hya]
                      rw [T2] at hoe2
                      simp only [Bool.false_eq_true, if_false, List.append_nil] at hoe2
                      have HOE := Lib.hid hoe2; clear hoe2 hoe hya
                      go_wp2
                      go_roundw
                      case rel => exact ⟨q + 1, n2, o, _, _, by go_num, by omega, rfl, HO2.out, by omega, HOE.out.symm, hr⟩
                      case measure => simp only [intOf]; omega
                    · have T2 : (y != a) = true := by simp [hya]
                      rw [T2] at hoe2
                      simp only [if_true] at hoe2
                      have HOE := Lib.hid hoe2; clear hoe2 hoe hya
                      go_wp2_with (at_builtin; refine wpList_append1 hr rfl (.tmp 121) (.tmp 129) 34 rfl (.int .i64 0) 8 under_i64s info_i64 rfl (by decide) rfl rfl rfl rfl (by omega) ?_; intro ao6 cap6 w7 hC)
                      go_roundw
                      case rel => exact ⟨q + 1, n2 + 1, o ++ [y], _, _, by go_num, by omega, rfl, by simp [HO2.out], by omega, HOE.out.symm, by rw [List.map_append]; exact hC⟩
                      case measure => simp only [intOf]; omega
                  · rw [List.take_of_length_le (by rw [← HN3.out]; omega)] at hoe
                    rw [← hoe] at HLX HOFX
                    clear hoe
                    have d1 := hr.pick4.rd.at_ r _ HXS.out
                    have HO2 := Lib.hid ho; clear ho
                    go_wp2_with (first
                      | (go_at_call 12; with_reducible refine (same_true rfl HLX.out HO2.out h10.row_max h10.pick3.row_max h10.rd h10.pick3.rd).mono ?_; rintro e w11 ⟨rfl, q11, rfl⟩; have h11 := h10.drewN q11)
                      | (go_at_call 19; with_reducible refine (HOFX.out _ _ hr.pick2).mono ?_; rintro e w10 ⟨a10, c10, rfl, h10⟩))
                    go_roundw
                    case rel => exact ⟨r + 1, by go_num, by omega, h11.drop.pick2.drop⟩
                    case measure => simp only [intOf]; omega
            · go_wp2
              go_returns
              exact ⟨rfl, hr.below⟩
theorem linksCut_walk (W : World) (l : List OpD) (v : Value) (hR : kOps.R W l [v]) (a : Int) (wa : (Lit.int .i64 a).wf = true) :
    Calls Try.prog 5 #[v, .int .i64 a] W fun e w' => e = .returned (.bool true) ∧ Below W.heap.size W w' := by
  obtain ⟨ao, cap, hv, h1, h2, h3, hi⟩ := hR
  injection hv with hv _
  subst hv
  exact linksCut_any W a (wf_i64l wa) l ao cap h1 h2 h3 hi
end linksCut
end Go.Proofs.Ytihpcaklknbjiaa
