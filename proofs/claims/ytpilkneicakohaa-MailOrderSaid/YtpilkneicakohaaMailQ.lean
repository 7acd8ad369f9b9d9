/-
  The law MailOrder.
-/
import Derived.Test.YtpilkneicakohaaMailM
import Derived.Test.YtpilkneicakohaaMailOrd
import Derived.Deep.OwnRows
namespace Go.Proofs.Ytpilkneicakohaa
open Go.RowKit HP
open Mail (M)

theorem info_bool : (Try.prog.info? 4).map (fun i => (i.zero, i.size, i.bytes)) = some (some (.bool false), 1, 1) := by kernel_rfl
theorem under_bools : Try.prog.underlying 46 = some (.slice 4) := by kernel_rfl
noncomputable def kIntss : Kn Try.prog 45 (List (List Int)) := .slice kInts (by decide) (by kernel_rfl) (by kernel_rfl)

theorem ch_at {w : World} {ao : Option Addr} {li : List (List Int)} (h : Kn.At_ kInts w ao li) (k : Nat) (hk : k < li.length) :
    ∃ b off at_ cap, ao = some ⟨b, off, none⟩ ∧ w.cell? ⟨b, off + k, none⟩ = some (.slice at_ li[k].length cap) ∧ Rd w at_ (li[k].map (Value.int .i64)) ∧ li[k].length ≤ maxLen := by
  rcases h with rfl | ⟨b, off, rfl, h⟩
  · simp at hk
  · obtain ⟨cs, ⟨at_, cap, rfl, h1, h2, _, h3⟩, hc⟩ := h k _ (List.getElem?_eq_getElem hk)
    have := hc 0 _ rfl
    have e : kInts.sz = 1 := rfl
    rw [e, Nat.mul_one, Nat.add_zero] at this
    exact ⟨b, off, at_, cap, rfl, this, rd_of_at _ h3, by omega⟩

namespace Mail
def boxed (ts : List Int) (js : List Nat) : List M := js.map (msg ts)
theorem put_msg (ts : List Int) (k : Nat) : put (msg ts k) (boxed ts (List.range (min k 16))) = ((if k < 16 then 0 else 7), boxed ts (List.range (min (k + 1) 16))) := by
  unfold put boxed
  by_cases h : k < 16
  · rw [if_neg (by simp; omega), if_pos h, Nat.min_eq_left (by omega), Nat.min_eq_left (by omega), List.range_succ]; simp
  · rw [if_pos (by simp; omega), if_neg h, Nat.min_eq_right (by omega), Nat.min_eq_right (by omega)]
theorem boxed_len (ts : List Int) {n : Nat} {js : List Nat} (h : Js n js) (hn : n ≤ 16) : (boxed ts js).length ≤ 16 := by
  have := js_len h
  simp [boxed]; omega
end Mail

def bvs (l : List Bool) : List Value := l.map Value.bool
theorem made_outs (n : Nat) : (madeCells #[Value.bool false] (n + 1)).toList = bvs (Mail.outs n (List.range n)) := by
  rw [Mail.outs_none, bvs]
  apply List.ext_getElem
  · simp [madeCells]
  · intro i h1 h2
    simp [madeCells, Nat.mod_one]
theorem bvs_get (n : Nat) (js : List Nat) (i : Nat) (h : i < n + 1) : (bvs (Mail.outs n js))[i]? = some (.bool (decide (1 ≤ i ∧ i - 1 ∉ js))) := by
  rw [bvs, List.getElem?_map, Mail.outs_get n js i h]; rfl
theorem bvs_len (n : Nat) (js : List Nat) : (bvs (Mail.outs n js)).length = n + 1 := by simp [bvs, Mail.outs_len]

theorem quiet_add_left {P : Program} {f : FuncId} {args : Array Value} {w : World} {a n : Nat} {v : Value}
    (h : Calls P f args (w.drewN (a + n)) fun e w' => e = .returned v ∧ w.drewN (a + n) = w') :
    Calls P f args (w.drewN (a + n)) fun e w'' => e = .returned v ∧ ∃ m, w'' = w.drewN (a + m) :=
  h.mono fun _ _ ⟨he, hm⟩ => ⟨he, n, hm.symm⟩

/-- the loop that puts -/
def Ord1 (w0 : World) (b : Nat) (ts : List Int) (n i : Value) (wr : World) : Prop :=
  ∃ k : Nat, i = .int .i64 k ∧ k ≤ ts.length ∧ n = .int .i64 (min k 16 : Nat) ∧ At w0 wr [BoxC b (Mail.boxed ts (List.range (min k 16)))]
/-- the loop that takes -/
def Ord2 (w0 : World) (b B : Nat) (ts : List Int) (n c : Nat) (tk i : Value) (wr : World) : Prop :=
  ∃ (k : Nat) (js : List Nat), i = .int .i64 k ∧ k ≤ c ∧ Mail.Js n js ∧ tk = .int .i64 ((n : Int) - js.length) ∧ At w0 wr [row 4 1 (some ⟨B, 0, none⟩) (n + 1) (n + 1) (bvs (Mail.outs n js)), BoxC b (Mail.boxed ts js)]
/-- the walk down -/
def Ord3 (w : World) (Q : Nat → Bool) (n : Nat) (f j : Value) (wr : World) : Prop :=
  ∃ (k first q : Nat), j = .int .i64 k ∧ k ≤ n ∧ f = .int .i64 first ∧ Mail.Fst Q n k first ∧ wr = w.drewN q
/-- the last loop -/
def Ord4 (js : List Nat) (la i : Value) : Prop :=
  ∃ k : Nat, i = .int .i64 k ∧ k ≤ js.length ∧ la = .int .i64 ((if k = 0 then 0 else js.getD (k - 1) 0 + 1 : Nat) : Int)

set_option maxHeartbeats 16000000 in
set_option maxRecDepth 100000 in
theorem mailOrder_any (ts : List Int) (ch : List (List Int)) (ao ac : Option Addr) (cap cc : Nat) (hm : ts.length ≤ maxLen) (hmc : ch.length ≤ maxLen) (w : World) (hrt : Rd w ao (ts.map (Value.int .i64))) (hrc : Kn.At_ kInts w ac ch) :
    Calls Try.prog 4 #[.slice ao ts.length cap, .slice ac ch.length cc] w fun e w' => e = .returned (.bool true) ∧ Below w.heap.size w w' := by
  obtain ⟨W0, hW⟩ : ∃ W0, W0 = w := ⟨_, rfl⟩
  have hA : At W0 w [] := hW ▸ At.start w
  have hrt0 : Rd W0 ao (ts.map (Value.int .i64)) := hW ▸ hrt
  have hrc0 : Kn.At_ kInts W0 ac ch := hW ▸ hrc
  clear hrt hrc
  have HW := Lib.hid hW; clear hW
  unfold maxLen at hm hmc
  go_enter Try.func4, Try.ntmps4
  go_wp2_with (first
    | (go_at_call 8; refine (lives_any hA).mono ?_; rintro e w1 ⟨rfl, hA1⟩)
    | (go_at_call 9; refine (mnew_any hA1).mono ?_; rintro e w2 ⟨b, rfl, hA2⟩))
  go_loopw [6, 7] (fun n i wr => Ord1 W0 b ts n i wr) (fun _ i _ => ts.length - (intOf i).toNat)
  case atStart => exact ⟨0, rfl, by omega, rfl, hA2⟩
  case round =>
    obtain ⟨k, rfl, hk, rfl, hr⟩ := hrel
    by_cases hlt : k < ts.length
    · as_aux_lemma =>
        obtain ⟨g, off, rfl, hc⟩ := (hrt0.old hr).some_ (by simp; omega)
        have d0 := hc k (.int .i64 ts[k]) (by simp [hlt])
        clear hc
        have hst := Mail.put_msg ts k
        have hmg : Mail.msg ts k = (ts[k], (k : Int) + 1) := by simp [Mail.msg, hlt]
        rw [hmg] at hst
        generalize ts[k] = x at *
        have hput := mput_any x ((k : Int) + 1) (Mail.boxed_len ts (Mail.js_range (min k 16)) (by omega)) hr
        rw [hst] at hput
        have HP_ := Lib.hid hput; clear hput hst hmg
        by_cases h16 : k < 16
        · have hp := HP_.out
          rw [if_pos h16] at hp
          have HPP := Lib.hid hp; clear hp
          have hd16 : decide ((k : Int) < 16) = true := decide_eq_true (by omega)
          have hn1 : (min k 16 : Nat) = k := by omega
          have hn2 : min (k + 1) 16 = k + 1 := by omega
          rw [hn1]
          have HN1 := Lib.hid hn1; clear hn1
          have HN2 := Lib.hid hn2; clear hn2
          go_wp2_with (first
            | (go_at_call 11; refine HPP.out.mono ?_; rintro e w3 ⟨rfl, hA3⟩))
          go_roundw
          case rel => exact ⟨k + 1, by go_num, by omega, by rw [HN2.out]; go_num, hA3⟩
          case measure => simp [intOf]; omega
        · have hp := HP_.out
          rw [if_neg h16] at hp
          have HPP := Lib.hid hp; clear hp
          have hd16 : decide ((k : Int) < 16) = false := decide_eq_false (by omega)
          have HN := Lib.hid (show min (k + 1) 16 = min k 16 by omega)
          go_wp2_with (first
            | (go_at_call 11; refine HPP.out.mono ?_; rintro e w3 ⟨rfl, hA3⟩))
          go_roundw
          case rel => exact ⟨k + 1, by go_num, by omega, by rw [HN.out], hA3⟩
          case measure => simp [intOf]; omega
    · have hkl : k = ts.length := by omega
      subst hkl
      obtain ⟨n, hn⟩ : ∃ n : Nat, n = min ts.length 16 := ⟨_, rfl⟩
      rw [← hn] at hr ⊢
      have hn16 : n ≤ 16 := by omega
      have hnt : n ≤ ts.length := by omega
      have hj0 := Mail.js_range n
      clear hn
      have hmk : ∀ w, (Instr.makeSlice 46 (.int .i64 ((n : Int) + 1)) (.int .i64 ((n : Int) + 1))).run Try.prog w = .ok (.slice (some ⟨w.heap.size, 0, none⟩) (n + 1) (n + 1)) (w.alloc (.cells (madeCells #[.bool false] (n + 1)) 4)) := fun w => by
        have := run_make_row' (P := Try.prog) 46 4 (.bool false) 1 under_bools info_bool rfl .i64 .i64 (n + 1) (by omega) (by omega) w
        push_cast at this
        exact this
      have hO : At W0 (wr.alloc (.cells (madeCells #[.bool false] (n + 1)) 4)) [row 4 1 (some ⟨wr.heap.size, 0, none⟩) (n + 1) (n + 1) (bvs (Mail.outs n (List.range n))), BoxC b (Mail.boxed ts (List.range n))] := by
        have := (hr.alloc (.cells (madeCells #[.bool false] (n + 1)) 4)).row_of_one (e := 4) (size := 1) (n + 1) (n + 1) (Nat.le_refl _) (by unfold maxLen; omega) (by simp [size_madeCells])
        rw [List.take_of_length_le (by simp [size_madeCells]), made_outs] at this
        exact this
      obtain ⟨B, hB⟩ : ∃ B, B = wr.heap.size := ⟨_, rfl⟩
      rw [← hB] at hO
      have HB := Lib.hid hB
      go_wp2
      rw [← hB]
      clear hB hmk
      go_loopw [10, 11] (fun tk i wx => Ord2 W0 b B ts n ch.length tk i wx) (fun _ i _ => ch.length - (intOf i).toNat)
      case atStart => exact ⟨0, List.range n, rfl, by omega, hj0, by simp, hO⟩
      case round =>
        obtain ⟨i, js, rfl, hi, hjs, rfl, hw⟩ := hrel
        have hjl := Mail.js_len hjs
        by_cases hlt2 : i < ch.length
        · obtain ⟨cb, coff, at_, cp, rfl, hcc, hct, hcm⟩ := ch_at hrc0 i hlt2
          generalize ch[i] = cs at *
          have hcw := hw.oldCell hcc
          have hb16 := Mail.boxed_len ts hjs hn16
          have hf := mfind_any cs at_ cp hcm wr (hct.old hw) hb16 hw.pick2
          obtain ⟨fx, hfx⟩ : ∃ fx, fx = Mail.find cs (Mail.boxed ts js) 0 := ⟨_, rfl⟩
          rw [← hfx] at hf
          obtain ⟨x, p⟩ := fx
          simp only at hf
          have HF := Lib.hid hf; clear hf
          have HFX := Lib.hid hfx; clear hfx
          go_wp2_with (go_at_call 13; refine HF.out.mono ?_; rintro e w4 ⟨rfl, hF⟩)
          go_loopw [14, 15] (fun f j wy => Ord3 w4 (Mail.hit ts cs js) n f j wy) (fun _ j _ => (intOf j).toNat)
          case atStart => exact ⟨n, 0, 0, rfl, Nat.le_refl _, rfl, Mail.fst_start _ _, rfl⟩
          case round =>
            obtain ⟨k, first, q, rfl, hk, rfl, hfst, rfl⟩ := hrel
            have hFq := hF.drewN q
            by_cases hk1 : 1 ≤ k
            · obtain ⟨j, rfl⟩ : ∃ j, k = j + 1 := ⟨k - 1, by omega⟩
              have hjt : j < ts.length := by omega
              have cc0 := hF.oldCell hcc
              have ob := hF.pick2.rd.at_ (j + 1) _ (bvs_get n js (j + 1) (by omega))
              rw [Nat.zero_add] at ob
              obtain ⟨g, off, rfl, hc⟩ := hrt0.some_ (by simp; omega)
              have td := hF.oldCell (hc j (.int .i64 ts[j]) (by simp [hjt]))
              clear hc
              have hgd : ts.getD j 0 = ts[j] := by simp [hjt]
              have hhas := fun m => has_any (w := w4.drewN m) ts[j] cs at_ cp hcm (hct.old (hF.drewN m))
              have hdec : decide (1 ≤ j + 1 ∧ j + 1 - 1 ∉ js) = decide (j ∉ js) := by
                rw [decide_eq_decide]; simp
              rw [hdec] at ob
              have hhit : Mail.hit ts cs js (j + 1) = (decide (j ∈ js) && Mail.has cs ts[j]) := by
                rw [Mail.hit, show j + 1 - 1 = j by omega, hgd]; simp
              generalize ts[j] = tj at *
              clear hgd hdec
              have HHIT := Lib.hid hhit; clear hhit
              have HFST := Lib.hid hfst; clear hfst
              by_cases hjs2 : j ∈ js
              · have e1 : decide (j ∉ js) = false := by simp [hjs2]
                rw [e1] at ob
                cases hh : Mail.has cs tj with
                | true =>
                  rw [hh] at hhas
                  have hq := HHIT.out
                  rw [hh] at hq
                  have HQ := Lib.hid (show Mail.hit ts cs js (j + 1) = true by rw [hq]; simp [hjs2]); clear hq hh
                  have HH := Lib.hid hhas; clear hhas
                  have i1 : 0 ≤ (j : Int) + 1 := by omega
                  have i2 : (j : Int) + 1 ≤ (n : Int) := by omega
                  have i3 : ((j : Int) + 1).toNat = j + 1 := by omega
                  have i6 : (j : Int) < (n : Int) := by omega
                  have i7 : j < n := by omega
                  have i8 : (j : Int) + 1 < (n : Int) + 1 := by omega
                  have i4 : (j : Int) + 1 - 1 = (j : Int) := by omega
                  have i5 : IntKind.i64.wrap (j : Int) = (j : Int) := IntWalk.i64_in _ (by omega)
                  go_wp2
                  go_quiet ((go_at_call 21; exact quiet_add_left (HH.out _)))
                  go_wp2
                  go_roundw
                  case rel => exact ⟨j, j + 1, _, by go_num, by omega, by go_num, Mail.fst_yes HFST.out hk HQ.out, rfl⟩
                  case measure => simp [intOf]
                | false =>
                  rw [hh] at hhas
                  have hq := HHIT.out
                  rw [hh] at hq
                  have HQ := Lib.hid (show Mail.hit ts cs js (j + 1) = false by rw [hq]; simp); clear hq hh
                  have HH := Lib.hid hhas; clear hhas
                  have i1 : 0 ≤ (j : Int) + 1 := by omega
                  have i2 : (j : Int) + 1 ≤ (n : Int) := by omega
                  have i3 : ((j : Int) + 1).toNat = j + 1 := by omega
                  have i6 : (j : Int) < (n : Int) := by omega
                  have i7 : j < n := by omega
                  have i8 : (j : Int) + 1 < (n : Int) + 1 := by omega
                  have i4 : (j : Int) + 1 - 1 = (j : Int) := by omega
                  have i5 : IntKind.i64.wrap (j : Int) = (j : Int) := IntWalk.i64_in _ (by omega)
                  go_wp2
                  go_quiet ((go_at_call 21; exact quiet_add_left (HH.out _)))
                  go_wp2
                  go_roundw
                  case rel => exact ⟨j, first, _, by go_num, by omega, rfl, Mail.fst_no HFST.out HQ.out, rfl⟩
                  case measure => simp [intOf]
              · have e1 : decide (j ∉ js) = true := by simp [hjs2]
                rw [e1] at ob
                have hq := HHIT.out
                have HQ := Lib.hid (show Mail.hit ts cs js (j + 1) = false by rw [hq]; simp [hjs2]); clear hq
                clear hhas
                have i1 : 0 ≤ (j : Int) + 1 := by omega
                have i2 : (j : Int) + 1 ≤ (n : Int) := by omega
                have i3 : ((j : Int) + 1).toNat = j + 1 := by omega
                have i6 : (j : Int) < (n : Int) := by omega
                have i7 : j < n := by omega
                have i8 : (j : Int) + 1 < (n : Int) + 1 := by omega
                have i4 : (j : Int) + 1 - 1 = (j : Int) := by omega
                have i5 : IntKind.i64.wrap (j : Int) = (j : Int) := IntWalk.i64_in _ (by omega)
                go_wp2
                go_quiet (fail)
                go_wp2
                go_roundw
                case rel => exact ⟨j, first, _, by go_num, by omega, rfl, Mail.fst_no HFST.out HQ.out, rfl⟩
                case measure => simp [intOf]
            · have hk0 : k = 0 := by omega
              subst hk0
              rcases Mail.find_fst hjs hfst with ⟨rfl, hp⟩ | ⟨hf0, hfn, kk, hkk, hp, hpf⟩
              · have hpf : p = false := by have := HFX.out; unfold Mail.boxed at this; rw [← this] at hp; exact hp
                subst hpf
                clear hp
                go_wp2
                go_roundw
                case rel => exact ⟨i + 1, js, by go_num, by omega, hjs, rfl, hFq.pick2⟩
                case measure => simp [intOf]; omega
              · have hxp : x = (kk : Int) ∧ p = true := by
                  have := HFX.out; unfold Mail.boxed at this; rw [hp] at this
                  exact ⟨(Prod.ext_iff.1 this).1, (Prod.ext_iff.1 this).2⟩
                obtain ⟨rfl, rfl⟩ := hxp
                have hjj := hjs.lt _ (List.getElem_mem hkk)
                have hta := fun w L hA => mtake_any (w0 := W0) (w := w) (L := L) (a := b) (l := Mail.boxed ts js) kk hb16 hA
                have e1 : Mail.at_ (Mail.boxed ts js) kk = (Mail.msg ts js[kk], true) := Mail.at_msg ts js kk hkk
                have e2 : Mail.take (Mail.boxed ts js) kk = Mail.boxed ts (js.take kk ++ js.drop (kk + 1)) := Mail.take_msg ts js kk hkk
                rw [e1, e2] at hta
                have hos := Mail.outs_set hjs kk hkk
                have hje := Mail.js_erase hjs kk
                have hjl2 : (js.take kk ++ js.drop (kk + 1)).length + 1 = js.length := by simp; omega
                generalize js.take kk ++ js.drop (kk + 1) = js2 at *
                obtain ⟨jj, hjj2⟩ : ∃ jj, jj = js[kk] := ⟨_, rfl⟩
                rw [← hjj2] at hta hos hpf hjj
                subst hpf
                clear hjj2 e1 e2 hp
                have hjt : jj < ts.length := by omega
                have hmg : Mail.msg ts jj = (ts[jj], (jj : Int) + 1) := by simp [Mail.msg, hjt]
                rw [hmg] at hta
                obtain ⟨g, off, rfl, hc⟩ := hrt0.some_ (by simp; omega)
                have tdc := hc jj (.int .i64 ts[jj]) (by simp [hjt])
                clear hc hmg
                generalize ts[jj] = tj at *
                simp only at hta
                have HTA := Lib.hid hta; clear hta
                have HOS := Lib.hid hos; clear hos
                have HL2 := Lib.hid hjl2; clear hjl2
                have i0 : decide (0 < (jj : Int) + 1) = true := decide_eq_true (by omega)
                have i1 : 0 ≤ (jj : Int) + 1 := by omega
                have i2 : (jj : Int) + 1 ≤ (n : Int) := by omega
                have i3 : ((jj : Int) + 1).toNat = jj + 1 := by omega
                have i4 : (jj : Int) + 1 - 1 = (jj : Int) := by omega
                have i5 : IntKind.i64.wrap (jj : Int) = (jj : Int) := IntWalk.i64_in _ (by omega)
                have i6 : (jj : Int) < (n : Int) := by omega
                have i7 : jj < n := by omega
                have i8 : (jj : Int) + 1 < (n : Int) + 1 := by omega
                go_wp2_with (go_at_call 15; refine (HTA.out _ _ hFq).mono ?_; rintro e w5 ⟨rfl, hT⟩; have hM := hT.alloc (.cells #[.int .i64 tj, .int .i64 ((jj : Int) + 1)] 31); have m0 := hM.cell 0; have m1 := hM.cell 1; have t0 := hM.oldCell tdc; have r0 := hM.pick3.rd.at_ (jj + 1) _ (bvs_get n js (jj + 1) (by omega)); have r1 := hM.pick3.row_free (jj + 1); rw [Nat.zero_add] at r0)
                go_quiet (fail)
                go_wp2
                have hS := fun q => (hM.drewN q).pick3.row_set (jj + 1) (by rw [bvs_len]; omega) (.bool true)
                rw [Nat.zero_add, show (bvs (Mail.outs n js)).set (jj + 1) (.bool true) = bvs (Mail.outs n js2) by rw [← HOS.out]; simp [bvs, List.map_set]] at hS
                go_roundw
                case rel =>
                  refine ⟨i + 1, js2, by go_num, by omega, hje, ?_, ?_⟩
                  · have := HL2.out
                    congr 1; omega
                  · exact (hS _).pick2.drop
                case measure => simp [intOf]; omega
        · have hil : i = ch.length := by omega
          subst hil
          have hb16 := Mail.boxed_len ts hjs hn16
          have hl := lall_any wr hb16 hw.pick2
          have hbl : (Mail.boxed ts js).length = js.length := by simp [Mail.boxed]
          rw [hbl] at hl
          have HLL := Lib.hid hl; clear hl
          have HBL := Lib.hid hbl; clear hbl
          go_wp2_with (go_at_call 20; refine HLL.out.mono ?_; rintro e w6 ⟨ao6, cap6, rfl, hD⟩)
          go_loop [19, 20] (fun la i => Ord4 js la i) (fun _ i => js.length - (intOf i).toNat)
          case atStart => exact ⟨0, rfl, by omega, rfl⟩
          case round =>
            obtain ⟨k, rfl, hk, rfl⟩ := hrel
            by_cases hlt3 : k < js.length
            · have hkb : k < (Mail.boxed ts js).length := by rw [HBL.out]; exact hlt3
              obtain ⟨g, off, rfl⟩ := hD.row_some (by rw [mvs_len]; omega)
              have d1 := hD.rd.at_ _ _ (mvs_get (Mail.boxed ts js) k hkb).2
              rw [← Nat.add_assoc] at d1
              have hmk : (Mail.boxed ts js)[k].2 = (js[k] : Int) + 1 := by simp [Mail.boxed, Mail.msg]
              rw [hmk] at d1
              have hmem : js[k] ∈ js := List.getElem_mem hlt3
              have hlt4 := hjs.lt _ hmem
              have hla : (if k = 0 then 0 else js.getD (k - 1) 0 + 1) ≤ js[k] := by
                split
                · omega
                · have := List.pairwise_iff_getElem.1 hjs.up (k - 1) k (by omega) hlt3 (by omega)
                  rw [List.getD_eq_getElem?_getD, List.getElem?_eq_getElem (by omega), Option.getD_some]
                  omega
              have hnx : js.getD (k + 1 - 1) 0 = js[k] := by simp [hlt3]
              have HNX := Lib.hid hnx; clear hnx
              have ob := hD.pick3.rd.at_ (js[k] + 1) _ (bvs_get n js (js[k] + 1) (by omega))
              rw [Nat.zero_add, show decide (1 ≤ js[k] + 1 ∧ js[k] + 1 - 1 ∉ js) = false by simp [hmem]] at ob
              generalize (if k = 0 then 0 else js.getD (k - 1) 0 + 1) = la at *
              generalize js[k] = jk at *
              clear hmk
              have i0 : decide ((jk : Int) + 1 ≤ (la : Int)) = false := decide_eq_false (by omega)
              have i9 : decide ((n : Int) < (jk : Int) + 1) = false := decide_eq_false (by omega)
              have i1 : 0 ≤ (jk : Int) + 1 := by omega
              have i2 : (jk : Int) + 1 ≤ (n : Int) := by omega
              have i3 : ((jk : Int) + 1).toNat = jk + 1 := by omega
              have i6 : (jk : Int) < (n : Int) := by omega
              have i8 : (jk : Int) + 1 < (n : Int) + 1 := by omega
              go_wp2
              go_round
              case rel => exact ⟨k + 1, by go_num, by omega, by rw [if_neg (by omega), HNX.out]; go_num⟩
              case measure => simp [intOf]; omega
            · have hkl : k = js.length := by omega
              subst hkl
              generalize (if js.length = 0 then 0 else js.getD (js.length - 1) 0 + 1) = la
              have T : ((js.length : Int) == (n : Int) - ((n : Int) - (js.length : Int))) = true := by rw [beq_iff_eq]; omega
              go_wp2
              go_returns
              exact ⟨rfl, HW.out ▸ hD.below⟩
namespace mailOrder
theorem mailOrder_walk (W : World) (ts : List Int) (v : Value) (hR : kInts.R W ts [v]) (ch : List (List Int)) (u : Value) (hC : kIntss.R W ch [u]) :
    Calls Try.prog 4 #[v, u] W fun e w' => e = .returned (.bool true) ∧ Below W.heap.size W w' := by
  obtain ⟨ao, cap, hv, h1, h2, _, hi⟩ := hR
  obtain ⟨ac, cc, hu, c1, c2, _, hc⟩ := hC
  injection hv with hv _
  injection hu with hu _
  subst hv hu
  exact mailOrder_any ts ch ao ac cap cc (by omega) (by omega) W (rd_of_at _ hi) hc
end mailOrder
end Go.Proofs.Ytpilkneicakohaa
