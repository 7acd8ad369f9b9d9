/-
  The contracts of the heap at int: bury, Cancel, Len, Next, Pop, on the heap's memory.
-/
import Derived.Test.YtfooejfnlggncaaHeapIC
import Derived.Deep.LoopGhost
namespace Go.Proofs.Ytfooejfnlggncaa
open Go.RowKit HP
open Heap (Th)
namespace HI
section
variable {w0 w : World} {L : List HP} {p : Nat} {l : List (Th Int)} {S : List Int} {n : Int}

theorem perm4 (a b c d : HP) (L : List HP) : (a :: b :: c :: d :: L).Perm (c :: d :: a :: b :: L) :=
  (List.perm_append_comm (l₁ := [a, b]) (l₂ := [c, d])).append_right L
def BuryRel (w0 : World) (L : List HP) (p : Nat) (n : Int) (S : List Int) (lz : List (Th Int)) (k : Nat) (wr : World) : Prop :=
  ∃ l : List (Th Int), k = l.length ∧ l.length ≤ 1099511627777 ∧ lz = Heap.bury S l ∧ At w0 wr (Raw p l S n :: L)

set_option maxHeartbeats 4000000 in
set_option maxRecDepth 100000 in
theorem bury_raw (hl : l.length ≤ 1099511627777) (hA : At w0 w (Raw p l S n :: L)) :
    Calls Try.prog 33 #[.pointer (some ⟨p, 0, none⟩)] w fun e w' => e = .returned (.tuple #[]) ∧ At w0 w' (Raw p (Heap.bury S l) S n :: L) := by
  obtain ⟨lz, hlz⟩ : ∃ lz, lz = Heap.bury S l := ⟨_, rfl⟩
  rw [← hlz]
  have HLZ := Lib.hid hlz; clear hlz
  go_enter Try.func33, Try.ntmps33
  go_wp2
  go_loopg [] l.length (fun k wr => BuryRel w0 L p n S lz k wr)
  case atStart => exact ⟨l, rfl, hl, HLZ.out, hA⟩
  case round =>
    clear hA HLZ hl
    obtain ⟨l, rfl, hl, hlz, hr⟩ := hrel
    rw [Heap.bury] at hlz
    obtain ⟨ao, cap, mb, hO⟩ := Raw.op hr
    have c0 := hO.cell 0
    have c1 := hO.cell 1
    by_cases hne : l = []
    · rw [if_pos hne] at hlz
      have HLZ := Lib.hid hlz; clear hlz
      have hlen : l.length = 0 := by rw [hne]; rfl
      have HNE := Lib.hid hne; clear hne
      have hd : decide (0 < l.length) = false := decide_eq_false (by omega)
      have HLEN := Lib.hid hlen; clear hlen
      go_wp2
      go_quiet (fail)
      go_wp2
      go_returns
      refine ⟨rfl, ?_⟩
      rw [HLZ.out]
      exact hr.drewN _
    · rw [if_neg hne] at hlz
      have hpos : 0 < l.length := List.length_pos_iff.2 hne
      have hd : decide (0 < l.length) = true := decide_eq_true hpos
      have hd2 : (0 : Int) < (l.length : Int) := by omega
      obtain ⟨g, off, rfl⟩ := hO.pick2.row_some (by rw [tvs_len]; omega)
      have hz := List.getElem?_eq_getElem hpos
      rw [Heap.g_get l 0 hpos] at hlz
      generalize l[0] = z at *
      obtain ⟨b0, b1, b2⟩ := z
      obtain ⟨u0, u1, u2⟩ := hO.pick2.tv_at 0 _ _ _ hz
      rw [Nat.zero_mul, Nat.add_zero] at u0 u1 u2
      have HZ := Lib.hid hz; clear hz
      have hlk := fun q => (hO.pick3.drewN q).set_look Try.underlying59 Try.underlying3 zero_int b1
      simp only at hlz
      by_cases hin : b1 ∈ S
      · rw [if_pos hin] at hlz
        rw [if_pos hin] at hlk
        have HLZ := Lib.hid hlz; clear hlz
        have HIN := Lib.hid hin; clear hin
        have HNE := Lib.hid hne; clear hne
        go_wp2
        go_quiet (fail)
        go_wp2
        go_returns
        refine ⟨rfl, ?_⟩
        rw [HLZ.out]
        exact hr.drewN _
      · rw [if_neg hin] at hlz
        rw [if_neg hin] at hlk
        have HLZ := Lib.hid hlz; clear hlz
        have HIN := Lib.hid hin; clear hin
        have hof := fun q => off_raw hl hne (hr.drewN q)
        have hol := Heap.off_len l
        have HOL := Lib.hid hol; clear hol
        have HOF := Lib.hid hof; clear hof
        have HNE := Lib.hid hne; clear hne
        go_wp2
        go_quiet (fail)
        go_wp2_with (go_at_call 44; refine (HOF.out _).mono ?_; rintro e w5 ⟨rfl, hP⟩)
        go_roundg (l.length - 1)
        case rel => exact ⟨Heap.off l, HOL.out.symm, by rw [HOL.out]; omega, HLZ.out, hP⟩
        case measure => omega

/-- The heap that holds the things A, in their order; n tickets were given. -/
def Hc (p n : Nat) (A : List (Th Int)) : HP := ex fun l => ex fun S => pr (Heap.Inv l S n A) (Raw p l S n)
variable {N : Nat} {A : List (Th Int)}
theorem Hc.op (h : At w0 w (Hc p N A :: L)) : ∃ l S, Heap.Inv l S N A ∧ l.length ≤ N ∧ At w0 w (Raw p l S N :: L) := by
  obtain ⟨l, h⟩ := h.ex
  obtain ⟨S, h⟩ := h.ex
  obtain ⟨hi, h⟩ := h.pr
  exact ⟨l, S, hi, hi.llen N rfl, h⟩
theorem Hc.cl (hi : Heap.Inv l S N A) (h : At w0 w (Raw p l S N :: L)) : At w0 w (Hc p N A :: L) :=
  At.ex_mk l (At.ex_mk S (At.pr_mk hi h))

theorem new_any (hA : At w0 w L) :
    Calls Try.prog 11 #[] w fun e w' => ∃ p, e = .returned (.pointer (some ⟨p, 0, none⟩)) ∧ At w0 w' (Hc p 0 [] :: L) :=
  (new_raw hA).mono fun _ _ ⟨p, he, h⟩ => ⟨p, he, Hc.cl Heap.Inv.nil h⟩

theorem put_any (k : Int) (x : Int) (hN : N ≤ 1099511627776) (hA : At w0 w (Hc p N A :: L)) :
    Calls Try.prog 12 #[.pointer (some ⟨p, 0, none⟩), .int .i64 k, enc x] w fun e w' => e = .returned (.int .i64 ((N : Int) + 1)) ∧ At w0 w' (Hc p (N + 1) (Heap.ins (k, (N : Int) + 1, x) A) :: L) := by
  obtain ⟨l, S, hi, hl, h⟩ := Hc.op hA
  refine (put_raw k x (by omega) (by omega) (by omega) (fun hm => by have := hi.srng hm; omega) h).mono fun _ _ ⟨he, h⟩ => ⟨he, ?_⟩
  exact Hc.cl (N := N + 1) (hi.put (by omega) k x) h
theorem put_nil (k : Int) (x : Int) (hA : At w0 w L) :
    Calls Try.prog 12 #[.pointer none, .int .i64 k, enc x] w fun e w' => e = .returned (.int .i64 0) ∧ At w0 w' L := by
  go_enter Try.func12, Try.ntmps12
  go_wp2
  go_returns
  exact ⟨rfl, hA⟩

set_option maxHeartbeats 4000000 in
set_option maxRecDepth 100000 in
theorem cancel_any (k : Int) (hN : N ≤ 1099511627777) (hA : At w0 w (Hc p N A :: L)) :
    Calls Try.prog 13 #[.pointer (some ⟨p, 0, none⟩), .int .i64 k] w fun e w' => e = .returned (.bool (Heap.hasT k A)) ∧ At w0 w' (Hc p N (Heap.cancel k A) :: L) := by
  obtain ⟨l, S, hi, hl, h⟩ := Hc.op hA
  obtain ⟨ao, cap, mb, hO⟩ := Raw.op h
  have c1 := hO.cell 1
  have hlk := hO.pick3.set_look Try.underlying59 Try.underlying3 zero_int k
  have hmem := hi.mem k
  cases hh : Heap.hasT k A with
  | true =>
    rw [hh] at hmem
    have hin : k ∈ S := by simpa using hmem
    rw [if_pos hin] at hlk
    have hcut := hi.cut k
    clear hmem hin hh
    have HI := Lib.hid hcut; clear hcut hi
    go_enter Try.func13, Try.ntmps13
    go_wp2_with (first
      | (at_delete; refine wpList_set_del rfl (.tmp 19) (.tmp 20) rfl Try.underlying59 Try.underlying3 (by rfl) hO.pick3 k (by rfl) ?_; intro w2 h2)
      | (go_at_call 33; refine (bury_raw (l := l) (n := N) (S := S.erase k) (by omega) (Raw.cl rfl h2.pick3.pick3)).mono ?_; rintro e w5 ⟨rfl, hP⟩))
    go_returns
    exact ⟨rfl, Hc.cl HI.out hP⟩
  | false =>
    rw [hh] at hmem
    have hin : k ∉ S := by simpa using hmem
    rw [if_neg hin] at hlk
    rw [Heap.cancel_no hh]
    clear hmem hin hh
    have HI := Lib.hid hi; clear hi
    go_enter Try.func13, Try.ntmps13
    go_wp2
    go_returns
    exact ⟨rfl, hA⟩
theorem cancel_nil (k : Int) (hA : At w0 w L) :
    Calls Try.prog 13 #[.pointer none, .int .i64 k] w fun e w' => e = .returned (.bool false) ∧ At w0 w' L := by
  go_enter Try.func13, Try.ntmps13
  go_wp2
  go_returns
  exact ⟨rfl, hA⟩

theorem len_any (hA : At w0 w (Hc p N A :: L)) :
    Calls Try.prog 15 #[.pointer (some ⟨p, 0, none⟩)] w fun e w' => e = .returned (.int .i64 A.length) ∧ w = w' := by
  obtain ⟨l, S, hi, hl, h⟩ := Hc.op hA
  obtain ⟨ao, cap, mb, hO⟩ := Raw.op h
  have c1 := hO.cell 1
  rw [← hi.len]
  clear hi
  go_enter Try.func15, Try.ntmps15
  go_wp2_with (at_len; refine wpList_set_len rfl (.tmp 8) rfl Try.underlying59 (by rfl) hO.pick3 ?_)
  go_returns
  exact ⟨rfl, rfl⟩
theorem len_nil (w : World) :
    Calls Try.prog 15 #[.pointer none] w fun e w' => e = .returned (.int .i64 0) ∧ w = w' := by
  go_enter Try.func15, Try.ntmps15
  go_wp2
  go_returns
  exact ⟨rfl, rfl⟩

theorem next_any (hA : At w0 w (Hc p N A :: L)) :
    Calls Try.prog 16 #[.pointer (some ⟨p, 0, none⟩)] w fun e w' => e = .returned (.tuple #[.int .i64 (Heap.next A).1, .bool (Heap.next A).2]) ∧ w = w' := by
  have hlen := len_any hA
  cases A with
  | nil =>
    have HL := Lib.hid hlen; clear hlen
    go_enter Try.func16, Try.ntmps16
    go_wp2_with (go_at_call 15; refine HL.out.mono ?_; rintro e w5 ⟨rfl, rfl⟩)
    go_returns
    exact ⟨rfl, rfl⟩
  | cons t r =>
    obtain ⟨l, S, hi, hl, h⟩ := Hc.op hA
    have hne : l ≠ [] := fun e => by have := hi.nil_iff.1 e; cases this
    have hpos : 0 < l.length := List.length_pos_iff.2 hne
    have hz := List.getElem?_eq_getElem hpos
    have hf := hi.first rfl
    rw [Heap.g_get l 0 hpos] at hf
    rw [hf] at hz
    obtain ⟨ao, cap, mb, hO⟩ := Raw.op h
    obtain ⟨g, off, rfl⟩ := hO.pick2.row_some (by rw [tvs_len]; omega)
    obtain ⟨b0, b1, b2⟩ := t
    obtain ⟨u0, u1, u2⟩ := hO.pick2.tv_at 0 _ _ _ hz
    rw [Nat.zero_mul, Nat.add_zero] at u0 u1 u2
    have c0 := hO.cell 0
    have hd2 : (0 : Int) < (l.length : Int) := by omega
    have hnz : ((((b0, b1, b2) :: r : List (Th Int)).length : Int) == 0) = false := by simp; omega
    obtain ⟨q, hq⟩ : ∃ q, q = ((b0, b1, b2) :: r : List (Th Int)).length := ⟨_, rfl⟩
    rw [← hq] at hlen hnz
    have HL := Lib.hid hlen; clear hlen
    clear hq hf hz hi hne
    go_enter Try.func16, Try.ntmps16
    go_wp2_with (go_at_call 15; refine HL.out.mono ?_; rintro e w5 ⟨rfl, rfl⟩)
    go_returns
    exact ⟨rfl, rfl⟩
theorem next_nil (w : World) :
    Calls Try.prog 16 #[.pointer none] w fun e w' => e = .returned (.tuple #[.int .i64 0, .bool false]) ∧ w = w' := by
  go_enter Try.func16, Try.ntmps16
  go_wp2_with (go_at_call 15; refine (len_nil _).mono ?_; rintro e w5 ⟨rfl, rfl⟩)
  go_returns
  exact ⟨rfl, rfl⟩

set_option maxHeartbeats 4000000 in
set_option maxRecDepth 100000 in
theorem pop_any (now : Int) (hN : N ≤ 1099511627777) (hA : At w0 w (Hc p N A :: L)) :
    Calls Try.prog 14 #[.pointer (some ⟨p, 0, none⟩), .int .i64 now] w fun e w' =>
      e = .returned (.tuple #[enc (Heap.pop now A).1.1, .int .i64 (Heap.pop now A).1.2.1, .bool (Heap.pop now A).1.2.2]) ∧ At w0 w' (Hc p N (Heap.pop now A).2 :: L) := by
  have hnx := next_any hA
  cases A with
  | nil =>
    have HX := Lib.hid hnx; clear hnx
    go_enter Try.func14, Try.ntmps14
    go_wp2_with (go_at_call 16; refine HX.out.mono ?_; rintro e w5 ⟨rfl, rfl⟩)
    go_returns
    exact ⟨rfl, hA⟩
  | cons t r =>
    obtain ⟨b0, b1, b2⟩ := t
    have hnx2 : Heap.next ((b0, b1, b2) :: r) = (b0, true) := rfl
    rw [hnx2] at hnx
    have HX := Lib.hid hnx; clear hnx hnx2
    by_cases hdue : b0 ≤ now
    · rw [Heap.pop_due hdue]
      obtain ⟨l, S, hi, hl, h⟩ := Hc.op hA
      have hne : l ≠ [] := fun e => by have := hi.nil_iff.1 e; cases this
      have hpos : 0 < l.length := List.length_pos_iff.2 hne
      have hz := List.getElem?_eq_getElem hpos
      have hf := hi.first rfl
      rw [Heap.g_get l 0 hpos] at hf
      rw [hf] at hz
      obtain ⟨ao, cap, mb, hO⟩ := Raw.op h
      obtain ⟨g, off, rfl⟩ := hO.pick2.row_some (by rw [tvs_len]; omega)
      obtain ⟨u0, u1, u2⟩ := hO.pick2.tv_at 0 _ _ _ hz
      rw [Nat.zero_mul, Nat.add_zero] at u0 u1 u2
      have c0 := hO.cell 0
      have hd2 : (0 : Int) < (l.length : Int) := by omega
      have hcut := hi.cut b1
      rw [Heap.cancel_first (t := (b0, b1, b2)) hi.and] at hcut
      have HI := Lib.hid hcut; clear hcut
      have hd : decide (now < b0) = false := decide_eq_false (by omega)
      have hB := hO.alloc (.cells #[.int .i64 b0, .int .i64 b1, enc b2] 64)
      have m1 := hB.cell 1
      have d1 := hB.pick2.cell 1
      have hB1 := hB.drew.pick4
      clear hf hz hi hne hdue
      go_enter Try.func14, Try.ntmps14
      go_wp2_with (go_at_call 16; refine HX.out.mono ?_; rintro e w5 ⟨rfl, rfl⟩)
      go_region_held3 (fun w' => w'.cell? ⟨p, 1, none⟩ = some (.map (some mb)) ∧ w'.cell? ⟨w.heap.size, 1, none⟩ = some (.int .i64 b1)) (first | exact ⟨d1, m1⟩ | exact ⟨e1, e0⟩)
        ((refine step_set_del rfl (.tmp 33) (.tmp 35) rfl Try.underlying59 Try.underlying3 (by rfl) hB1 b1 (by rfl) ?_; intro w6 h6; have e0 := h6.pick2.cell 1; have e1 := h6.pick3.cell 1))
      go_wp2_with (go_at_call 33; refine (bury_raw (l := l) (n := N) (S := S.erase b1) (by omega) (Raw.cl rfl (h6.perm (perm4 _ _ _ _ _)))).mono ?_; rintro e w7 ⟨rfl, hP⟩; have z0 := hP.pick2.cell 0; have z2 := hP.pick2.cell 2)
      go_quiet (fail)
      go_wp2
      go_returns
      exact ⟨rfl, Hc.cl HI.out (hP.drewN _).pick2.drop⟩
    · rw [Heap.pop_late hdue]
      have hd : decide (now < b0) = true := decide_eq_true (by omega)
      clear hdue
      go_enter Try.func14, Try.ntmps14
      go_wp2_with (go_at_call 16; refine HX.out.mono ?_; rintro e w5 ⟨rfl, rfl⟩)
      go_returns
      exact ⟨rfl, hA⟩
theorem pop_nil (now : Int) (hA : At w0 w L) :
    Calls Try.prog 14 #[.pointer none, .int .i64 now] w fun e w' =>
      e = .returned (.tuple #[.int .i64 0, .int .i64 0, .bool false]) ∧ At w0 w' L := by
  go_enter Try.func14, Try.ntmps14
  go_wp2_with (go_at_call 16; refine (next_nil _).mono ?_; rintro e w5 ⟨rfl, rfl⟩)
  go_returns
  exact ⟨rfl, hA⟩
end
end HI
end Go.Proofs.Ytfooejfnlggncaa
