/-
  The contracts of lists of numbers, of the reference's Find and Same.
-/
import Derived.Test.YtpilkneicakohaaMailB
namespace Go.Proofs.Ytpilkneicakohaa
open Go.RowKit HP
open Mail (M)

section
variable {w0 w : World} {L : List HP} {a : Nat} {l : List M}

theorem has_any (n : Int) (ts : List Int) (ao : Option Addr) (cap : Nat) (hm : ts.length ≤ maxLen) (hrd : Rd w ao (ts.map (Value.int .i64))) :
    Calls Try.prog 21 #[.slice ao ts.length cap, .int .i64 n] w fun e w' => e = .returned (.bool (Mail.has ts n)) ∧ w = w' := by
  unfold maxLen at hm
  go_enter Try.func21, Try.ntmps21
  go_wp2
  go_loop [5] (fun i => ∃ k : Nat, i = .int .i64 k ∧ k ≤ ts.length ∧ Mail.has ts n = Mail.has (ts.drop k) n) (fun i => ts.length - (intOf i).toNat)
  case atStart => exact ⟨0, rfl, by omega, rfl⟩
  case round =>
    obtain ⟨k, rfl, hk, hx⟩ := hrel
    have HX := Lib.hid hx; clear hx
    by_cases hlt : k < ts.length
    · obtain ⟨b, off, rfl, hc⟩ := hrd.some_ (by simp; omega)
      have hck := hc k (.int .i64 ts[k]) (by simp [hlt])
      clear hc
      have HD := Lib.hid (show ts.drop k = ts[k] :: ts.drop (k + 1) from List.drop_eq_getElem_cons hlt)
      generalize ts[k] = x at *
      by_cases he : x = n
      · have T : (x == n) = true := by simp [he]
        have HE := Lib.hid he; clear he
        go_wp2
        go_returns
        exact ⟨ret_bool (by rw [HX.out, HD.out, Mail.has_cons, HE.out]; simp), rfl⟩
      · have T : (x == n) = false := by simp [he]
        have HE := Lib.hid he; clear he
        go_wp2
        go_round
        case rel => exact ⟨k + 1, by go_num, by omega, by rw [HX.out, HD.out, Mail.has_cons, decide_eq_false HE.out]; rfl⟩
        case measure => simp [intOf]; omega
    · have hkl : k = ts.length := by omega
      subst hkl
      go_wp2
      go_returns
      exact ⟨ret_bool (by rw [HX.out]; simp [Mail.has]), rfl⟩

theorem indexi_any (n : Int) (ts : List Int) (ao : Option Addr) (cap : Nat) (hm : ts.length ≤ maxLen) (hrd : Rd w ao (ts.map (Value.int .i64))) :
    Calls Try.prog 26 #[.slice ao ts.length cap, .int .i64 n] w fun e w' => e = .returned (.int .i64 (Mail.idx n ts 0)) ∧ w = w' := by
  unfold maxLen at hm
  go_enter Try.func26, Try.ntmps26
  go_wp2
  go_loop [8] (fun i => ∃ k : Nat, i = .int .i64 k ∧ k ≤ ts.length ∧ Mail.idx n ts 0 = Mail.idx n (ts.drop k) k) (fun i => ts.length - (intOf i).toNat)
  case atStart => exact ⟨0, rfl, by omega, rfl⟩
  case round =>
    obtain ⟨k, rfl, hk, hx⟩ := hrel
    have HX := Lib.hid hx; clear hx
    by_cases hlt : k < ts.length
    · obtain ⟨b, off, rfl, hc⟩ := hrd.some_ (by simp; omega)
      have hck := hc k (.int .i64 ts[k]) (by simp [hlt])
      clear hc
      have HD := Lib.hid (show ts.drop k = ts[k] :: ts.drop (k + 1) from List.drop_eq_getElem_cons hlt)
      generalize ts[k] = x at *
      by_cases he : x = n
      · have T : (n == x) = true := by simp [he]
        have HE := Lib.hid he; clear he
        go_wp2
        go_returns
        exact ⟨ret_int (by rw [HX.out, HD.out, Mail.idx, if_pos HE.out]), rfl⟩
      · have T : (n == x) = false := by simp; exact fun h => he h.symm
        have HE := Lib.hid he; clear he
        go_wp2
        go_round
        case rel => exact ⟨k + 1, by go_num, by omega, by rw [HX.out, HD.out, Mail.idx, if_neg HE.out]⟩
        case measure => simp [intOf]; omega
    · have hkl : k = ts.length := by omega
      subst hkl
      go_wp2
      go_returns
      exact ⟨ret_int (by rw [HX.out]; simp [Mail.idx]), rfl⟩

theorem contains_any (n : Int) (ts : List Int) (ao : Option Addr) (cap : Nat) (hm : ts.length ≤ maxLen) (hrd : Rd w ao (ts.map (Value.int .i64))) :
    Calls Try.prog 23 #[.slice ao ts.length cap, .int .i64 n] w fun e w' => e = .returned (.bool (Mail.has ts n)) ∧ w = w' := by
  have hh := Mail.idx_has n ts 0
  have HI := Lib.hid (indexi_any n ts ao cap hm hrd)
  rw [← hh]
  clear hh
  go_enter Try.func23, Try.ntmps23
  go_wp2_with (go_at_call 26; refine HI.out.mono ?_; rintro e w' ⟨rfl, rfl⟩)
  go_returns
  exact ⟨rfl, rfl⟩

theorem rfind_any (ts : List Int) (ao : Option Addr) (cap : Nat) (hm : ts.length ≤ maxLen) (hrd : Rd w ao (ts.map (Value.int .i64))) (hl : l.length ≤ 16) (hA : At w0 w (RBoxC a l :: L)) :
    Calls Try.prog 14 #[.pointer (some ⟨a, 0, none⟩), .slice ao ts.length cap] w fun e w' => e = .returned (.tuple #[.int .i64 (Mail.find ts l 0).1, .bool (Mail.find ts l 0).2]) ∧ w = w' := by
  obtain ⟨ao1, cap1, hO⟩ := RBoxC.op hA
  have c0 := hO.cell 0
  have hr := hO.drop.rd
  go_enter Try.func14, Try.ntmps14
  go_wp2
  go_loop [6] (fun i => ∃ k : Nat, i = .int .i64 k ∧ k ≤ l.length ∧ Mail.find ts l 0 = Mail.find ts (l.drop k) k) (fun i => l.length - (intOf i).toNat)
  case atStart => exact ⟨0, rfl, by omega, rfl⟩
  case round =>
    obtain ⟨k, rfl, hk, hx⟩ := hrel
    have HX := Lib.hid hx; clear hx
    by_cases hlt : k < l.length
    · obtain ⟨b, off, rfl, hc⟩ := hr.some_ (by rw [mvs_len]; omega)
      obtain ⟨v1, _⟩ := mvs_get l k hlt
      have hck := hc _ _ v1
      clear hc v1
      have HD := Lib.hid (show l.drop k = l[k] :: l.drop (k + 1) from List.drop_eq_getElem_cons hlt)
      generalize l[k] = x at *
      have hh := has_any x.1 ts ao cap hm hrd
      cases he : Mail.has ts x.1 with
      | true =>
        rw [he] at hh
        have HH := Lib.hid hh; clear hh
        have HE := Lib.hid he; clear he
        go_wp2_with (go_at_call 21; refine HH.out.mono ?_; rintro e w' ⟨rfl, rfl⟩)
        go_returns
        refine ⟨?_, rfl⟩
        rw [HX.out, HD.out, Mail.find, if_pos HE.out]
        rfl
      | false =>
        rw [he] at hh
        have HH := Lib.hid hh; clear hh
        have HE := Lib.hid he; clear he
        go_wp2_with (go_at_call 21; refine HH.out.mono ?_; rintro e w' ⟨rfl, rfl⟩)
        go_round
        case rel => exact ⟨k + 1, by go_num, by omega, by rw [HX.out, HD.out, Mail.find, if_neg (by rw [HE.out]; decide)]⟩
        case measure => simp [intOf]; omega
    · have hkl : k = l.length := by omega
      subst hkl
      go_wp2
      go_returns
      refine ⟨?_, rfl⟩
      rw [HX.out]; simp [Mail.find]

def SameRel (w : World) (l l2 : List M) (n : Nat) (i : Value) (wr : World) : Prop := ∃ k q : Nat, i = .int .i64 k ∧ k ≤ n ∧ l.take k = l2.take k ∧ wr = w.drewN q
theorem same_any (l l2 : List M) (ao ao2 : Option Addr) (n n2 cap cap2 : Nat) (hn : l.length = n) (hn2 : l2.length = n2) (hm : n ≤ maxLen) (hm2 : n2 ≤ maxLen) (h1 : Rd w ao (mvs l)) (h2 : Rd w ao2 (mvs l2)) :
    Calls Try.prog 19 #[.slice ao n cap, .slice ao2 n2 cap2] w fun e w' => e = .returned (.bool (decide (l = l2))) ∧ ∃ q, w' = w.drewN q := by
  subst hn hn2
  unfold maxLen at hm hm2
  by_cases hlen : l.length = l2.length
  · have T : ((l.length : Int) != (l2.length : Int)) = false := by simp; omega
    obtain ⟨n2, hn2⟩ : ∃ n2, n2 = l2.length := ⟨_, rfl⟩
    rw [← hn2] at hm2 hlen T ⊢
    rw [hlen] at T ⊢
    have HN2 := Lib.hid hn2; clear hn2
    have HN1 := Lib.hid hlen; clear hlen
    go_enter Try.func19, Try.ntmps19
    go_wp2
    go_loopw [5] (fun i wr => SameRel w l l2 n2 i wr) (fun i _ => n2 - (intOf i).toNat)
    case atStart => exact ⟨0, 0, rfl, by omega, rfl, rfl⟩
    case round =>
      obtain ⟨k, q, rfl, hk, hx, rfl⟩ := hrel
      have HX := Lib.hid hx; clear hx
      by_cases hlt : k < n2
      · have hlt1 : k < l.length := by rw [HN1.out]; exact hlt
        have hlt2 : k < l2.length := by rw [← HN2.out]; exact hlt
        obtain ⟨b, off, rfl, hc⟩ := h1.some_ (by rw [mvs_len]; omega)
        obtain ⟨b2, off2, rfl, hc2⟩ := h2.some_ (by rw [mvs_len]; omega)
        obtain ⟨v1, v2⟩ := mvs_get l k hlt1
        obtain ⟨v3, v4⟩ := mvs_get l2 k hlt2
        have d1 := hc _ _ v1
        have d2 := hc _ _ v2
        have d3 := hc2 _ _ v3
        have d4 := hc2 _ _ v4
        rw [← Nat.add_assoc] at d2 d4
        clear hc hc2 v1 v2 v3 v4
        have HD1 := Lib.hid (List.take_succ_eq_append_getElem hlt1)
        have HD2 := Lib.hid (List.take_succ_eq_append_getElem hlt2)
        obtain ⟨x, hx⟩ : ∃ x, x = l[k] := ⟨_, rfl⟩
        obtain ⟨y, hy⟩ : ∃ y, y = l2[k] := ⟨_, rfl⟩
        rw [← hx] at d1 d2 HD1
        rw [← hy] at d3 d4 HD2
        clear hx hy
        clear hlt1 hlt2
        obtain ⟨x1, x2⟩ := x
        obtain ⟨y1, y2⟩ := y
        simp only at d1 d2 d3 d4
        by_cases e1 : x1 = y1
        · subst e1
          by_cases e2 : x2 = y2
          · subst e2
            go_wp2
            go_quiet (fail)
            go_wp2
            go_roundw
            case rel => exact ⟨k + 1, _, by go_num, by omega, by rw [HD1.out, HD2.out, HX.out], rfl⟩
            case measure => simp [intOf]; omega
          · have T1 : (x2 == y2) = false := by simp [e2]
            have E2 := Lib.hid e2; clear e2
            go_wp2
            go_quiet (fail)
            go_wp2
            go_returns
            refine ⟨ret_bool ?_, _, by simp; rfl⟩
            symm; rw [decide_eq_false_iff_not]
            rintro rfl
            have := HD1.out.symm.trans HD2.out
            simp at this
            exact E2.out this
        · have T1 : (x1 == y1) = false := by simp [e1]
          have E1 := Lib.hid e1; clear e1
          go_wp2
          go_quiet (fail)
          go_wp2
          go_returns
          refine ⟨ret_bool ?_, _, by simp; rfl⟩
          symm; rw [decide_eq_false_iff_not]
          rintro rfl
          have := HD1.out.symm.trans HD2.out
          simp at this
          exact E1.out this.1
      · have hkl : k = n2 := by omega
        have hll : l = l2 := by
          have := HX.out
          rw [hkl, List.take_of_length_le (by rw [HN1.out]; exact Nat.le_refl _), List.take_of_length_le (by rw [HN2.out]; exact Nat.le_refl _)] at this
          exact this
        have HLL := Lib.hid hll; clear hll
        subst hkl
        go_wp2
        go_returns
        exact ⟨ret_bool (by simp [HLL.out]), q, rfl⟩
  · have T : ((l.length : Int) != (l2.length : Int)) = true := by simp; omega
    have hne : decide (l = l2) = false := by simp; rintro rfl; exact hlen rfl
    rw [hne]
    clear hlen hne
    go_enter Try.func19, Try.ntmps19
    go_wp2
    go_returns
    exact ⟨rfl, 0, rfl⟩
end
end Go.Proofs.Ytpilkneicakohaa
