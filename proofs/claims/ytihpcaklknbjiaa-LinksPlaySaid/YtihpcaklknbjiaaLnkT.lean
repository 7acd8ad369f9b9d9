/-
  The reference's web: Link, Cut.
-/
import Derived.Test.YtihpcaklknbjiaaLnkR
namespace Go.Proofs.Ytihpcaklknbjiaa
open Go.RowKit HP
open Go.Proofs.Ytihpcaklknbjiaa.Lnk

section
variable {w0 w : World} {L : List HP} {m : Nat} {l : List Pr} {N : Int → List Int} {U : List Int}
set_option maxHeartbeats 4000000 in
theorem rlink_any (a b : Int) (hI : Is N l) (hs : NoSelf l) (hO : Ok N U) (hl : l.length ≤ 1000) (hA : At w0 w (HP.rweb m l :: L)) :
    Calls Try.prog 16 #[.pointer (some ⟨m, 0, none⟩), .int .i64 a, .int .i64 b] w fun e w' => e = .returned (.int .i64 (lk N a b).1) ∧
      ∃ l', Is (lk N a b).2 l' ∧ NoSelf l' ∧ l'.length ≤ l.length + 1 ∧ At w0 w' (HP.rweb m l' :: L) := by
  have hli := rlinked_any a b hl hA
  have hof := rof_any a hl hA
  have hof2 := fun (w : World) (L : List HP) (h : At w0 w (HP.rweb m l :: L)) => rof_any b hl h
  rw [rOf_eq hI hs (hO.nd a), sortI_len] at hof
  rw [rOf_eq hI hs (hO.nd b), sortI_len] at hof2
  rcases lk_cases N a b with ⟨e1, h1⟩ | ⟨e1, h1, h2, h3⟩ | ⟨e1, h1, h2, h3, h4⟩
  · rw [e1]
    by_cases hab : a = b
    · have T : (a == b) = true := by simp [hab]
      have HI := Lib.hid hI; clear hI
      clear hab h1 e1 hli hof hof2
      go_enter Try.func16, Try.ntmps16
      go_wp2
      go_returns
      exact ⟨rfl, l, HI.out, hs, by omega, hA⟩
    · have T : (a == b) = false := by simp [hab]
      rw [decide_eq_true ((hasP_eq hI hs).2 (h1.resolve_left hab))] at hli
      have HI := Lib.hid hI; clear hI
      have HLI := Lib.hid hli; clear hli
      clear hab h1 e1 hof hof2
      go_enter Try.func16, Try.ntmps16
      go_wp2_with (go_at_call 18; with_reducible refine HLI.out.mono ?_; rintro e w5 ⟨rfl, rfl⟩)
      go_returns
      exact ⟨rfl, l, HI.out, hs, by omega, hA⟩
  · rw [e1]
    have T : (a == b) = false := by simp [h1]
    rw [decide_eq_false (fun h => h2 ((hasP_eq hI hs).1 h))] at hli
    obtain ⟨na, hna⟩ : ∃ na, na = (N a).length := ⟨_, rfl⟩
    obtain ⟨nb, hnb⟩ : ∃ nb, nb = (N b).length := ⟨_, rfl⟩
    rw [← hna] at hof h3
    rw [← hnb] at hof2 h3
    have hla : na ≤ 8 := hna ▸ hO.le a
    clear hna hnb e1 h1 h2
    have HI := Lib.hid hI; clear hI
    have HLI := Lib.hid hli; clear hli
    have HOF := Lib.hid hof; clear hof
    have HOF2 := Lib.hid hof2; clear hof2
    by_cases h8 : na = 8
    · have T1 : decide (8 ≤ (na : Int)) = true := by simp; omega
      clear h8 h3
      go_enter Try.func16, Try.ntmps16
      go_wp2_with (first
        | (go_at_call 20; with_reducible refine HOF.out.mono ?_; rintro e w6 ⟨a6, c6, rfl, h6⟩)
        | (go_at_call 18; with_reducible refine HLI.out.mono ?_; rintro e w5 ⟨rfl, rfl⟩))
      go_returns
      exact ⟨rfl, l, HI.out, hs, by omega, h6.drop⟩
    · have T1 : decide (8 ≤ (na : Int)) = false := by simp; omega
      have T2 : decide (8 ≤ (nb : Int)) = true := by simp; omega
      clear h8 h3
      go_enter Try.func16, Try.ntmps16
      go_wp2_with (first
        | (go_at_call 20; with_reducible refine (HOF2.out _ _ h6.pick2).mono ?_; rintro e w7 ⟨a7, c7, rfl, h7⟩)
        | (go_at_call 20; with_reducible refine HOF.out.mono ?_; rintro e w6 ⟨a6, c6, rfl, h6⟩)
        | (go_at_call 18; with_reducible refine HLI.out.mono ?_; rintro e w5 ⟨rfl, rfl⟩))
      go_returns
      exact ⟨rfl, l, HI.out, hs, by omega, h7.drop.pick2.drop⟩
  · have hI2 := hI.link hO (a := a) (b := b) (by rw [e1])
    have hs2 := hs.link h1
    rw [e1] at hI2 ⊢
    have T : (a == b) = false := by simp [h1]
    rw [decide_eq_false (fun h => h2 ((hasP_eq hI hs).1 h))] at hli
    have T1 : decide (8 ≤ ((N a).length : Int)) = false := by have := hO.le a; simp; omega
    have T2 : decide (8 ≤ ((N b).length : Int)) = false := by have := hO.le b; simp; omega
    generalize (N a).length = na at *
    generalize (N b).length = nb at *
    obtain ⟨n, hn⟩ : ∃ n, l.length = n := ⟨_, rfl⟩
    rw [hn] at hl ⊢
    clear e1 h1 h2 h3 h4 hI
    have HN := Lib.hid hn; clear hn
    have HI2 := Lib.hid hI2; clear hI2
    have HS2 := Lib.hid hs2; clear hs2
    have HLI := Lib.hid hli; clear hli
    have HOF := Lib.hid hof; clear hof
    have HOF2 := Lib.hid hof2; clear hof2
    go_enter Try.func16, Try.ntmps16
    go_wp2_with (first
      | (at_builtin; refine wpList_append_row rfl (.tmp 32) (.tmp 36) 28 rfl (.agg #[.int .i64 0, .int .i64 0]) 16 under_pairs info_pair rfl (by decide) hal.pick3 (by rfl) (some ⟨w7.heap.size, 0, none⟩) 1 1 [.int .i64 a, .int .i64 b] (by rfl) rfl hrn (pvs_one [(a, b)]) (by unfold maxLen; omega) (by omega) ?_; intro a8 c8 w8 hF; have g0 := hF.pick3.cell 0; have g1 := hF.pick3.free 0)
      | (go_at_call 20; with_reducible refine (HOF2.out _ _ h6.pick2).mono ?_; rintro e w7 ⟨a7, c7, rfl, h7⟩; obtain ⟨ao, cap, hB⟩ := h7.pick2.rweb_op; rw [HN.out] at hB; have b0 := hB.cell 0; have hal := hB.alloc (.cells #[.int .i64 a, .int .i64 b] 51); have hrn := hal.rdN)
      | (go_at_call 20; with_reducible refine HOF.out.mono ?_; rintro e w6 ⟨a6, c6, rfl, h6⟩)
      | (go_at_call 18; with_reducible refine HLI.out.mono ?_; rintro e w5 ⟨rfl, rfl⟩))
    go_returns
    have hH := hF.pick3.setCell 0 (.slice a8 (n + 1) c8)
    exact ⟨rfl, _, HI2.out, HS2.out, by rw [List.length_append, HN.out]; exact Nat.le_refl _, (At.rweb_cl (l := l ++ [(a, b)]) (n := n + 1) (by rw [List.length_append, HN.out]; rfl) (by rw [pvs_append]; exact hH)).pick2.drop.pick2.drop.pick2.drop⟩

def RcRel (w0 : World) (L : List HP) (m : Nat) (l : List Pr) (a : Int) (ao : Option Addr) (n cap : Nat) (s i : Value) (wr : World) : Prop :=
  ∃ (j n1 : Nat) (o : List Pr) (ao1 : Option Addr) (cap1 : Nat), i = .int .i64 j ∧ j ≤ n ∧ s = .slice ao1 n1 cap1 ∧ o.length = n1 ∧ n1 ≤ j ∧ o = (l.take j).filter (cutP a) ∧
    At w0 wr (row 51 2 ao1 n1 cap1 (pvs o) :: HP.one m (.cells #[.slice ao n cap] 30 (0, 0)) :: row 51 2 ao n cap (pvs l) :: L)
set_option maxHeartbeats 4000000 in
theorem rcut_any (a : Int) (hI : Is N l) (hs : NoSelf l) (hO : Ok N U) (hl : l.length ≤ 1000) (hA : At w0 w (HP.rweb m l :: L)) :
    Calls Try.prog 14 #[.pointer (some ⟨m, 0, none⟩), .int .i64 a] w fun e w' => ∃ ao cap, e = .returned (.slice ao (N a).length cap) ∧
      ∃ l', Is (ct N a) l' ∧ NoSelf l' ∧ l'.length ≤ l.length ∧ At w0 w' (row 2 1 ao (N a).length cap ((sortI (N a)).map (Value.int .i64)) :: HP.rweb m l' :: L) := by
  have hof := rof_any a hl hA
  rw [rOf_eq hI hs (hO.nd a), sortI_len] at hof
  have hI2 := hI.cut a
  have hs2 := hs.cut a
  have hfl := List.length_filter_le (cutP a) l
  obtain ⟨n, hn⟩ : ∃ n, l.length = n := ⟨_, rfl⟩
  rw [hn] at hl hfl ⊢
  generalize (N a).length = na at *
  generalize sortI (N a) = S at *
  clear hI hs hO
  have HN := Lib.hid hn; clear hn
  have HI2 := Lib.hid hI2; clear hI2
  have HS2 := Lib.hid hs2; clear hs2
  have HFL := Lib.hid hfl; clear hfl
  have HOF := Lib.hid hof; clear hof
  go_enter Try.func14, Try.ntmps14
  go_wp2_with (go_at_call 20; with_reducible refine HOF.out.mono ?_; rintro e w6 ⟨a6, c6, rfl, h6⟩; obtain ⟨ao, cap, hB⟩ := h6.pick2.rweb_op; rw [HN.out] at hB)
  go_loopw [6, 7] (fun s i wr => RcRel w0 (row 2 1 a6 na c6 (S.map (Value.int .i64)) :: L) m l a ao n cap s i wr) (fun _ i _ => n - (intOf i).toNat)
  case atStart => exact ⟨0, 0, [], none, 0, rfl, Nat.zero_le _, rfl, rfl, Nat.zero_le _, by simp, hB.row_nil _ _⟩
  case round =>
    clear hB h6
    obtain ⟨j, n1, o, ao1, cap1, rfl, hj, rfl, ho, hn1, he, hr⟩ := hrel
    have c0 := hr.pick2.cell 0
    by_cases hlt : j < n
    · have hjl : j < l.length := by rw [HN.out]; exact hlt
      obtain ⟨b, off, rfl⟩ := hr.pick3.row_some (by rw [pvs_len, HN.out]; omega)
      obtain ⟨v1, v2⟩ := pvs_get l j hjl
      have d1 := hr.pick3.rd.at_ _ _ v1
      have d2 := hr.pick3.rd.at_ _ _ v2
      rw [← Nat.add_assoc] at d2
      have htk := List.take_succ_eq_append_getElem hjl
      generalize l[j] = q at *
      obtain ⟨x, y⟩ := q
      simp only at d1 d2
      clear v1 v2 hjl
      have he2 : (l.take (j + 1)).filter (cutP a) = o ++ (if cutP a (x, y) then [(x, y)] else []) := by
        rw [htk, List.filter_append, ← he]; cases h : cutP a (x, y) <;> simp [h]
      clear htk he
      have HO := Lib.hid ho; clear ho
      unfold cutP at he2
      simp only at he2
      rcases neb x a with ⟨T1, e1⟩ | ⟨T1, e1⟩
      · simp only [T1, Bool.false_and, Bool.false_eq_true, if_false, List.append_nil] at he2
        have HE := Lib.hid he2; clear he2 e1
        go_wp2
        go_roundw
        case rel => exact ⟨j + 1, n1, o, _, _, by go_num, by omega, rfl, HO.out, by omega, HE.out.symm, hr⟩
        case measure => simp [intOf]; omega
      · rcases neb y a with ⟨T2, e2⟩ | ⟨T2, e2⟩
        · simp only [T1, T2, Bool.and_false, Bool.false_eq_true, if_false, List.append_nil] at he2
          have HE := Lib.hid he2; clear he2 e1 e2
          go_wp2
          go_roundw
          case rel => exact ⟨j + 1, n1, o, _, _, by go_num, by omega, rfl, HO.out, by omega, HE.out.symm, hr⟩
          case measure => simp [intOf]; omega
        · simp only [T1, T2, Bool.and_true, if_true] at he2
          have HE := Lib.hid he2; clear he2 e1 e2
          have hal := hr.alloc (.cells #[.int .i64 x, .int .i64 y] 51)
          have hrn := hal.rdN
          go_wp2_with (at_builtin; refine wpList_append_row rfl (.tmp 42) (.tmp 50) 28 rfl (.agg #[.int .i64 0, .int .i64 0]) 16 under_pairs info_pair rfl (by decide) hal.pick2 rfl (some ⟨wr.heap.size, 0, none⟩) 1 1 [.int .i64 x, .int .i64 y] rfl rfl hrn (pvs_one [(x, y)]) (by unfold maxLen; omega) (by omega) ?_; intro ao2 cap2 w1 hA1)
          go_roundw
          case rel => exact ⟨j + 1, n1 + 1, o ++ [(x, y)], _, _, by go_num, by omega, rfl, by simp [HO.out], by omega, HE.out.symm, by rw [pvs_append]; exact hA1.pick2.drop⟩
          case measure => simp [intOf]; omega
    · rw [List.take_of_length_le (by rw [HN.out]; omega)] at he
      rw [← he] at HI2 HS2 HFL
      clear he
      have f0 := hr.pick2.free 0
      have hH := hr.pick2.setCell 0 (.slice ao1 n1 cap1)
      have HO := Lib.hid ho; clear ho
      go_wp2
      go_returns
      exact ⟨_, _, rfl, o, HI2.out, HS2.out, HFL.out, (At.rweb_cl HO.out hH).pick2.drop.pick2⟩
end
end Go.Proofs.Ytihpcaklknbjiaa
