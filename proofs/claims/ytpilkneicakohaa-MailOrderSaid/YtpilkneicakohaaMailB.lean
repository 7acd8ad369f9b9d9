/-
  The contracts of the mailbox: Take; the reference's Take, Find; lists of numbers.
-/
import Derived.Test.YtpilkneicakohaaMailA
namespace Go.Proofs.Ytpilkneicakohaa
open Go.RowKit HP
open Mail (M)

section
variable {w0 w : World} {L : List HP} {a : Nat} {l : List M}

theorem mtake_any (i : Int) (hl : l.length ≤ 16) (hA : At w0 w (BoxC a l :: L)) :
    Calls Try.prog 15 #[.pointer (some ⟨a, 0, none⟩), .int .i64 i] w fun e w' => e = .returned (.tuple #[.agg #[.int .i64 (Mail.at_ l i).1.1, .int .i64 (Mail.at_ l i).1.2], .bool (Mail.at_ l i).2]) ∧ At w0 w' (BoxC a (Mail.take l i) :: L) := by
  have hA0 := hA.alloc (.cells #[.int .i64 0, .int .i64 0] 31)
  have hat := mat_any i hl hA0.pick2
  by_cases hi : 0 ≤ i ∧ i < l.length
  · obtain ⟨k, rfl⟩ : ∃ k : Nat, i = k := ⟨i.toNat, by omega⟩
    have hk : k < l.length := by omega
    have he : Mail.at_ l k = (l[k], true) := by rw [Mail.at_, if_pos hi]; simp [hk]
    have ht : Mail.take l k = l.take k ++ l.drop (k + 1) := by rw [Mail.take, if_pos hi]; simp
    rw [he] at hat
    rw [he, ht]
    generalize l[k] = m at *
    have hk16 : (k : Int) + 1 ≤ 16 := by omega
    have HAT := Lib.hid hat; clear hat he ht hi
    go_enter Try.func15, Try.ntmps15
    go_wp2_with (first
      | (go_at_call 17; refine HAT.out.mono ?_; rintro e w1 ⟨rfl, hB⟩; have hC := hB.alloc (.cells #[.int .i64 m.1, .int .i64 m.2] 31); obtain ⟨ao, cap, hO⟩ := BoxC.op hC.pick2; have c0 := hO.cell 0)
      | (go_at_call 24; refine (mdel_any k hk hl hO.pick2).mono ?_; rintro e w2 ⟨rfl, hD⟩; have d0 := hD.pick2.cell 0; have d1 := hD.pick2.free 0; have hE := hD.pick2.setCell 0 (.slice ao (l.length - 1) cap); have e0 := hE.pick3.cell 0; have e1 := hE.pick3.cell 1; have r0 := hE.pick4.cell 0; have r1 := hE.pick4.cell 1; have s0 := hE.pick4.free 0; have s1 := hE.pick4.free 1))
    obtain ⟨y0, y1, hZ⟩ := hE.pick4.two (.int .i64 m.1) (.int .i64 m.2)
    refine bodyPost_ret (by simp [results, Try.results15, go_sem, y0, y1]; try rfl) rfl ?_
    exact ⟨rfl, (BoxC.cl' (by simp; omega) hZ.drop).pick2.drop⟩
  · have he : Mail.at_ l i = ((0, 0), false) := by rw [Mail.at_, if_neg hi]
    have ht : Mail.take l i = l := by rw [Mail.take, if_neg hi]
    rw [he] at hat
    rw [he, ht]
    have HAT := Lib.hid hat; clear hat he ht hi
    go_enter Try.func15, Try.ntmps15
    go_wp2_with (first
      | (go_at_call 17; refine HAT.out.mono ?_; rintro e w1 ⟨rfl, hB⟩; have hC := hB.alloc (.cells #[.int .i64 0, .int .i64 0] 31); have e0 := hC.cell 0; have e1 := hC.cell 1; have r0 := hC.pick3.cell 0; have r1 := hC.pick3.cell 1; have s0 := hC.pick3.free 0; have s1 := hC.pick3.free 1))
    obtain ⟨y0, y1, hZ⟩ := hC.pick3.two (.int .i64 0) (.int .i64 0)
    refine bodyPost_ret (by simp [results, Try.results15, go_sem, y0, y1]; try rfl) rfl ?_
    exact ⟨rfl, hZ.drop.drop⟩

theorem mtake_nil (i : Int) (hA : At w0 w L) :
    Calls Try.prog 15 #[.pointer none, .int .i64 i] w fun e w' => e = .returned (.tuple #[.agg #[.int .i64 0, .int .i64 0], .bool false]) ∧ At w0 w' L := by
  have hA0 := hA.alloc (.cells #[.int .i64 0, .int .i64 0] 31)
  have hat := mat_nil i hA0
  have HAT := Lib.hid hat; clear hat
  go_enter Try.func15, Try.ntmps15
  go_wp2_with (first
    | (go_at_call 17; refine HAT.out.mono ?_; rintro e w1 ⟨rfl, hB⟩; have hC := hB.alloc (.cells #[.int .i64 0, .int .i64 0] 31); have e0 := hC.cell 0; have e1 := hC.cell 1; have r0 := hC.pick2.cell 0; have r1 := hC.pick2.cell 1; have s0 := hC.pick2.free 0; have s1 := hC.pick2.free 1))
  obtain ⟨y0, y1, hZ⟩ := hC.pick2.two (.int .i64 0) (.int .i64 0)
  refine bodyPost_ret (by simp [results, Try.results15, go_sem, y0, y1]; try rfl) rfl ?_
  exact ⟨rfl, hZ.drop.drop⟩

/-- what holds at the head of the loop of the reference's Take -/
def RtRel (w0 : World) (L : List HP) (l : List M) (k : Nat) (v i : Value) (wr : World) : Prop :=
  ∃ (j : Nat) (ao' : Option Addr) (cap' : Nat), i = .int .i64 j ∧ j ≤ l.length ∧ v = .slice ao' (Mail.wo l k j).length cap' ∧ At w0 wr (row 31 2 ao' (Mail.wo l k j).length cap' (mvs (Mail.wo l k j)) :: L)
theorem rtake_any (i : Int) (hl : l.length ≤ 16) (hA : At w0 w (RBoxC a l :: L)) :
    Calls Try.prog 16 #[.pointer (some ⟨a, 0, none⟩), .int .i64 i] w fun e w' => e = .returned (.tuple #[.agg #[.int .i64 (Mail.at_ l i).1.1, .int .i64 (Mail.at_ l i).1.2], .bool (Mail.at_ l i).2]) ∧ At w0 w' (RBoxC a (Mail.take l i) :: L) := by
  obtain ⟨ao, cap, hO⟩ := RBoxC.op hA
  have hB := hO.alloc (.cells #[.int .i64 0, .int .i64 0] 31)
  have c0 := hB.pick2.cell 0
  by_cases hi : 0 ≤ i ∧ i < l.length
  · obtain ⟨k, rfl⟩ : ∃ k : Nat, i = k := ⟨i.toNat, by omega⟩
    have hk : k < l.length := by omega
    have he : Mail.at_ l k = (l[k], true) := by rw [Mail.at_, if_pos hi]; simp [hk]
    have ht : Mail.take l k = l.take k ++ l.drop (k + 1) := by rw [Mail.take, if_pos hi]; simp
    rw [he, ht]
    obtain ⟨g, off, rfl⟩ := hO.drop.row_some (by rw [mvs_len]; omega)
    have hrd := hB.pick3.rd
    obtain ⟨v1, v2⟩ := mvs_get l k hk
    have d0 := hrd.at_ _ _ v1
    have d1 := hrd.at_ _ _ v2
    rw [← Nat.add_assoc] at d1
    obtain ⟨m, hm⟩ : ∃ m, m = l[k] := ⟨_, rfl⟩
    rw [← hm] at d0 d1 ⊢
    have hC := hB.alloc (.cells #[.int .i64 m.1, .int .i64 m.2] 31)
    rw [World.size_alloc] at hC
    clear he ht hi v1 v2
    have HM := Lib.hid hm; clear hm
    go_enter Try.func16, Try.ntmps16
    have hR0 := hC.pick2' (fun h => h.row_nil 31 2)
    have hR : At w0 ((w.alloc (.cells #[.int .i64 0, .int .i64 0] 31)).alloc (.cells #[.int .i64 m.1, .int .i64 m.2] 31)) (row 31 2 none 0 0 (mvs []) :: one (w.heap.size + 1) (.cells #[.int .i64 m.1, .int .i64 m.2] 31) :: one w.heap.size (.cells #[.int .i64 0, .int .i64 0] 31) :: one a (.cells #[.slice (some ⟨g, off, none⟩) l.length cap] 29) :: row 31 2 (some ⟨g, off, none⟩) l.length cap (mvs l) :: L) := hR0.pick2
    clear hR0
    go_wp2
    go_loopw [7, 8] (fun v i wr => RtRel w0 (one (w.heap.size + 1) (.cells #[.int .i64 m.1, .int .i64 m.2] 31) :: one w.heap.size (.cells #[.int .i64 0, .int .i64 0] 31) :: one a (.cells #[.slice (some ⟨g, off, none⟩) l.length cap] 29) :: row 31 2 (some ⟨g, off, none⟩) l.length cap (mvs l) :: L) l k v i wr)
      (fun _ i _ => l.length - (intOf i).toNat)
    case atStart => exact ⟨0, none, 0, rfl, by omega, by rw [Mail.wo_zero]; rfl, by rw [Mail.wo_zero]; exact hR⟩
    case round =>
      obtain ⟨j, ao', cap', rfl, hj, rfl, hr⟩ := hrel
      obtain ⟨n', hn'⟩ : ∃ n', n' = (Mail.wo l k j).length := ⟨_, rfl⟩
      rw [← hn'] at hr ⊢
      have b0 := hr.pick4.cell 0
      have hwl := Mail.wo_len l k j
      rw [← hn'] at hwl
      have HN := Lib.hid hn'; clear hn'
      by_cases hlt : j < l.length
      · obtain ⟨v1, v2⟩ := mvs_get l j hlt
        have e0 := hr.pick5.rd.at_ _ _ v1
        have e1 := hr.pick5.rd.at_ _ _ v2
        rw [← Nat.add_assoc] at e1
        have HV1 := Lib.hid v1
        clear v1 v2
        by_cases hjk : j = k
        · have T : ((j : Int) != (k : Int)) = false := by simp; omega
          have HJ := Lib.hid hjk; clear hjk
          go_wp2
          go_roundw
          case rel => exact ⟨j + 1, ao', cap', by go_num, by omega, by rw [HN.out, HJ.out, Mail.wo_skip], by rw [show Mail.wo l k (j + 1) = Mail.wo l k j by rw [HJ.out, Mail.wo_skip], ← HN.out]; exact hr⟩
          case measure => simp [intOf]; omega
        · have T : ((j : Int) != (k : Int)) = true := by simp; omega
          have hst := Mail.wo_step l k j hlt hjk
          obtain ⟨x, hx⟩ : ∃ x, x = l[j] := ⟨_, rfl⟩
          rw [← hx] at e0 e1 hst
          have HX := Lib.hid hx; clear hx
          have HST := Lib.hid hst; clear hst
          have HJ := Lib.hid hjk; clear hjk
          have hal := (hr.alloc (.cells #[.int .i64 x.1, .int .i64 x.2] 31))
          have hrn := hal.rdN
          go_wp2_with (at_builtin; refine wpList_append_row rfl (.tmp 40) (.tmp 48) 27 rfl (.agg #[.int .i64 0, .int .i64 0]) 16 under_msgs info_msg rfl (by decide) hal.pick2 rfl (some ⟨wr.heap.size, 0, none⟩) 1 1 [.int .i64 x.1, .int .i64 x.2] rfl rfl hrn (mvs_one [x]) (by unfold maxLen; omega) (by omega) ?_; intro ao2 cap2 w1 hA1)
          go_roundw
          case rel =>
            refine ⟨j + 1, ao2, cap2, by go_num, by omega, ?_, ?_⟩
            · rw [HST.out, List.length_append, ← HN.out]; rfl
            · rw [HST.out, mvs_append, List.length_append, ← HN.out]; exact hA1.pick2.drop
          case measure => simp [intOf]; omega
      · have hjl : j = l.length := by omega
        have hS := hr.pick4.setCell 0 (.slice ao' n' cap')
        have f0 := hr.pick4.free 0
        have p0 := hS.pick3.cell 0
        have p1 := hS.pick3.cell 1
        have q0 := hS.pick4.cell 0
        have q1 := hS.pick4.cell 1
        have u0 := hS.pick4.free 0
        have u1 := hS.pick4.free 1
        have HJ := Lib.hid hjl
        clear hjl
        go_wp2
        obtain ⟨y0, y1, hZ⟩ := hS.pick4.two (.int .i64 m.1) (.int .i64 m.2)
        refine bodyPost_ret (by simp [results, Try.results16, go_sem, y0, y1]; try rfl) rfl ?_
        refine ⟨rfl, ?_⟩
        rw [← Mail.wo_all, ← HJ.out]
        exact (RBoxC.cl' HN.out.symm hZ.drop).pick2.drop.pick2.drop
  · have he : Mail.at_ l i = ((0, 0), false) := by rw [Mail.at_, if_neg hi]
    have ht : Mail.take l i = l := by rw [Mail.take, if_neg hi]
    rw [he, ht]
    clear he ht
    have hi' : decide (i < 0) = true ∨ (decide (i < 0) = false ∧ decide ((l.length : Int) ≤ i) = true) := by
      simp only [decide_eq_true_eq, decide_eq_false_iff_not]; omega
    clear hi
    rcases hi' with hi | ⟨hi, hi2⟩
    all_goals
      go_enter Try.func16, Try.ntmps16
      go_wp2
      go_returns
      exact ⟨rfl, RBoxC.cl hB.drop⟩
end
end Go.Proofs.Ytpilkneicakohaa
