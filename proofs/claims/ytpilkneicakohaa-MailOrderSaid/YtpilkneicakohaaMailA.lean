/-
  The contracts of the mailbox: Put, Len, At, Take; of the reference's.
-/
import Derived.Test.YtpilkneicakohaaLib2
import Derived.Test.YtpilkneicakohaaMailFns
import Derived.Test.YtpilkneicakohaaChecked
import Derived.Deep.QuietTactic
import Derived.BigQuiet
import Derived.IntWalk
namespace Go.Proofs.Ytpilkneicakohaa
open Go.RowKit HP
open Mail (M)

def mv (m : M) : List Value := [.int .i64 m.1, .int .i64 m.2]
def mvs (l : List M) : List Value := l.flatMap mv
theorem mvs_len (l : List M) : (mvs l).length = l.length * 2 := by
  induction l with
  | nil => rfl
  | cons m r ih => simp only [mvs, List.flatMap_cons, List.length_append, List.length_cons] at ih ⊢; rw [ih]; simp [mv]; omega
theorem mvs_append (l l2 : List M) : mvs (l ++ l2) = mvs l ++ mvs l2 := by simp [mvs]
theorem mvs_one (l : List M) : ∀ u ∈ mvs l, u.oneCell' = true := by
  intro u hu
  simp only [mvs, List.mem_flatMap] at hu
  obtain ⟨m, _, hu⟩ := hu
  simp [mv] at hu
  rcases hu with rfl | rfl <;> rfl
theorem mvs_get (l : List M) (k : Nat) (h : k < l.length) : (mvs l)[k * 2]? = some (.int .i64 l[k].1) ∧ (mvs l)[k * 2 + 1]? = some (.int .i64 l[k].2) := by
  induction l generalizing k with
  | nil => simp at h
  | cons m r ih =>
    cases k with
    | zero => exact ⟨rfl, rfl⟩
    | succ k =>
      have := ih k (by simpa using h)
      have e : mvs (m :: r) = .int .i64 m.1 :: .int .i64 m.2 :: mvs r := rfl
      rw [e, show (k + 1) * 2 = k * 2 + 1 + 1 by omega, show k * 2 + 1 + 1 + 1 = (k * 2 + 1) + 1 + 1 by omega]
      simpa using this
theorem mvs_take (l : List M) (k : Nat) : (mvs l).take (k * 2) = mvs (l.take k) := by
  induction l generalizing k with
  | nil => simp [mvs]
  | cons m r ih =>
    cases k with
    | zero => simp [mvs]
    | succ k =>
      have e : mvs (m :: r) = .int .i64 m.1 :: .int .i64 m.2 :: mvs r := rfl
      rw [e, show (k + 1) * 2 = k * 2 + 1 + 1 by omega, List.take_succ_cons, List.take_succ_cons, ih]; rfl
theorem mvs_drop (l : List M) (k : Nat) : (mvs l).drop (k * 2) = mvs (l.drop k) := by
  induction l generalizing k with
  | nil => simp [mvs]
  | cons m r ih =>
    cases k with
    | zero => simp
    | succ k =>
      have e : mvs (m :: r) = .int .i64 m.1 :: .int .i64 m.2 :: mvs r := rfl
      rw [e, show (k + 1) * 2 = k * 2 + 1 + 1 by omega, List.drop_succ_cons, List.drop_succ_cons, ih, List.drop_succ_cons]

theorem info_msg : (Try.prog.info? 31).map (fun i => (i.zero, i.size, i.bytes)) = some (some (.agg #[.int .i64 0, .int .i64 0]), 2, 16) := by kernel_rfl
theorem under_msgs : Try.prog.underlying 27 = some (.slice 31) := by kernel_rfl

section
variable {w0 w : World} {L : List HP}
def BoxC (a : Nat) (l : List M) : HP := ex fun ao => ex fun cap =>
  sep [one a (.cells #[.slice ao l.length cap] 54 (0, 0)), row 31 2 ao l.length cap (mvs l)]
def RBoxC (a : Nat) (l : List M) : HP := ex fun ao => ex fun cap =>
  sep [one a (.cells #[.slice ao l.length cap] 29 (0, 0)), row 31 2 ao l.length cap (mvs l)]
variable {a : Nat} {l : List M}
theorem BoxC.op (h : At w0 w (BoxC a l :: L)) : ∃ ao cap, At w0 w (one a (.cells #[.slice ao l.length cap] 54 (0, 0)) :: row 31 2 ao l.length cap (mvs l) :: L) := by
  obtain ⟨ao, h⟩ := h.ex
  obtain ⟨cap, h⟩ := h.ex
  exact ⟨ao, cap, h.sep⟩
theorem BoxC.cl' {ao : Option Addr} {n cap : Nat} (hn : l.length = n) (h : At w0 w (one a (.cells #[.slice ao n cap] 54 (0, 0)) :: row 31 2 ao n cap (mvs l) :: L)) : At w0 w (BoxC a l :: L) := by
  subst hn
  exact At.ex_mk ao (At.ex_mk cap (At.sep_mk h))
theorem BoxC.cl {ao : Option Addr} {cap : Nat} (h : At w0 w (one a (.cells #[.slice ao l.length cap] 54 (0, 0)) :: row 31 2 ao l.length cap (mvs l) :: L)) : At w0 w (BoxC a l :: L) :=
  At.ex_mk ao (At.ex_mk cap (At.sep_mk h))
theorem RBoxC.op (h : At w0 w (RBoxC a l :: L)) : ∃ ao cap, At w0 w (one a (.cells #[.slice ao l.length cap] 29 (0, 0)) :: row 31 2 ao l.length cap (mvs l) :: L) := by
  obtain ⟨ao, h⟩ := h.ex
  obtain ⟨cap, h⟩ := h.ex
  exact ⟨ao, cap, h.sep⟩
theorem RBoxC.cl' {ao : Option Addr} {n cap : Nat} (hn : l.length = n) (h : At w0 w (one a (.cells #[.slice ao n cap] 29 (0, 0)) :: row 31 2 ao n cap (mvs l) :: L)) : At w0 w (RBoxC a l :: L) := by
  subst hn
  exact At.ex_mk ao (At.ex_mk cap (At.sep_mk h))
theorem RBoxC.cl {ao : Option Addr} {cap : Nat} (h : At w0 w (one a (.cells #[.slice ao l.length cap] 29 (0, 0)) :: row 31 2 ao l.length cap (mvs l) :: L)) : At w0 w (RBoxC a l :: L) :=
  At.ex_mk ao (At.ex_mk cap (At.sep_mk h))

theorem mnew_any (hA : At w0 w L) :
    Calls Try.prog 9 #[] w fun e w' => ∃ a, e = .returned (.pointer (some ⟨a, 0, none⟩)) ∧ At w0 w' (BoxC a [] :: L) := by
  go_enter Try.func9, Try.ntmps9
  go_wp2
  go_returns
  exact ⟨_, rfl, BoxC.cl ((hA.alloc _).pick2' (fun h => h.row_nil 31 2))⟩

theorem mlen_any (hA : At w0 w (BoxC a l :: L)) :
    Calls Try.prog 18 #[.pointer (some ⟨a, 0, none⟩)] w fun e w' => e = .returned (.int .i64 l.length) ∧ w = w' := by
  obtain ⟨ao, cap, hO⟩ := BoxC.op hA
  have c0 := hO.cell 0
  go_enter Try.func18, Try.ntmps18
  go_wp2
  go_returns
  exact ⟨rfl, rfl⟩
theorem mlen_nil (w : World) :
    Calls Try.prog 18 #[.pointer none] w fun e w' => e = .returned (.int .i64 0) ∧ w = w' := by
  go_enter Try.func18, Try.ntmps18
  go_wp2
  go_returns
  exact ⟨rfl, rfl⟩

theorem mput_any (t n : Int) (hl : l.length ≤ 16) (hA : At w0 w (BoxC a l :: L)) :
    Calls Try.prog 11 #[.pointer (some ⟨a, 0, none⟩), .agg #[.int .i64 t, .int .i64 n]] w fun e w' => e = .returned (.int .i64 (Mail.put (t, n) l).1) ∧ At w0 w' (BoxC a (Mail.put (t, n) l).2 :: L) := by
  obtain ⟨ao, cap, hO⟩ := BoxC.op hA
  have hB := hO.alloc (.cells #[.int .i64 t, .int .i64 n] 31)
  have c0 := hB.pick2.cell 0
  have m0 := hB.cell 0
  have m1 := hB.cell 1
  by_cases h16 : l.length = 16
  · have e1 : ((l.length : Int) == 16) = true := by simp; omega
    have hp : Mail.put (t, n) l = (7, l) := by simp [Mail.put, h16]
    rw [hp]
    have HP_ := Lib.hid hp; clear hp
    have H16 := Lib.hid h16; clear h16
    go_enter Try.func11, Try.ntmps11
    go_wp2
    go_returns
    exact ⟨rfl, BoxC.cl hB.drop⟩
  · have e1 : ((l.length : Int) == 16) = false := by simp; omega
    have hp : Mail.put (t, n) l = (0, l ++ [(t, n)]) := by simp [Mail.put, h16]
    rw [hp]
    have HP_ := Lib.hid hp; clear hp
    have H16 := Lib.hid h16; clear h16
    have hD := (hB.alloc (.cells #[.int .i64 t, .int .i64 n] 31)).drew
    rw [World.size_alloc] at hD
    have x0 := (hB.alloc (.cells #[.int .i64 t, .int .i64 n] 31)).pick3.cell 0
    have hE := hD.pick4
    have hrd := hD.rdN
    go_enter Try.func11, Try.ntmps11
    go_wp2
    go_region_law (refine step_append_row rfl (.tmp 19) (.tmp 21) 27 rfl (.agg #[.int .i64 0, .int .i64 0]) 16 under_msgs info_msg rfl (by decide) hE (by simp [Act.eval]) (some ⟨w.heap.size + 1, 0, none⟩) 1 1 [.int .i64 t, .int .i64 n] (by simp [Act.eval]) rfl hrd (mvs_one [(t, n)]) (by unfold maxLen; omega) (by omega) ?_; intro ao' cap' w1 hF; have hG := hF.pick4; have g0 := hG.cell 0; have g1 := hG.free 0)
    all_goals
      go_wp2
      go_returns
      have hH := hG.setCell 0 (.slice ao' (l.length + 1) cap')
      exact ⟨rfl, (BoxC.cl' (l := l ++ [(t, n)]) (n := l.length + 1) (by simp) (by rw [mvs_append]; exact hH)).pick2.drop.pick2.drop⟩
theorem mput_nil (t n : Int) (hA : At w0 w L) :
    Calls Try.prog 11 #[.pointer none, .agg #[.int .i64 t, .int .i64 n]] w fun e w' => e = .returned (.int .i64 1) ∧ At w0 w' L := by
  go_enter Try.func11, Try.ntmps11
  go_wp2
  go_returns
  exact ⟨rfl, (hA.alloc _).drop⟩

theorem rput_any (t n : Int) (hl : l.length ≤ 16) (hA : At w0 w (RBoxC a l :: L)) :
    Calls Try.prog 12 #[.pointer (some ⟨a, 0, none⟩), .agg #[.int .i64 t, .int .i64 n]] w fun e w' => e = .returned (.int .i64 (Mail.put (t, n) l).1) ∧ At w0 w' (RBoxC a (Mail.put (t, n) l).2 :: L) := by
  obtain ⟨ao, cap, hO⟩ := RBoxC.op hA
  have hB := hO.alloc (.cells #[.int .i64 t, .int .i64 n] 31)
  have c0 := hB.pick2.cell 0
  have m0 := hB.cell 0
  have m1 := hB.cell 1
  by_cases h16 : l.length = 16
  · have e1 : decide (16 ≤ (l.length : Int)) = true := by simp; omega
    have hp : Mail.put (t, n) l = (7, l) := by simp [Mail.put, h16]
    rw [hp]
    have HP_ := Lib.hid hp; clear hp
    have H16 := Lib.hid h16; clear h16
    go_enter Try.func12, Try.ntmps12
    go_wp2
    go_returns
    exact ⟨rfl, RBoxC.cl hB.drop⟩
  · have e1 : decide (16 ≤ (l.length : Int)) = false := by simp; omega
    have hp : Mail.put (t, n) l = (0, l ++ [(t, n)]) := by simp [Mail.put, h16]
    rw [hp]
    have HP_ := Lib.hid hp; clear hp
    have H16 := Lib.hid h16; clear h16
    have hD := (hB.alloc (.cells #[.int .i64 t, .int .i64 n] 31)).drew
    rw [World.size_alloc] at hD
    have x0 := (hB.alloc (.cells #[.int .i64 t, .int .i64 n] 31)).pick3.cell 0
    have hE := hD.pick4
    have hrd := hD.rdN
    go_enter Try.func12, Try.ntmps12
    go_wp2
    go_region_law (refine step_append_row rfl (.tmp 15) (.tmp 17) 27 rfl (.agg #[.int .i64 0, .int .i64 0]) 16 under_msgs info_msg rfl (by decide) hE (by simp [Act.eval]) (some ⟨w.heap.size + 1, 0, none⟩) 1 1 [.int .i64 t, .int .i64 n] (by simp [Act.eval]) rfl hrd (mvs_one [(t, n)]) (by unfold maxLen; omega) (by omega) ?_; intro ao' cap' w1 hF; have hG := hF.pick4; have g0 := hG.cell 0; have g1 := hG.free 0)
    all_goals
      go_wp2
      go_returns
      have hH := hG.setCell 0 (.slice ao' (l.length + 1) cap')
      exact ⟨rfl, (RBoxC.cl' (l := l ++ [(t, n)]) (n := l.length + 1) (by simp) (by rw [mvs_append]; exact hH)).pick2.drop.pick2.drop⟩

theorem mat_any (i : Int) (hl : l.length ≤ 16) (hA : At w0 w (BoxC a l :: L)) :
    Calls Try.prog 17 #[.pointer (some ⟨a, 0, none⟩), .int .i64 i] w fun e w' => e = .returned (.tuple #[.agg #[.int .i64 (Mail.at_ l i).1.1, .int .i64 (Mail.at_ l i).1.2], .bool (Mail.at_ l i).2]) ∧ At w0 w' (BoxC a l :: L) := by
  obtain ⟨ao, cap, hO⟩ := BoxC.op hA
  have hB := hO.alloc (.cells #[.int .i64 0, .int .i64 0] 31)
  have c0 := hB.pick2.cell 0
  have hlen := mlen_any (BoxC.cl hB.drop)
  by_cases hi : 0 ≤ i ∧ i < l.length
  · obtain ⟨k, rfl⟩ : ∃ k : Nat, i = k := ⟨i.toNat, by omega⟩
    have hk : k < l.length := by omega
    have hat : Mail.at_ l k = (l[k], true) := by rw [Mail.at_, if_pos hi]; simp [hk]
    rw [hat]
    have hrd := hB.pick3.rd
    obtain ⟨g, off, rfl, hc⟩ := hrd.some_ (by rw [mvs_len]; omega)
    obtain ⟨v1, v2⟩ := mvs_get l k hk
    have d0 := hc _ _ v1
    have d1 := hc _ _ v2
    rw [← Nat.add_assoc] at d1
    generalize l[k] = m at *
    clear hat hi hc v1 v2
    go_enter Try.func17, Try.ntmps17
    go_wp2_with (first
      | (go_at_call 18; refine hlen.mono ?_; rintro e w' ⟨rfl, rfl⟩))
    go_returns
    exact ⟨rfl, BoxC.cl (hO.alloc (.cells #[.int .i64 m.1, .int .i64 m.2] 31)).drop⟩
  · have hat : Mail.at_ l i = ((0, 0), false) := by rw [Mail.at_, if_neg hi]
    rw [hat]
    clear hat
    have hi' : decide (i < 0) = true ∨ (decide (i < 0) = false ∧ decide ((l.length : Int) ≤ i) = true) := by
      simp only [decide_eq_true_eq, decide_eq_false_iff_not]; omega
    clear hi
    rcases hi' with hi | ⟨hi, hi2⟩
    all_goals
      go_enter Try.func17, Try.ntmps17
      go_wp2_with (first
        | (go_at_call 18; refine hlen.mono ?_; rintro e w' ⟨rfl, rfl⟩))
      go_returns
      exact ⟨rfl, BoxC.cl hB.drop⟩
theorem mat_nil (i : Int) (hA : At w0 w L) :
    Calls Try.prog 17 #[.pointer none, .int .i64 i] w fun e w' => e = .returned (.tuple #[.agg #[.int .i64 0, .int .i64 0], .bool false]) ∧ At w0 w' L := by
  have hi' : decide (i < 0) = true ∨ (decide (i < 0) = false ∧ decide (0 ≤ i) = true) := by
    simp only [decide_eq_true_eq, decide_eq_false_iff_not]; omega
  rcases hi' with hi | ⟨hi, hi2⟩
  all_goals
    go_enter Try.func17, Try.ntmps17
    go_wp2_with (first
      | (go_at_call 18; refine (mlen_nil _).mono ?_; rintro e w' ⟨rfl, rfl⟩))
    go_returns
    exact ⟨rfl, (hA.alloc _).drop⟩

theorem zero_msg : ∀ w, (zeroValue 31).run Try.prog w = .ok (.agg #[.int .i64 0, .int .i64 0]) w := fun w => by kernel_rfl

theorem mclear_one {xs : List Value} {g off cap : Nat} (k : Nat) (hk : k < l.length) (hl : l.length ≤ 16) (hc : l.length ≤ cap) (hF : At w0 w (row 31 2 (some ⟨g, off, none⟩) (k + (l.length - (k + 1))) cap xs :: L)) (ty : TypeId) :
    (Builtin.clear_ #[27] ty #[.slice (some ⟨g, off + (k + (l.length - (k + 1))) * 2, none⟩) (l.length - (k + (l.length - (k + 1)))) (cap - (k + (l.length - (k + 1))))]).run Try.prog w =
      .ok (.tuple #[]) (w.setCells g (off + (k + (l.length - (k + 1))) * 2) [.int .i64 0, .int .i64 0]) := by
  rw [show l.length - (k + (l.length - (k + 1))) = 1 by omega]
  refine run_clear_one 27 31 ty (.agg #[.int .i64 0, .int .i64 0]) under_msgs zero_msg ?_ g _ _ (fun j hj => ?_) (fun j hj => hF.row_free _)
  · exact mvs_one [(0, 0)]
  · have hj2 : j < 2 := hj
    rw [Nat.add_assoc]
    exact hF.row_room _ (by omega)

/-- slices.Delete of one message -/
theorem mdel_any {ao : Option Addr} {cap : Nat} (k : Nat) (hk : k < l.length) (hl : l.length ≤ 16) (hA : At w0 w (row 31 2 ao l.length cap (mvs l) :: L)) :
    Calls Try.prog 24 #[.slice ao l.length cap, .int .i64 k, .int .i64 ((k : Int) + 1)] w fun e w' => e = .returned (.slice ao (l.length - 1) cap) ∧ At w0 w' (row 31 2 ao (l.length - 1) cap (mvs (l.take k ++ l.drop (k + 1))) :: L) := by
  obtain ⟨hr1, hr2, hr3⟩ := hA.row_len
  obtain ⟨g, off, rfl⟩ := hA.row_some (by rw [mvs_len]; omega)
  have hT := (hA.row_take k (by omega)).drew
  rw [mvs_take] at hT
  have hm : l.length ≤ 9223372036854775807 := by omega
  have hcm : cap ≤ 9223372036854775807 := by unfold maxLen at hr3; omega
  have hn1 : ((l.drop (k + 1)).length) = l.length - (k + 1) := by simp
  have hrd : Rd w.drew (if cap = k + 1 then some (⟨g, off, none⟩ : Addr) else some ⟨g, off + (k + 1) * 2, none⟩) (mvs (l.drop (k + 1))) := by
    by_cases hc : cap = k + 1
    · have : l.drop (k + 1) = [] := List.drop_of_length_le (by omega)
      rw [this]; exact Rd.nil _ _
    · rw [if_neg hc]
      have h0 := hA.drew.rd
      rw [← mvs_drop]
      refine .inr ⟨g, off + (k + 1) * 2, rfl, fun j u hj => ?_⟩
      have := h0.at_ ((k + 1) * 2 + j) u (by rw [List.getElem?_drop] at hj; exact hj)
      rw [← Nat.add_assoc] at this
      exact this
  have hlen := mvs_len (l.drop (k + 1))
  rw [hn1] at hlen
  obtain ⟨A, hAe⟩ : ∃ A : Addr, (if cap = k + 1 then (some ⟨g, off, none⟩ : Option Addr) else some ⟨g, off + (k + 1) * 2, none⟩) = some A := by
    by_cases h : cap = k + 1
    · exact ⟨_, by rw [if_pos h]⟩
    · exact ⟨_, by rw [if_neg h]⟩
  rw [hAe] at hrd
  have hkc : k ≤ cap := by omega
  have hkc2 : k + 1 ≤ cap := by omega
  have hk3 : (k : Int) + 1 ≤ (l.length : Int) := by omega
  have hk4 : 0 ≤ (k : Int) + 1 := by omega
  have hk5 : 0 ≤ (k : Int) ∧ (k : Int) ≤ (cap : Int) := by omega
  go_enter Try.func24, Try.ntmps24
  go_wp2
  go_region_law (refine step_append_in rfl (.tmp 22) (.tmp 25) 27 rfl (.agg #[.int .i64 0, .int .i64 0]) 16 under_msgs info_msg (by decide) hT (by simp [Act.eval, Act.put]) (some A) (l.length - (k + 1)) (cap - (k + 1)) (mvs (l.drop (k + 1))) (by simp [Act.eval, Act.put]) hlen hrd (mvs_one _) (by omega) ?_; intro w1 hF; have hcl := mclear_one (l := l) k hk hl hr2 hF)
  all_goals
    go_wp2
    go_returns
    have hG := hF.row_spare (k + (l.length - (k + 1))) [.int .i64 0, .int .i64 0] (Nat.le_refl _) (by simp; omega)
    rw [← mvs_append, show k + (l.length - (k + 1)) = l.length - 1 by omega] at hG
    rw [show k + (l.length - (k + 1)) = l.length - 1 by omega]
    exact ⟨rfl, hG⟩
end
end Go.Proofs.Ytpilkneicakohaa
