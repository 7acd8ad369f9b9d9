/-
  The law MailUnion.
-/
import Derived.Test.YtpilkneicakohaaMailM
namespace Go.Proofs.Ytpilkneicakohaa
open Go.RowKit HP
open Mail (M)

namespace Mail
theorem has_append (a b : List Int) (n : Int) : has (a ++ b) n = (has a n || has b n) := by simp [has]
theorem find_ge (ts : List Int) (l : List M) (i : Nat) (h : (find ts l i).2 = true) : (i : Int) ≤ (find ts l i).1 := by
  obtain ⟨k, _, h2, _⟩ := find_lt ts l i h
  rw [h2]; omega
theorem find_union (a b : List Int) : ∀ (l : List M) (i : Nat), (find (a ++ b) l i).2 = ((find a l i).2 || (find b l i).2) ∧
    ((find a l i).2 = true → (find b l i).2 = true → (find (a ++ b) l i).1 = min (find a l i).1 (find b l i).1) ∧
    ((find a l i).2 = true → (find b l i).2 = false → (find (a ++ b) l i).1 = (find a l i).1) ∧
    ((find a l i).2 = false → (find b l i).2 = true → (find (a ++ b) l i).1 = (find b l i).1)
  | [], i => by simp [find]
  | m :: r, i => by
    have ih := find_union a b r (i + 1)
    have ga := find_ge a r (i + 1)
    have gb := find_ge b r (i + 1)
    simp only [find, has_append]
    cases ha : has a m.1 <;> cases hb : has b m.1
    · simpa using ih
    · simp only [Bool.false_eq_true, if_false, if_true, Bool.or_true, true_and]
      refine ⟨fun h _ => ?_, fun _ h => by simp at h, fun _ _ => trivial⟩
      have := ga h; omega
    · simp only [Bool.true_or, Bool.false_eq_true, if_false, if_true, true_and]
      refine ⟨fun _ h => ?_, fun _ _ => trivial, fun h _ => by simp at h⟩
      have := gb h; omega
    · simp
end Mail

def UnionRel (w0 : World) (b : Nat) (l : List M) (i : Value) (wr : World) : Prop := ∃ k : Nat, i = .int .i64 k ∧ k ≤ l.length ∧ At w0 wr [BoxC b (Mail.puts (l.take k))]

theorem info_int : (Try.prog.info? 3).map (fun i => (i.zero, i.size, i.bytes)) = some (some (.int .i64 0), 1, 8) := by kernel_rfl
theorem under_ints : Try.prog.underlying 32 = some (.slice 3) := by kernel_rfl
theorem ints_one (l : List Int) : ∀ u ∈ l.map (Value.int .i64), u.oneCell' = true := by
  intro u hu
  obtain ⟨x, _, rfl⟩ := List.mem_map.1 hu
  rfl

set_option maxHeartbeats 4000000 in
set_option maxRecDepth 100000 in
theorem mailUnion_any (l : List M) (xs ys : List Int) (ao ax ay : Option Addr) (cap cx cy : Nat) (hm : l.length ≤ maxLen) (hx : xs.length ≤ 1048576) (hy : ys.length ≤ 1048576) (w : World) (hrd : Rd w ao (mvs l)) (hrx : Rd w ax (xs.map (Value.int .i64))) (hry : Rd w ay (ys.map (Value.int .i64))) :
    Calls Try.prog 7 #[.slice ao l.length cap, .slice ax xs.length cx, .slice ay ys.length cy] w fun e w' => e = .returned (.bool true) ∧ Below w.heap.size w w' := by
  obtain ⟨W0, hW⟩ : ∃ W0, W0 = w := ⟨_, rfl⟩
  have hA : At W0 w [] := hW ▸ At.start w
  have hrd0 : Rd W0 ao (mvs l) := hW ▸ hrd
  have hrx0 : Rd W0 ax (xs.map (Value.int .i64)) := hW ▸ hrx
  have hry0 : Rd W0 ay (ys.map (Value.int .i64)) := hW ▸ hry
  clear hrd hrx hry
  have HW := Lib.hid hW; clear hW
  have hmx : xs.length ≤ maxLen := by unfold maxLen; omega
  have hmy : ys.length ≤ maxLen := by unfold maxLen; omega
  have hmxy : (xs ++ ys).length ≤ maxLen := by simp; unfold maxLen; omega
  unfold maxLen at hm
  go_enter Try.func7, Try.ntmps7
  go_wp2_with (first
    | (go_at_call 8; refine (lives_any hA).mono ?_; rintro e w1 ⟨rfl, hA1⟩)
    | (go_at_call 9; refine (mnew_any hA1).mono ?_; rintro e w2 ⟨b, rfl, hA2⟩))
  go_loopw [8] (fun i wr => UnionRel W0 b l i wr) (fun i _ => l.length - (intOf i).toNat)
  case atStart => exact ⟨0, rfl, by omega, hA2⟩
  case round =>
    obtain ⟨k, rfl, hk, hr⟩ := hrel
    have hpl := Mail.puts_len (l.take k)
    by_cases hlt : k < l.length
    · obtain ⟨g, off, rfl, hc⟩ := (hrd0.old hr).some_ (by rw [mvs_len]; omega)
      obtain ⟨v1, v2⟩ := mvs_get l k hlt
      have d0 := hc _ _ v1
      have d1 := hc _ _ v2
      rw [← Nat.add_assoc] at d1
      have hst := Mail.puts_step l k hlt
      generalize l[k] = x at *
      obtain ⟨x1, x2⟩ := x
      have hput := mput_any x1 x2 hpl hr
      rw [hst] at hput
      have HP_ := Lib.hid hput; clear hput hst
      clear hc v1 v2
      go_wp2_with (first
        | (go_at_call 11; refine HP_.out.mono ?_; rintro e w3 ⟨rfl, hA3⟩))
      go_roundw
      case rel => exact ⟨k + 1, by go_num, by omega, hA3⟩
      case measure => simp [intOf]; omega
    · have hkl : k = l.length := by omega
      subst hkl
      rw [List.take_of_length_le (Nat.le_refl _)] at hr
      clear hpl
      have hl16 := Mail.puts_len l
      obtain ⟨u1, u2, u3, u4⟩ := Mail.find_union xs ys (Mail.puts l) 0
      have n1 := Mail.find_no xs (Mail.puts l) 0
      have n2 := Mail.find_no ys (Mail.puts l) 0
      have n3 := Mail.find_no (xs ++ ys) (Mail.puts l) 0
      have f1 := fun w L hA hrd => mfind_any (w0 := W0) (L := L) (a := b) (l := Mail.puts l) xs ax cx hmx w hrd hl16 hA
      have f2 := fun w L hA hrd => mfind_any (w0 := W0) (L := L) (a := b) (l := Mail.puts l) ys ay cy hmy w hrd hl16 hA
      have f3 := fun w L a3 c3 hA hrd => mfind_any (w0 := W0) (L := L) (a := b) (l := Mail.puts l) (xs ++ ys) a3 c3 hmxy w hrd hl16 hA
      rw [List.length_append] at f3
      generalize Mail.find xs (Mail.puts l) 0 = p1 at *
      generalize Mail.find ys (Mail.puts l) 0 = p2 at *
      generalize Mail.find (xs ++ ys) (Mail.puts l) 0 = p3 at *
      obtain ⟨x, p⟩ := p1
      obtain ⟨y, q⟩ := p2
      obtain ⟨z, r⟩ := p3
      simp only at f1 f2 f3 u1 u2 u3 u4 n1 n2 n3
      have F1 := Lib.hid f1; clear f1
      have F2 := Lib.hid f2; clear f2
      have F3 := Lib.hid f3; clear f3
      have hcase : (p = true ∧ q = true ∧ r = true ∧ ((¬ y < x ∧ x ≤ y ∧ (z == x) = true) ∨ (y < x ∧ (z == y) = true))) ∨ (p = true ∧ q = false ∧ r = true ∧ (z == x) = true) ∨ (p = false ∧ q = true ∧ r = true ∧ (z == y) = true) ∨ (p = false ∧ q = false ∧ r = false ∧ (z == 0) = true) := by
        simp only [beq_iff_eq]
        cases p <;> cases q <;> simp_all <;> omega
      clear u1 u2 u3 u4 n1 n2 n3
      rcases hcase with ⟨rfl, rfl, rfl, ⟨g1, g2, g3⟩ | ⟨g1, g3⟩⟩ | ⟨rfl, rfl, rfl, g3⟩ | ⟨rfl, rfl, rfl, g3⟩ | ⟨rfl, rfl, rfl, g3⟩
      all_goals
        go_wp2_with (first
          | (go_at_call_of 13 (Value.slice ax xs.length cx); refine (F1.out _ _ hr (hrx0.old hr)).mono ?_; rintro e w3 ⟨rfl, hA3⟩)
          | (go_at_call_of 13 (Value.slice ay ys.length cy); refine (F2.out _ _ hA3 (hry0.old hA3)).mono ?_; rintro e w4 ⟨rfl, hA4⟩; have hR4 := hA4.row_nil 3 1)
          | (at_builtin; refine wpList_append_row rfl _ (.tmp 44) 32 rfl (.int .i64 0) 8 under_ints info_int rfl (by decide) hR4 rfl ax xs.length cx (xs.map (Value.int .i64)) rfl (by simp) (hrx0.old hA4) (ints_one xs) (by unfold maxLen; omega) (by omega) ?_; intro ao5 cap5 w5 hR5; simp only [Nat.zero_add, List.nil_append] at hR5)
          | (at_builtin; refine wpList_append_row rfl (.tmp 45) (.tmp 46) 32 rfl (.int .i64 0) 8 under_ints info_int rfl (by decide) hR5 rfl ay ys.length cy (ys.map (Value.int .i64)) rfl (by simp) (hry0.old hR5) (ints_one ys) (by unfold maxLen; omega) (by omega) ?_; intro ao6 cap6 w6 hR6)
          | (go_at_call 13; refine (F3.out _ _ _ _ hR6.pick2 (by have := hR6.rd; rwa [← List.map_append] at this)).mono ?_; rintro e w7 ⟨rfl, hA7⟩))
        go_returns
        exact ⟨rfl, HW.out ▸ hA7.below⟩

theorem kInts_len (l : List Int) : l.length ≤ kInts.wt l := by
  have : (l.map (fun _ => 1)).sum = l.length := by
    induction l with
    | nil => rfl
    | cons x r ih => simp only [List.map_cons, List.sum_cons, List.length_cons, ih]; omega
  show l.length ≤ (l.map (fun _ => 1)).sum + 1
  omega
namespace mailUnion
theorem mailUnion_walk (W : World) (l : List MsgD) (v : Value) (hR : kMsgs.R W l [v]) (xs : List Int) (vx : Value) (hX : kInts.R W xs [vx]) (ys : List Int) (vy : Value) (hY : kInts.R W ys [vy]) (hk : (kMsgs).wt l + (kInts).wt xs + (kInts).wt ys ≤ 1048576) :
    Calls Try.prog 7 #[v, vx, vy] W fun e w' => e = .returned (.bool true) ∧ Below W.heap.size W w' := by
  obtain ⟨ao, cap, hv, h1, h2, _, hi⟩ := hR
  obtain ⟨ax, cx, hvx, x1, x2, _, hxi⟩ := hX
  obtain ⟨ay, cy, hvy, y1, y2, _, hyi⟩ := hY
  injection hv with hv _
  injection hvx with hvx _
  injection hvy with hvy _
  subst hv hvx hvy
  have lx := kInts_len xs
  have ly := kInts_len ys
  have := mailUnion_any (l.map toM) xs ys ao ax ay cap cx cy (by simp; omega) (by omega) (by omega) W (msgs_open hi) (rd_of_at _ hxi) (rd_of_at _ hyi)
  rw [List.length_map] at this
  exact this
end mailUnion
end Go.Proofs.Ytpilkneicakohaa
