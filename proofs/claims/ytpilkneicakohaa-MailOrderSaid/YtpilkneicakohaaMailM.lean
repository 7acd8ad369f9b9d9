/-
  The law MailFull.
-/
import Derived.Test.YtpilkneicakohaaMailL
namespace Go.Proofs.Ytpilkneicakohaa
open Go.RowKit HP
open Mail (M)

def toM (l : MsgD) : M := (l.1, l.2.1)
/-- the messages of an argument -/
theorem msgs_open {w : World} {ao : Option Addr} {l : List MsgD} (h : Kn.At_ kMsg w ao l) : Rd w ao (mvs (l.map toM)) := by
  rcases h with rfl | ⟨b, off, rfl, h⟩
  · exact Rd.nil _ _
  · refine .inr ⟨b, off, rfl, fun j u hj => ?_⟩
    have hj2 : j < (mvs (l.map toM)).length := (List.getElem?_eq_some_iff.1 hj).1
    rw [mvs_len, List.length_map] at hj2
    have hk : j / 2 < l.length := by omega
    obtain ⟨cs, hR, hc⟩ := h (j / 2) l[j / 2] (List.getElem?_eq_getElem hk)
    obtain ⟨c1, _, rfl, ⟨rfl, _⟩, c2, _, rfl, ⟨rfl, _⟩, rfl⟩ := hR
    obtain ⟨v1, v2⟩ := mvs_get (l.map toM) (j / 2) (by simpa using hk)
    have e : kMsg.sz = 2 := rfl
    rcases Nat.mod_two_eq_zero_or_one j with hz | hz
    · have := hc 0 _ rfl
      rw [e, Nat.add_zero, show j / 2 * 2 = j by omega] at this
      rw [show j / 2 * 2 = j by omega, hj] at v1
      rw [this, v1]; simp [toM]
    · have := hc 1 _ rfl
      rw [e, show j / 2 * 2 + 1 = j by omega] at this
      rw [show j / 2 * 2 + 1 = j by omega, hj] at v2
      rw [this, v2]; simp [toM]
namespace Mail
/-- a mailbox into which all of a list was put -/
def puts (l : List M) : List M := l.take 16
theorem puts_step (l : List M) (k : Nat) (hk : k < l.length) : put l[k] (puts (l.take k)) = ((if k < 16 then 0 else 7), puts (l.take (k + 1))) := by
  unfold put puts
  by_cases h : k < 16
  · have e1 : (l.take k).take 16 = l.take k := List.take_of_length_le (by simp; omega)
    have e2 : (l.take (k + 1)).take 16 = l.take (k + 1) := List.take_of_length_le (by simp; omega)
    rw [e1, e2, if_neg (by simp; omega), if_pos h, List.take_succ_eq_append_getElem hk]
  · rw [if_pos (by simp; omega), if_neg h, List.take_take, List.take_take, Nat.min_eq_left (by omega), Nat.min_eq_left (by omega)]
theorem puts_len (l : List M) : (puts l).length ≤ 16 := by simp [puts]; omega
end Mail

def FullRel (w0 : World) (b : Nat) (l : List M) (i : Value) (wr : World) : Prop := ∃ k : Nat, i = .int .i64 k ∧ k ≤ l.length ∧ At w0 wr [BoxC b (Mail.puts (l.take k))]

set_option maxHeartbeats 4000000 in
set_option maxRecDepth 100000 in
theorem mailFull_any (l : List M) (i : Int) (hi1 : -9223372036854775808 ≤ i) (hi2 : i ≤ 9223372036854775807) (ao : Option Addr) (cap : Nat) (hm : l.length ≤ maxLen) (w : World) (hrd : Rd w ao (mvs l)) :
    Calls Try.prog 5 #[.slice ao l.length cap, .int .i64 i] w fun e w' => e = .returned (.bool true) ∧ Below w.heap.size w w' := by
  obtain ⟨W0, hW⟩ : ∃ W0, W0 = w := ⟨_, rfl⟩
  have hA : At W0 w [] := hW ▸ At.start w
  have hrd0 : Rd W0 ao (mvs l) := hW ▸ hrd
  clear hrd
  have HW := Lib.hid hW; clear hW
  unfold maxLen at hm
  go_enter Try.func5, Try.ntmps5
  go_wp2_with (first
    | (go_at_call 8; refine (lives_any hA).mono ?_; rintro e w1 ⟨rfl, hA1⟩)
    | (go_at_call 9; refine (mnew_any hA1).mono ?_; rintro e w2 ⟨b, rfl, hA2⟩))
  go_loopw [6] (fun i wr => FullRel W0 b l i wr) (fun i _ => l.length - (intOf i).toNat)
  case atStart => exact ⟨0, rfl, by omega, hA2⟩
  case round =>
    obtain ⟨k, rfl, hk, hr⟩ := hrel
    have hpl := Mail.puts_len (l.take k)
    by_cases hlt : k < l.length
    · obtain ⟨g, off, rfl, hc⟩ := (hrd0.old hr).some_ (by rw [mvs_len]; omega)
      obtain ⟨v1, v2⟩ := mvs_get l k hlt
      have d0 := hc _ _ v1
      have d1 := hc _ _ v2
      rw [← Nat.add_assoc] at d1
      have hst := Mail.puts_step l k hlt
      have hlen1 : (Mail.puts (l.take (k + 1))).length = min (k + 1) 16 := by simp [Mail.puts]; omega
      generalize l[k] = x at *
      obtain ⟨x1, x2⟩ := x
      have hput := mput_any x1 x2 hpl hr
      rw [hst] at hput
      have HP_ := Lib.hid hput; clear hput hst
      obtain ⟨nx, hnx⟩ : ∃ nx, nx = Mail.puts (l.take (k + 1)) := ⟨_, rfl⟩
      rw [← hnx] at HP_ hlen1
      have HNX := Lib.hid hnx; clear hnx
      clear hc v1 v2
      have HLEN := Lib.hid hlen1; clear hlen1
      by_cases h16 : k < 16
      · have hp := HP_.out
        rw [if_pos h16] at hp
        have HPP := Lib.hid hp; clear hp
        have hl1 : nx.length = k + 1 := by rw [HLEN.out]; omega
        have hmin : ¬ (16 : Int) < (k : Int) + 1 := by omega
        go_wp2_with (first
          | (go_at_call 11; refine HPP.out.mono ?_; rintro e w3 ⟨rfl, hA3⟩)
          | (go_at_call 18; refine (mlen_any hA3).mono ?_; rintro e w4 ⟨rfl, rfl⟩))
        go_roundw
        case rel => exact ⟨k + 1, by go_num, by omega, by rw [← HNX.out]; exact hA3⟩
        case measure => simp [intOf]; omega
      · have hp := HP_.out
        rw [if_neg h16] at hp
        have HPP := Lib.hid hp; clear hp
        have hl1 : nx.length = 16 := by rw [HLEN.out]; omega
        have hmin : (16 : Int) < (k : Int) + 1 := by omega
        go_wp2_with (first
          | (go_at_call 11; refine HPP.out.mono ?_; rintro e w3 ⟨rfl, hA3⟩)
          | (go_at_call 18; refine (mlen_any hA3).mono ?_; rintro e w4 ⟨rfl, rfl⟩))
        go_roundw
        case rel => exact ⟨k + 1, by go_num, by omega, by rw [← HNX.out]; exact hA3⟩
        case measure => simp [intOf]; omega
    · have hkl : k = l.length := by omega
      subst hkl
      rw [List.take_of_length_le (Nat.le_refl _)] at hr
      clear hpl
      have hlen1 : (Mail.puts l).length = min l.length 16 := by simp [Mail.puts]; omega
      by_cases h0 : l.length = 0
      · have hlz : (Mail.puts l).length = 0 := by omega
        have H0 := Lib.hid h0
        clear hlen1
        go_wp2_with (first
          | (go_at_call 18; refine (mlen_any hr).mono ?_; rintro e w4 ⟨rfl, rfl⟩))
        go_returns
        exact ⟨rfl, HW.out ▸ hr.below⟩
      · obtain ⟨n, hn⟩ : ∃ n, n = (Mail.puts l).length := ⟨_, rfl⟩
        have hn1 : 1 ≤ n := by omega
        have hn16 : n ≤ 16 := by omega
        have hml := mlen_any hr
        rw [← hn] at hml
        have HN := Lib.hid hn; clear hn
        have HL := Lib.hid hlen1; clear hlen1
        have hnz : ((n : Int) == 0) = false := by simp; omega
        have hku : 0 ≤ (IntKind.u64.wrap i).tmod n ∧ (IntKind.u64.wrap i).tmod n < n := by
          rw [IntKind.wrap_u64, Int.tmod_eq_emod_of_nonneg (by omega)]
          exact ⟨Int.emod_nonneg _ (by omega), Int.emod_lt_of_pos _ (by omega)⟩
        obtain ⟨kk, hkk⟩ : ∃ kk : Nat, wrap64 ((IntKind.u64.wrap i).tmod n) = kk := ⟨((IntKind.u64.wrap i).tmod n).toNat, by unfold wrap64; omega⟩
        have hkn : kk < n := by unfold wrap64 at hkk; omega
        have hkp : kk < (Mail.puts l).length := by rw [← HN.out]; exact hkn
        have hkl : kk < l.length := by have := HL.out; omega
        have hpe : (Mail.puts l)[kk] = l[kk] := by simp [Mail.puts]
        have hta := fun w L hA => mtake_any (w0 := W0) (w := w) (L := L) (a := b) (l := Mail.puts l) kk (Mail.puts_len l) hA
        have he : Mail.at_ (Mail.puts l) kk = (l[kk], true) := by rw [Mail.at_, if_pos ⟨by omega, by omega⟩, ← hpe]; simp [hkp]
        have hqn : (Mail.take (Mail.puts l) kk).length = n - 1 := by
          rw [Mail.take, if_pos ⟨by omega, by omega⟩]
          simp only [List.length_append, List.length_take, List.length_drop, Int.toNat_natCast]
          have := HN.out
          omega
        rw [he] at hta
        generalize Mail.take (Mail.puts l) kk = q at *
        obtain ⟨g, off, rfl, hc⟩ := hrd0.some_ (by rw [mvs_len]; omega)
        obtain ⟨v1, v2⟩ := mvs_get l kk hkl
        have d0 := hc _ _ v1
        have d1 := hc _ _ v2
        rw [← Nat.add_assoc] at d1
        clear hc v1 v2 he hpe
        generalize l[kk] = x at *
        obtain ⟨x1, x2⟩ := x
        simp only at hta d0 d1
        have hpu := fun w L hA => mput_any (w0 := W0) (w := w) (L := L) (a := b) (l := q) x1 x2 (by omega) hA
        have hpe : Mail.put (x1, x2) q = (0, q ++ [(x1, x2)]) := by rw [Mail.put, if_neg (by omega)]
        rw [hpe] at hpu
        have hql : (q ++ [(x1, x2)]).length = n := by simp; omega
        generalize q ++ [(x1, x2)] = q2 at *
        have hle := fun w L hA => mlen_any (w0 := W0) (w := w) (L := L) (a := b) (l := q2) hA
        rw [hql] at hle
        have HTA := Lib.hid hta; clear hta
        have HPU := Lib.hid hpu; clear hpu
        have HLE := Lib.hid hle; clear hle
        have HQ := Lib.hid hql; clear hql
        have HQN := Lib.hid hqn; clear hqn hpe hkp
        have hb16 : (((n : Int) == (l.length : Int)) = true ∧ ¬ (16 : Int) < (l.length : Int)) ∨ (((n : Int) == 16) = true ∧ (16 : Int) < (l.length : Int)) := by
          have := HL.out; have := HN.out
          simp only [beq_iff_eq]; omega
        clear hku
        rcases hb16 with ⟨hb, hb2⟩ | ⟨hb, hb2⟩
        all_goals
          go_wp2_with (first
            | (go_at_call 18; refine hml.mono ?_; rintro e w4 ⟨rfl, rfl⟩)
            | (go_at_call 15; refine (HTA.out _ _ hr).mono ?_; rintro e w5 ⟨rfl, hA5⟩; have hA6 := hA5.alloc (.cells #[.int .i64 x1, .int .i64 x2] 31); have hA7 := hA6.pick2.drew; have m0 := hA6.cell 0; have m1 := hA6.cell 1; have o0 := hA6.oldCell d0; have o1 := hA6.oldCell d1))
          go_region_held3 (fun w' => w'.cell? ⟨w5.heap.size, 0, none⟩ = some (.int .i64 x1) ∧ w'.cell? ⟨w5.heap.size, 1, none⟩ = some (.int .i64 x2) ∧ w'.cell? ⟨g, off + kk * 2, none⟩ = some (.int .i64 x1) ∧ w'.cell? ⟨g, off + kk * 2 + 1, none⟩ = some (.int .i64 x2))
            (first | assumption | (exact ⟨m0, m1, o0, o1⟩) | (exact ⟨hA8.pick2.cell 0, hA8.pick2.cell 1, hA8.oldCell d0, hA8.oldCell d1⟩))
            (first
            | (go_at_call 11; refine (HPU.out _ _ hA7).mono ?_; rintro e w8 ⟨rfl, hA8⟩)
            | (go_at_call 18; refine (HLE.out _ _ hA8).mono ?_; rintro e w9 ⟨rfl, rfl⟩))
          all_goals
            go_wp2
            go_returns
            exact ⟨rfl, HW.out ▸ hA8.below⟩
namespace mailFull
theorem mailFull_walk (W : World) (l : List MsgD) (v : Value) (hR : kMsgs.R W l [v]) (i : Int) (wi : (Lit.int .i64 i).wf = true) :
    Calls Try.prog 5 #[v, .int .i64 i] W fun e w' => e = .returned (.bool true) ∧ Below W.heap.size W w' := by
  obtain ⟨ao, cap, hv, h1, h2, _, hi⟩ := hR
  injection hv with hv _
  subst hv
  have := mailFull_any (l.map toM) i (wf_i64 wi).1 (wf_i64 wi).2 ao cap (by simp; omega) W (msgs_open hi)
  rw [List.length_map] at this
  exact this
end mailFull
end Go.Proofs.Ytpilkneicakohaa
