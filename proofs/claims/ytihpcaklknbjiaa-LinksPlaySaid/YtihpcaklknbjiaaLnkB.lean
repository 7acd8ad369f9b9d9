/-
  The web of links: Of, Link.
-/
import Derived.Test.YtihpcaklknbjiaaLnkKeys
namespace Go.Proofs.Ytihpcaklknbjiaa
open Go.RowKit HP Go.MapKept Go.Maps
open Go.Proofs.Ytihpcaklknbjiaa.Lnk

namespace Lnk
/-- what Link tells, and what is linked behind it -/
def lk (N : Int → List Int) (a b : Int) : Int × (Int → List Int) :=
  if a = b ∨ b ∈ N a then (0, N) else if (N a).length = 8 ∨ (N b).length = 8 then (7, N) else (0, jn (jn N a b) b a)
end Lnk
theorem nil_len (w : World) (ty : TypeId) : (Builtin.len_ #[49] ty #[.map none]).run Try.prog w = .ok (.int .i64 0) w := by
  simp [Builtin.len_, run_underlying Try.underlying49, goInt, Result.andThen]

section
variable {w0 w : World} {L : List HP} {p k : Nat} {N : Int → List Int}
/-- the row goes behind the web -/
theorem At.behind {R : HP} {M : List HP} (h : At w0 w (R :: (M ++ L))) : At w0 w (M ++ (R :: L)) := h.perm List.perm_middle.symm
theorem nodup_of {G : GG} (h1 : ∀ x, nbs G x = N x) (h2 : ∀ g ∈ G, g.2.2.Nodup) (x : Int) : (N x).Nodup := by
  rw [← h1]
  unfold nbs
  cases hf : G.find? (fun g => g.1 = x) with
  | none => exact List.nodup_nil
  | some g => exact h2 g (List.mem_of_find?_eq_some hf)

set_option maxHeartbeats 1000000 in
theorem lof_any (a : Int) (hf : Fits (N a)) (hlen : (N a).length ≤ 1000000) (hA : At w0 w (HP.web p N k :: L)) :
    Calls Try.prog 19 #[.pointer (some ⟨p, 0, none⟩), .int .i64 a] w fun e w' => ∃ ao cap, e = .returned (.slice ao (N a).length cap) ∧
      At w0 w' (row 2 1 ao (N a).length cap ((sortI (N a)).map (Value.int .i64)) :: HP.web p N k :: L) := by
  obtain ⟨E, G, ⟨h1, h2, h3⟩, hB⟩ := hA.web_op
  have c0 := hB.cell 0
  have hn := hB.pick2.mp_nodup
  rw [ent_keys] at hn
  have hl := hB.pick2.mp_look Try.underlying46 Try.underlying2 zeroMap a
  rcases lookG G a hn with ⟨g1, g2, g3⟩ | ⟨G1, b1, S, G2, rfl, g1, g2, g3⟩
  · rw [g2] at hl
    simp only [Option.getD_none] at hl
    have hK := keys_any none w
    have hS := sorted_nil w.heap.size 49 (hB.alloc (.cells #[.map none] 49))
    have hna : N a = [] := by rw [← h1, g3]
    have HN := Lib.hid hna; clear hna
    have HK := Lib.hid hK; clear hK
    have HS := Lib.hid hS; clear hS
    have H1 := Lib.hid h1; clear h1
    go_enter Try.func19, Try.ntmps19
    go_wp2_with (first
      | (go_at_call 27; with_reducible refine HK.out.mono ?_; rintro e w1 ⟨rfl, rfl⟩)
      | (go_at_call 26; with_reducible refine HS.out.mono ?_; rintro e w2 ⟨rfl, hC⟩))
    go_returns
    refine ⟨none, 0, by rw [HN.out]; rfl, ?_⟩
    rw [HN.out, show sortI [] = [] from by simp [sortI]]
    exact (At.web_cl H1.out h2 h3 hC.drop).row_nil _ _
  · rw [g2] at hl
    simp only [Option.getD_some] at hl
    have hna : N a = S := by rw [← h1, g3]
    rw [hna] at hf hlen ⊢
    have hK := keys_any (some b1) w
    have hS := sorted_any w.heap.size 49 (by rw [ones_keys]; exact hf) (by simp [ones]; exact hlen) (hB.inner.alloc (.cells #[.map (some b1)] 49))
    rw [ones_keys, show (ones S).length = S.length from by simp [ones]] at hS
    obtain ⟨u, hu⟩ : ∃ u, u = S.length := ⟨_, rfl⟩
    rw [← hu] at hS ⊢
    have HU := Lib.hid hu; clear hu
    have HK := Lib.hid hK; clear hK
    have HS := Lib.hid hS; clear hS
    have H1 := Lib.hid h1; clear h1
    have HNA := Lib.hid hna; clear hna
    clear hn g1 g2 g3
    go_enter Try.func19, Try.ntmps19
    go_wp2_with (first
      | (go_at_call 27; with_reducible refine HK.out.mono ?_; rintro e w1 ⟨rfl, rfl⟩)
      | (go_at_call 26; with_reducible refine HS.out.mono ?_; rintro e w2 ⟨ao, cap, rfl, hC⟩))
    go_returns
    refine ⟨ao, cap, rfl, ?_⟩
    have hD := hC.pick2.drop
    have e : HP.mp b1 (ones S) :: HP.one p (.cells #[.map (some E)] 48 (0, 0)) :: HP.mp E (ent (G1 ++ (a, b1, S) :: G2)) :: (ins G1 ++ (ins G2 ++ L)) = (HP.mp b1 (ones S) :: HP.one p (.cells #[.map (some E)] 48 (0, 0)) :: HP.mp E (ent (G1 ++ (a, b1, S) :: G2)) :: (ins G1 ++ ins G2)) ++ L := by simp
    rw [e] at hD
    have hF := hD.behind
    simp only [List.cons_append, List.append_assoc] at hF
    exact (At.web_cl H1.out h2 h3 (hF.outer a)).pick2

set_option maxHeartbeats 2000000 in
theorem llink_any (a b : Int) (hs : b ∉ N a → a ∉ N b) (hA : At w0 w (HP.web p N k :: L)) :
    Calls Try.prog 15 #[.pointer (some ⟨p, 0, none⟩), .int .i64 a, .int .i64 b] w fun e w' => e = .returned (.int .i64 (lk N a b).1) ∧ At w0 w' (HP.web p (lk N a b).2 (k + 2) :: L) := by
  have hup : ∀ {w : World} {N : Int → List Int}, At w0 w (HP.web p N k :: L) → At w0 w (HP.web p N (k + 2) :: L) := fun h => by
    obtain ⟨E, G, ⟨h1, h2, h3⟩, hB⟩ := h.web_op
    exact At.web_cl h1 h2 (by omega) hB
  have hli := llinked_any a b hA
  by_cases hab : a = b
  · have T : (a == b) = true := by simp [hab]
    have e : lk N a b = (0, N) := if_pos (.inl hab)
    rw [e]
    clear e hab hs hli
    go_enter Try.func15, Try.ntmps15
    go_wp2
    go_returns
    exact ⟨rfl, hup hA⟩
  have T : (a == b) = false := by simp [hab]
  by_cases hb : b ∈ N a
  · rw [decide_eq_true hb] at hli
    have e : lk N a b = (0, N) := if_pos (.inr hb)
    rw [e]
    have HL := Lib.hid hli; clear hli
    clear e hab hs hb
    go_enter Try.func15, Try.ntmps15
    go_wp2_with (go_at_call 17; with_reducible refine HL.out.mono ?_; rintro e w1 ⟨rfl, rfl⟩)
    go_returns
    exact ⟨rfl, hup hA⟩
  rw [decide_eq_false hb] at hli
  have HL := Lib.hid hli; clear hli
  obtain ⟨E, G, ⟨h1, h2, h3⟩, hB⟩ := hA.web_op
  have c0 := hB.cell 0
  have hn := hB.pick2.mp_nodup
  rw [ent_keys] at hn
  have sl := fun x => hB.pick2.mp_look Try.underlying46 Try.underlying2 zeroMap x
  have hlen : ∀ x, ∃ v, (Instr.lookup 46 (.map (some E)) (.int .i64 x) false).run Try.prog w = .ok v w ∧ (Builtin.len_ #[49] 3 #[v]).run Try.prog w = .ok (.int .i64 (N x).length) w := by
    intro x
    have hl := sl x
    rcases lookG G x hn with ⟨g1, g2, g3⟩ | ⟨G1, b1, S, G2, hG, g1, g2, g3⟩
    · rw [g2] at hl
      exact ⟨_, hl, by rw [← h1, g3]; exact nil_len w _⟩
    · rw [g2] at hl
      subst hG
      refine ⟨_, hl, ?_⟩
      have := hB.inner.mp_len Try.underlying49 3
      rw [← h1, g3]
      rw [show (ones S).length = S.length from by simp [ones]] at this
      exact this
  obtain ⟨va, r1, r2⟩ := hlen a
  obtain ⟨vb, r3, r4⟩ := hlen b
  clear hlen sl h1 h2 h3 hn
  have ha := hs hb
  clear hs
  have hj1 := ljoin_any a b hb hA
  have hj2 := fun (w : World) (h : At w0 w (HP.web p (jn N a b) (k + 1) :: L)) => ljoin_any b a (by unfold jn; rw [if_neg (Ne.symm hab)]; exact ha) h
  have HJ1 := Lib.hid hj1; clear hj1
  have HJ2 := Lib.hid hj2; clear hj2
  have e0 : ¬ (a = b ∨ b ∈ N a) := fun h => h.elim hab hb
  have hlk : lk N a b = if (N a).length = 8 ∨ (N b).length = 8 then (7, N) else (0, jn (jn N a b) b a) := if_neg e0
  rw [hlk]
  clear hlk e0 hab hb ha
  obtain ⟨na, hna⟩ : ∃ na, na = (N a).length := ⟨_, rfl⟩
  obtain ⟨nb, hnb⟩ : ∃ nb, nb = (N b).length := ⟨_, rfl⟩
  rw [← hna] at r2 ⊢
  rw [← hnb] at r4 ⊢
  clear hna hnb
  by_cases f1 : na = 8
  · rw [if_pos (.inl f1)]
    have T1 : ((na : Int) == 8) = true := by simp [f1]
    clear f1
    go_enter Try.func15, Try.ntmps15
    go_wp2_with (go_at_call 17; with_reducible refine HL.out.mono ?_; rintro e w1 ⟨rfl, rfl⟩)
    go_returns
    exact ⟨rfl, hup hA⟩
  have T1 : ((na : Int) == 8) = false := by simp; omega
  by_cases f2 : nb = 8
  · rw [if_pos (.inr f2)]
    have T2 : ((nb : Int) == 8) = true := by simp [f2]
    clear f1 f2
    go_enter Try.func15, Try.ntmps15
    go_wp2_with (go_at_call 17; with_reducible refine HL.out.mono ?_; rintro e w1 ⟨rfl, rfl⟩)
    go_returns
    exact ⟨rfl, hup hA⟩
  have T2 : ((nb : Int) == 8) = false := by simp; omega
  rw [if_neg (by omega)]
  clear f1 f2
  go_enter Try.func15, Try.ntmps15
  go_wp2_with (first
    | (go_at_call 17; with_reducible refine HL.out.mono ?_; rintro e w1 ⟨rfl, rfl⟩)
    | (go_at_call 25; with_reducible refine HJ1.out.mono ?_; rintro e w2 ⟨rfl, hC⟩)
    | (go_at_call 25; with_reducible refine (HJ2.out _ hC).mono ?_; rintro e w3 ⟨rfl, hD⟩))
  go_returns
  exact ⟨rfl, hD⟩
end
end Go.Proofs.Ytihpcaklknbjiaa
