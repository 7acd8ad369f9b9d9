/-
  The web of links: Cut.
-/
import Derived.Test.YtihpcaklknbjiaaLnkB
namespace Go.Proofs.Ytihpcaklknbjiaa
open Go.RowKit HP Go.MapKept Go.Maps
open Go.Proofs.Ytihpcaklknbjiaa.Lnk

namespace Lnk
/-- what is linked when a's links are cut -/
def ct (N : Int → List Int) (a : Int) : Int → List Int := fun x => if x = a then [] else (N x).filter (· != a)
/-- .. when those of l have been seen to -/
def ctl (N : Int → List Int) (a : Int) (l : List Int) : Int → List Int := fun x => if x ∈ l then (N x).filter (· != a) else N x
theorem ones_filter (S : List Int) (a : Int) : (ones S).filter (fun p => p.1 != a) = ones (S.filter (· != a)) := by
  simp [ones, List.filter_map, Function.comp_def]
theorem nbs_del (G1 G2 : GG) (a x : Int) (b : Nat) (S : List Int) (h1 : a ∉ G1.map (·.1)) (h2 : a ∉ G2.map (·.1)) : nbs (G1 ++ G2) x = if x = a then [] else nbs (G1 ++ (a, b, S) :: G2) x := by
  unfold nbs
  rw [List.find?_append, List.find?_append, List.find?_cons]
  by_cases hx : x = a
  · subst hx
    rw [if_pos rfl, List.find?_eq_none.2 (fun y hy => by simp only [decide_eq_true_eq]; exact fun e => h1 (List.mem_map.2 ⟨y, hy, e⟩)), List.find?_eq_none.2 (fun y hy => by simp only [decide_eq_true_eq]; exact fun e => h2 (List.mem_map.2 ⟨y, hy, e⟩))]
    rfl
  · rw [if_neg hx]
    simp only [Ne.symm hx, decide_false]
theorem mem_sortI {l : List Int} {x : Int} : x ∈ sortI l ↔ x ∈ l := (List.mergeSort_perm l _).mem_iff
theorem sortI_len (l : List Int) : (sortI l).length = l.length := List.length_mergeSort l
theorem sortI_nodup {l : List Int} (h : l.Nodup) : (sortI l).Nodup := (List.mergeSort_perm l _).nodup_iff.2 h
end Lnk

section
variable {w0 w : World} {L : List HP} {p k : Nat} {N : Int → List Int}
def CtRel (w0 : World) (L : List HP) (p k : Nat) (N : Int → List Int) (a : Int) (ao : Option Addr) (n cap : Nat) (i : Value) (wr : World) : Prop :=
  ∃ j : Nat, i = .int .i64 j ∧ j ≤ n ∧ At w0 wr (HP.web p (ctl N a ((sortI (N a)).take j)) k :: row 2 1 ao n cap ((sortI (N a)).map (Value.int .i64)) :: L)

set_option maxHeartbeats 2000000 in
theorem lcut_any (a : Int) (hf : Fits (N a)) (hlen : (N a).length ≤ 1000000) (hs : ∀ x, x ∈ N a ↔ a ∈ N x) (hi : a ∉ N a) (hA : At w0 w (HP.web p N k :: L)) :
    Calls Try.prog 13 #[.pointer (some ⟨p, 0, none⟩), .int .i64 a] w fun e w' => ∃ ao cap, e = .returned (.slice ao (N a).length cap) ∧
      At w0 w' (row 2 1 ao (N a).length cap ((sortI (N a)).map (Value.int .i64)) :: HP.web p (ct N a) k :: L) := by
  have hof := lof_any a hf hlen hA
  have hnd : (N a).Nodup := by
    obtain ⟨E, G, ⟨h1, h2, h3⟩, hB⟩ := hA.web_op
    exact nodup_of h1 h2 a
  have hsl := sortI_len (N a)
  have hsn := sortI_nodup hnd
  have hsm := fun x => (mem_sortI (l := N a) (x := x))
  obtain ⟨n, hn⟩ : ∃ n, n = (N a).length := ⟨_, rfl⟩
  rw [← hn] at hof hlen hsl ⊢
  clear hn hnd
  have HS := Lib.hid hs; clear hs
  have HI := Lib.hid hi; clear hi
  have HOF := Lib.hid hof; clear hof
  have HSL := Lib.hid hsl; clear hsl
  have HSN := Lib.hid hsn; clear hsn
  have HSM := Lib.hid hsm; clear hsm
  go_enter Try.func13, Try.ntmps13
  go_wp2_with (go_at_call 19; with_reducible refine HOF.out.mono ?_; rintro e w1 ⟨ao, cap, rfl, hB⟩)
  go_loopw [13] (fun i wr => CtRel w0 L p k N a ao n cap i wr) (fun i _ => n - (intOf i).toNat)
  case atStart =>
    refine ⟨0, rfl, Nat.zero_le _, ?_⟩
    have e : ctl N a ((sortI (N a)).take 0) = N := by funext x; unfold ctl; rw [if_neg (by simp)]
    rw [e]; exact hB.pick2
  case round =>
    clear hB
    obtain ⟨j, rfl, hj, hr⟩ := hrel
    obtain ⟨E, G, ⟨h1, h2, h3⟩, hB⟩ := hr.web_op
    have c0 := hB.cell 0
    have hn := hB.pick2.mp_nodup
    rw [ent_keys] at hn
    by_cases hlt : j < n
    · have hjl : j < (sortI (N a)).length := by rw [HSL.out]; exact hlt
      have hrd := hr.pick2.rd
      obtain ⟨bb, off, rfl, hc⟩ := hrd.some_ (by simp; omega)
      have d0 := hc j (.int .i64 (sortI (N a))[j]) (by simp [hjl])
      have htk := List.take_succ_eq_append_getElem hjl
      have hmem : (sortI (N a))[j] ∈ N a := (HSM.out _).1 (List.getElem_mem hjl)
      have hnt : (sortI (N a))[j] ∉ (sortI (N a)).take j := by
        intro hx
        have hnd := HSN.out
        rw [← List.take_append_drop j (sortI (N a)), List.drop_eq_getElem_cons hjl, List.nodup_append] at hnd
        exact hnd.2.2 _ hx _ List.mem_cons_self rfl
      clear hc hrd
      generalize (sortI (N a))[j] = b at *
      clear hjl
      have hab : a ∈ N b := (HS.out b).1 hmem
      have hNb : ctl N a ((sortI (N a)).take j) b = N b := by unfold ctl; rw [if_neg hnt]
      have hl := hB.pick2.mp_look Try.underlying46 Try.underlying2 zeroMap b
      rcases lookG G b hn with ⟨g1, g2, g3⟩ | ⟨G1, b1, S, G2, rfl, g1, g2, g3⟩
      · rw [h1, hNb] at g3
        rw [g3] at hab; cases hab
      · rw [g2] at hl
        simp only [Option.getD_some] at hl
        obtain ⟨w2, hr2, hB2⟩ := hB.inner.mp_del Try.underlying49 Try.underlying2 a 0
        have hr3 : ∀ ty, (Builtin.delete_ #[49, 2] ty #[.map (some b1), .int .i64 a]).run Try.prog wr = .ok (.tuple #[]) w2 := fun ty => hr2
        rw [ones_filter] at hB2
        have hcl : At w0 w2 (HP.web p (ctl N a ((sortI (N a)).take (j + 1))) k :: row 2 1 (some ⟨bb, off, none⟩) n cap ((sortI (N a)).map (Value.int .i64)) :: L) := by
          have e1 : ent (G1 ++ (b, b1, S) :: G2) = ent (G1 ++ (b, b1, S.filter (· != a)) :: G2) := by simp [ent]
          rw [e1] at hB2
          refine At.web_cl (fun x => ?_) (fun g hg => ?_) (by simp at h3 ⊢; omega) (hB2.outer b)
          · rw [nbs_set G1 G2 b x b1 S _ g1, h1]
            unfold ctl
            rw [htk]
            by_cases hx : x = b
            · subst hx
              rw [if_pos rfl, if_pos (by simp)]
              rw [← hNb, ← h1, g3]
            · rw [if_neg hx]
              by_cases hx2 : x ∈ (sortI (N a)).take j
              · rw [if_pos hx2, if_pos (by simp [hx2])]
              · rw [if_neg hx2, if_neg (by simp [hx2, hx])]
          · rcases List.mem_append.1 hg with hg | hg
            · exact h2 g (List.mem_append.2 (.inl hg))
            · rcases List.mem_cons.1 hg with rfl | hg
              · exact (h2 (b, b1, S) (by simp)).filter _
              · exact h2 g (by simp [hg])
        have HCL := Lib.hid hcl; clear hcl
        clear hB2 hr2 h1 h2 g1 g2 g3 hNb hab hnt hmem htk
        go_wp2
        go_roundw
        case rel => exact ⟨j + 1, by go_num, by omega, HCL.out⟩
        case measure => simp [intOf]; omega
    · have hjn : n = j := by omega
      have htk : (sortI (N a)).take j = sortI (N a) := List.take_of_length_le (by rw [HSL.out]; omega)
      rw [htk] at h1
      have hN : ∀ x, x ≠ a → ctl N a (sortI (N a)) x = (N x).filter (· != a) := by
        intro x hx
        unfold ctl
        by_cases hm : x ∈ sortI (N a)
        · rw [if_pos hm]
        · rw [if_neg hm]
          have : a ∉ N x := fun h => hm ((HSM.out x).2 ((HS.out x).2 h))
          rw [List.filter_eq_self.2 (fun y hy => by simp only [bne_iff_ne, ne_eq]; exact fun e => this (e ▸ hy))]
      subst hjn
      obtain ⟨w2, hr2, hB2⟩ := hB.pick2.mp_del Try.underlying46 Try.underlying2 a 0
      have hr3 : ∀ ty, (Builtin.delete_ #[46, 2] ty #[.map (some E), .int .i64 a]).run Try.prog wr = .ok (.tuple #[]) w2 := fun ty => hr2
      have hcl : At w0 w2 (HP.web p (ct N a) k :: row 2 1 ao n cap ((sortI (N a)).map (Value.int .i64)) :: L) := by
        rcases lookG G a hn with ⟨g1, g2, g3⟩ | ⟨G1, b1, S, G2, rfl, g1, g2, g3⟩
        · rw [List.filter_eq_self.2 (fun q hq => by
            simp only [bne_iff_ne, ne_eq]
            intro e
            obtain ⟨g, hg, rfl⟩ := List.mem_map.1 hq
            exact g1 (List.mem_map.2 ⟨g, hg, e⟩))] at hB2
          refine At.web_cl (fun x => ?_) h2 h3 hB2.pick2
          unfold ct
          by_cases hx : x = a
          · subst hx; rw [if_pos rfl, g3]
          · rw [if_neg hx, h1, hN x hx]
        · have hn2 := hn
          rw [List.map_append, List.map_cons, List.nodup_append, List.nodup_cons] at hn2
          have g4 : a ∉ G2.map (·.1) := hn2.2.1.1
          have e1 : (ent (G1 ++ (a, b1, S) :: G2)).filter (fun q => q.1 != a) = ent (G1 ++ G2) := by
            have k1 : ∀ q ∈ ent G1, (q.1 != a) = true := fun q hq => by
              simp only [bne_iff_ne, ne_eq]
              intro e
              obtain ⟨g, hg, rfl⟩ := List.mem_map.1 hq
              exact g1 (List.mem_map.2 ⟨g, hg, e⟩)
            have k2 : ∀ q ∈ ent G2, (q.1 != a) = true := fun q hq => by
              simp only [bne_iff_ne, ne_eq]
              intro e
              obtain ⟨g, hg, rfl⟩ := List.mem_map.1 hq
              exact g4 (List.mem_map.2 ⟨g, hg, e⟩)
            have e2 : ent (G1 ++ (a, b1, S) :: G2) = ent G1 ++ (a, .map (some b1)) :: ent G2 := by simp [ent]
            rw [e2, List.filter_append, List.filter_cons, if_neg (by simp), List.filter_eq_self.2 k1, List.filter_eq_self.2 k2]
            simp [ent]
          rw [e1] at hB2
          have hD := hB2.pick2.inner.drop
          have e3 : ins G1 ++ (ins G2 ++ (row 2 1 ao n cap ((sortI (N a)).map (Value.int .i64)) :: L)) = ins (G1 ++ G2) ++ (row 2 1 ao n cap ((sortI (N a)).map (Value.int .i64)) :: L) := by simp [ins]
          rw [e3] at hD
          refine At.web_cl (fun x => ?_) (fun g hg => ?_) (by simp at h3 ⊢; omega) hD
          · rw [nbs_del G1 G2 a x b1 S g1 g4, h1]
            unfold ct
            by_cases hx : x = a
            · rw [if_pos hx, if_pos hx]
            · rw [if_neg hx, if_neg hx, hN x hx]
          · rcases List.mem_append.1 hg with hg | hg
            · exact h2 g (List.mem_append.2 (.inl hg))
            · exact h2 g (List.mem_append.2 (.inr (List.mem_cons_of_mem _ hg)))
      have HCL := Lib.hid hcl; clear hcl
      clear hB2 hr2 h1 h2 hn hN htk
      go_wp2
      go_returns
      exact ⟨ao, cap, rfl, HCL.out.pick2⟩
end
end Go.Proofs.Ytihpcaklknbjiaa
