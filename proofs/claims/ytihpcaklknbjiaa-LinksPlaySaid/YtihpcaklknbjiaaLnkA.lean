/-
  The web of links: its memory; New, Linked, join.
-/
import Derived.Test.YtihpcaklknbjiaaLib2
import Derived.Test.YtihpcaklknbjiaaMap
import Derived.Test.YtihpcaklknbjiaaChecked
namespace Go.Proofs.Ytihpcaklknbjiaa
open Go.RowKit HP Go.MapKept Go.Maps

namespace Lnk
/-- a node, the block of its map, those it is linked with -/
abbrev GG := List (Int × Nat × List Int)
def ones (S : List Int) : List (Int × Value) := S.map fun x => (x, .int .i64 1)
def ent (G : GG) : List (Int × Value) := G.map fun g => (g.1, .map (some g.2.1))
def ins (G : GG) : List HP := G.map fun g => HP.mp g.2.1 (ones g.2.2)
def nbs (G : GG) (a : Int) : List Int := ((G.find? fun g => g.1 = a).map (·.2.2)).getD []
theorem ent_keys (G : GG) : (ent G).map (·.1) = G.map (·.1) := by simp [ent]
theorem ones_keys (S : List Int) : (ones S).map (·.1) = S := by simp [ones, Function.comp_def]
theorem mget_ones (S : List Int) (hn : S.Nodup) (x : Int) : (mget (ones S) x).getD (.int .i64 0) = .int .i64 (if x ∈ S then 1 else 0) := by
  by_cases h : x ∈ S
  · rw [if_pos h, (mget_some (A := ones S) (k := x) (v := .int .i64 1) (by rw [ones_keys]; exact hn)).2 (List.mem_map.2 ⟨x, h, rfl⟩)]; rfl
  · rw [if_neg h, (mget_none (A := ones S) (k := x)).2 (by rw [ones_keys]; exact h)]; rfl
/-- where a node stands -/
theorem lookG (G : GG) (a : Int) (hn : (G.map (·.1)).Nodup) : (a ∉ G.map (·.1) ∧ mget (ent G) a = none ∧ nbs G a = []) ∨ ∃ G1 b S G2, G = G1 ++ (a, b, S) :: G2 ∧ a ∉ G1.map (·.1) ∧ mget (ent G) a = some (.map (some b)) ∧ nbs G a = S := by
  by_cases h : a ∈ G.map (·.1)
  · right
    obtain ⟨g, hg, rfl⟩ := List.mem_map.1 h
    obtain ⟨G1, G2, rfl⟩ := List.append_of_mem hg
    rw [List.map_append, List.map_cons, List.nodup_append] at hn
    have h1 : g.1 ∉ G1.map (·.1) := fun hx => hn.2.2 _ hx _ List.mem_cons_self rfl
    have hf : (G1 ++ g :: G2).find? (fun x => x.1 = g.1) = some g := by
      rw [List.find?_append, List.find?_eq_none.2 (fun x hx => by simp only [decide_eq_true_eq]; exact fun e => h1 (List.mem_map.2 ⟨x, hx, e⟩))]
      simp
    refine ⟨G1, g.2.1, g.2.2, G2, rfl, h1, ?_, ?_⟩
    · unfold mget ent
      rw [List.find?_map]
      have : (fun p : Int × Value => decide (p.1 = g.1)) ∘ (fun g : Int × Nat × List Int => (g.1, Value.map (some g.2.1))) = fun x => decide (x.1 = g.1) := rfl
      rw [this, hf]; rfl
    · unfold nbs; rw [hf]; rfl
  · left
    refine ⟨h, mget_none.2 (by rw [ent_keys]; exact h), ?_⟩
    unfold nbs
    rw [List.find?_eq_none.2 (fun x hx => by simp only [decide_eq_true_eq]; exact fun e => h (List.mem_map.2 ⟨x, hx, e⟩))]
    rfl
theorem nbs_snoc (G : GG) (a x : Int) (b : Nat) (S : List Int) (h : a ∉ G.map (·.1)) : nbs (G ++ [(a, b, S)]) x = if x = a then S else nbs G x := by
  unfold nbs
  rw [List.find?_append]
  by_cases hx : x = a
  · subst hx
    rw [if_pos rfl, List.find?_eq_none.2 (fun y hy => by simp only [decide_eq_true_eq]; exact fun e => h (List.mem_map.2 ⟨y, hy, e⟩))]
    simp
  · rw [if_neg hx]
    cases hf : G.find? (fun g => g.1 = x) with
    | some g => simp
    | none => simp [Ne.symm hx]
theorem nbs_set (G1 G2 : GG) (a x : Int) (b : Nat) (S T : List Int) (h : a ∉ G1.map (·.1)) : nbs (G1 ++ (a, b, T) :: G2) x = if x = a then T else nbs (G1 ++ (a, b, S) :: G2) x := by
  unfold nbs
  rw [List.find?_append, List.find?_append, List.find?_cons, List.find?_cons]
  by_cases hx : x = a
  · subst hx
    rw [if_pos rfl, List.find?_eq_none.2 (fun y hy => by simp only [decide_eq_true_eq]; exact fun e => h (List.mem_map.2 ⟨y, hy, e⟩))]
    simp
  · rw [if_neg hx]
    simp only [Ne.symm hx, decide_false]
end Lnk
open Lnk

theorem At.sep_op {w0 w : World} {L M : List HP} (h : At w0 w (HP.sep M :: L)) : At w0 w (M ++ L) := h.mono fun _ H => append_sep H
/-- the web's pieces -/
def LWs (p E : Nat) (G : GG) : List HP := HP.one p (.cells #[.map (some E)] 48 (0, 0)) :: HP.mp E (ent G) :: ins G
/-- A web whose nodes are linked as N tells; it has at most k maps. -/
def HP.web (p : Nat) (N : Int → List Int) (k : Nat) : HP := ex fun E => ex fun G => pr ((∀ x, nbs G x = N x) ∧ (∀ g ∈ G, g.2.2.Nodup) ∧ G.length ≤ k) (HP.sep (LWs p E G))

section
variable {w0 w : World} {L : List HP} {p k : Nat} {N : Int → List Int}
theorem At.web_op (h : At w0 w (HP.web p N k :: L)) : ∃ E G, ((∀ x, nbs G x = N x) ∧ (∀ g ∈ G, g.2.2.Nodup) ∧ G.length ≤ k) ∧ At w0 w (HP.one p (.cells #[.map (some E)] 48 (0, 0)) :: HP.mp E (ent G) :: (ins G ++ L)) := by
  obtain ⟨E, h⟩ := h.ex
  obtain ⟨G, h⟩ := h.ex
  obtain ⟨q, h⟩ := h.pr
  exact ⟨E, G, q, h.sep_op⟩
theorem At.web_cl {E : Nat} {G : GG} (h1 : ∀ x, nbs G x = N x) (h2 : ∀ g ∈ G, g.2.2.Nodup) (h3 : G.length ≤ k) (h : At w0 w (HP.one p (.cells #[.map (some E)] 48 (0, 0)) :: HP.mp E (ent G) :: (ins G ++ L))) : At w0 w (HP.web p N k :: L) :=
  At.ex_mk E (At.ex_mk G (At.pr_mk ⟨h1, h2, h3⟩ (At.sep_mk (M := LWs p E G) h)))
theorem At.inner {P0 P1 : HP} {G1 G2 : GG} {a : Int} {b : Nat} {S : List Int} (h : At w0 w (P0 :: P1 :: (ins (G1 ++ (a, b, S) :: G2) ++ L))) : At w0 w (HP.mp b (ones S) :: P0 :: P1 :: (ins G1 ++ (ins G2 ++ L))) := by
  have e : P0 :: P1 :: (ins (G1 ++ (a, b, S) :: G2) ++ L) = (P0 :: P1 :: ins G1) ++ HP.mp b (ones S) :: (ins G2 ++ L) := by simp [ins]
  rw [e] at h
  exact h.perm List.perm_middle
theorem At.outer {P0 P1 : HP} {G1 G2 : GG} (a : Int) {b : Nat} {S : List Int} (h : At w0 w (HP.mp b (ones S) :: P0 :: P1 :: (ins G1 ++ (ins G2 ++ L)))) : At w0 w (P0 :: P1 :: (ins (G1 ++ (a, b, S) :: G2) ++ L)) := by
  have e : P0 :: P1 :: (ins (G1 ++ (a, b, S) :: G2) ++ L) = (P0 :: P1 :: ins G1) ++ HP.mp b (ones S) :: (ins G2 ++ L) := by simp [ins]
  rw [e]
  exact h.perm (List.perm_middle (l₁ := P0 :: P1 :: ins G1)).symm

theorem zeroMap : ∀ w, (zeroValue 49).run Try.prog w = .ok (.map none) w := fun w => by kernel_rfl
theorem zeroInt : ∀ w, (zeroValue 3).run Try.prog w = .ok (.int .i64 0) w := fun w => by kernel_rfl
theorem eql_nil (w : World) : (binOp BinOp.eql 49 (.map none) (.map none)).run Try.prog w = .ok (.bool true) w := by kernel_rfl
theorem eql_some (b : Nat) (w : World) : (binOp BinOp.eql 49 (.map (some b)) (.map none)).run Try.prog w = .ok (.bool false) w := by kernel_rfl
theorem nil_look (w : World) (x : Int) : (Instr.lookup 49 (.map none) (.int .i64 x) false).run Try.prog w = .ok (.int .i64 0) w := by
  have hc := fun em => run_checkKey (P := Try.prog) (w := w) Try.underlying2 (k := .int .i64 x) rfl em 9999
  have hf := run_findKey (P := Try.prog) (w := w) Try.underlying2 (show Instr.findNow (.int .i64) (.int .i64 x) [] 0 = some none from rfl)
  simp [Instr.lookup, run_underlying Try.underlying49, hc, hf, Result.andThen]

theorem lnew_any (hA : At w0 w L) : Calls Try.prog 11 #[] w fun e w' => ∃ p, e = .returned (.pointer (some ⟨p, 0, none⟩)) ∧ At w0 w' (HP.web p (fun _ => []) 0 :: L) := by
  have hmm := @run_makeMap Try.prog
  have h1 := hA.mp_new
  have h2 := h1.alloc (.cells #[.map (some w.heap.size)] 48)
  rw [World.size_alloc] at h2
  go_enter Try.func11, Try.ntmps11
  go_wp2
  go_returns
  exact ⟨_, rfl, At.web_cl (E := w.heap.size) (G := []) (fun x => rfl) (fun g hg => by cases hg) (Nat.le_refl _) h2⟩

theorem llinked_any (a b : Int) (hA : At w0 w (HP.web p N k :: L)) :
    Calls Try.prog 17 #[.pointer (some ⟨p, 0, none⟩), .int .i64 a, .int .i64 b] w fun e w' => e = .returned (.bool (decide (b ∈ N a))) ∧ w' = w := by
  obtain ⟨E, G, ⟨h1, h2, h3⟩, hB⟩ := hA.web_op
  have c0 := hB.cell 0
  have hn := hB.pick2.mp_nodup
  rw [ent_keys] at hn
  have hl := hB.pick2.mp_look Try.underlying46 Try.underlying2 zeroMap a
  rcases lookG G a hn with ⟨g1, g2, g3⟩ | ⟨G1, b1, S, G2, rfl, g1, g2, g3⟩
  · rw [g2] at hl
    have hl2 := nil_look w b
    have hr : decide (b ∈ N a) = false := by rw [← h1, g3]; simp
    rw [hr]
    simp only [Option.getD_none] at hl
    go_enter Try.func17, Try.ntmps17
    go_wp2
    go_returns
    exact ⟨rfl, rfl⟩
  · rw [g2] at hl
    simp only [Option.getD_some] at hl
    have hl2 := hB.inner.mp_look Try.underlying49 Try.underlying2 zeroInt b
    rw [mget_ones S (h2 (a, b1, S) (by simp))] at hl2
    rw [← h1, g3]
    by_cases hb : b ∈ S
    · rw [if_pos hb] at hl2
      rw [decide_eq_true hb]
      go_enter Try.func17, Try.ntmps17
      go_wp2
      go_returns
      exact ⟨rfl, rfl⟩
    · rw [if_neg hb] at hl2
      rw [decide_eq_false hb]
      go_enter Try.func17, Try.ntmps17
      go_wp2
      go_returns
      exact ⟨rfl, rfl⟩

/-- one link, one way -/
def jn (N : Int → List Int) (a b : Int) : Int → List Int := fun x => if x = a then N a ++ [b] else N x

set_option maxHeartbeats 1000000 in
theorem ljoin_any (a b : Int) (hb : b ∉ N a) (hA : At w0 w (HP.web p N k :: L)) :
    Calls Try.prog 25 #[.pointer (some ⟨p, 0, none⟩), .int .i64 a, .int .i64 b] w fun e w' => e = .returned (.tuple #[]) ∧ At w0 w' (HP.web p (jn N a b) (k + 1) :: L) := by
  obtain ⟨E, G, ⟨h1, h2, h3⟩, hB⟩ := hA.web_op
  have hmm := @run_makeMap Try.prog
  have c0 := hB.cell 0
  have hn := hB.pick2.mp_nodup
  rw [ent_keys] at hn
  have hl := hB.pick2.mp_look Try.underlying46 Try.underlying2 zeroMap a
  rcases lookG G a hn with ⟨g1, g2, g3⟩ | ⟨G1, b1, S, G2, rfl, g1, g2, g3⟩
  · rw [g2] at hl
    simp only [Option.getD_none] at hl
    obtain ⟨w2, hr2, hB2⟩ := (hB.mp_new.pick3).mp_put Try.underlying46 Try.underlying2 a (.map (some w.heap.size)) (by rw [ent_keys]; exact g1)
    have c1 := hB2.pick3.cell 0
    have hl2 := hB2.mp_look Try.underlying46 Try.underlying2 zeroMap a
    rw [(mget_some (by rw [List.map_append, ent_keys, List.nodup_append]; exact ⟨hn, by simp, fun x hx y hy => by simp at hy; subst hy; exact fun e => g1 (e ▸ hx)⟩)).2 (List.mem_append.2 (.inr (List.mem_singleton.2 rfl)))] at hl2
    simp only [Option.getD_some] at hl2
    obtain ⟨w3, hr3, hB3⟩ := hB2.pick2.mp_put Try.underlying49 Try.underlying2 b (.int .i64 1) (by simp)
    have H1 := Lib.hid h1; clear h1
    have H2 := Lib.hid h2; clear h2
    have G1 := Lib.hid g1; clear g1
    have G3 := Lib.hid g3; clear g3 g2 hn hb
    have he := eql_nil w
    go_enter Try.func25, Try.ntmps25
    go_wp2
    go_returns
    refine ⟨rfl, At.web_cl (E := E) (G := G ++ [(a, w.heap.size, [b])]) (fun x => ?_) (fun g hg => ?_) (by simp; omega) ?_⟩
    · rw [nbs_snoc G a x _ _ G1.out]
      unfold jn
      by_cases hx : x = a
      · subst hx; rw [if_pos rfl, if_pos rfl, ← H1.out, G3.out]; rfl
      · rw [if_neg hx, if_neg hx, H1.out]
    · rcases List.mem_append.1 hg with hg | hg
      · exact H2.out g hg
      · simp at hg; subst hg; simp
    · have e : HP.one p (.cells #[.map (some E)] 48 (0, 0)) :: HP.mp E (ent (G ++ [(a, w.heap.size, [b])])) :: (ins (G ++ [(a, w.heap.size, [b])]) ++ L) = (HP.one p (.cells #[.map (some E)] 48 (0, 0)) :: HP.mp E (ent G ++ [(a, .map (some w.heap.size))]) :: ins G) ++ HP.mp w.heap.size (ones [b]) :: L := by simp [ins, ent]
      rw [e]
      exact (hB3.pick3.perm (List.Perm.cons _ (List.Perm.swap _ _ _))).perm (by
        refine List.Perm.trans ?_ List.perm_middle.symm
        exact List.Perm.trans (List.Perm.cons _ (List.Perm.swap _ _ _)) (List.Perm.swap _ _ _))
  · rw [g2] at hl
    simp only [Option.getD_some] at hl
    have hbS : b ∉ S := by rw [← g3, h1]; exact hb
    have he := eql_some b1 w
    obtain ⟨w2, hr2, hB2⟩ := hB.inner.mp_put Try.underlying49 Try.underlying2 b (.int .i64 1) (by rw [ones_keys]; exact hbS)
    have H1 := Lib.hid h1; clear h1
    have H2 := Lib.hid h2; clear h2
    have HG1 := Lib.hid g1; clear g1
    have G3 := Lib.hid g3; clear g3 g2 hn hb
    have H3 := Lib.hid h3; clear h3
    have HS := Lib.hid hbS; clear hbS
    go_enter Try.func25, Try.ntmps25
    go_wp2
    go_returns
    refine ⟨rfl, At.web_cl (E := E) (G := G1 ++ (a, b1, S ++ [b]) :: G2) (fun x => ?_) (fun g hg => ?_) (by have := H3.out; simp at this ⊢; omega) ?_⟩
    · rw [nbs_set G1 G2 a x b1 S (S ++ [b]) HG1.out]
      unfold jn
      by_cases hx : x = a
      · subst hx; rw [if_pos rfl, if_pos rfl, ← H1.out, G3.out]
      · rw [if_neg hx, if_neg hx, H1.out]
    · rcases List.mem_append.1 hg with hg | hg
      · exact H2.out g (List.mem_append.2 (.inl hg))
      · rcases List.mem_cons.1 hg with rfl | hg
        · have := H2.out (a, b1, S) (by simp)
          exact List.nodup_append.2 ⟨this, by simp, fun x hx y hy => by simp at hy; subst hy; exact fun e => HS.out (e ▸ hx)⟩
        · exact H2.out g (by simp [hg])
    · have e1 : ent (G1 ++ (a, b1, S ++ [b]) :: G2) = ent (G1 ++ (a, b1, S) :: G2) := by simp [ent]
      have e2 : ones (S ++ [b]) = ones S ++ [(b, .int .i64 1)] := by simp [ones]
      rw [e1]
      rw [← e2] at hB2
      exact hB2.outer a
end
end Go.Proofs.Ytihpcaklknbjiaa
