/-
  The law LinksFull.
-/
import Derived.Test.YtihpcaklknbjiaaLnkN
namespace Go.Proofs.Ytihpcaklknbjiaa
open Go.RowKit HP
open Go.Proofs.Ytihpcaklknbjiaa.Lnk

noncomputable def kI64 : Kn Try.prog 2 Int := Kn.int (k := .i64) Try.underlying2
noncomputable def kI64s : Kn Try.prog 34 (List Int) := .slice kI64 (by decide) (by kernel_rfl) (by kernel_rfl)
theorem i64_at {w : World} {ao : Option Addr} {l : List Int} (h : Kn.At_ kI64 w ao l) (i : Nat) (hi : i < l.length) :
    ∃ b off, ao = some ⟨b, off, none⟩ ∧ w.cell? ⟨b, off + i, none⟩ = some (.int .i64 l[i]) ∧ (-9223372036854775808 ≤ l[i] ∧ l[i] ≤ 9223372036854775807) := by
  rcases h with rfl | ⟨b, off, rfl, h⟩
  · simp at hi
  · obtain ⟨vs, ⟨hv, hw⟩, hc⟩ := h i l[i] (List.getElem?_eq_getElem hi)
    subst hv
    refine ⟨b, off, rfl, ?_, wf_i64l hw⟩
    have := hc 0 _ rfl
    simpa [kI64, Kn.int] using this

namespace Lnk
/-- all links are a's -/
def starF (a : Int) (S : List Int) : Int → List Int := fun x => if x = a then S else if x ∈ S then [a] else []
theorem starF_nil (a : Int) : starF a [] = fun _ => [] := by funext x; simp [starF]
theorem starF_join {a b : Int} {S : List Int} (hab : b ≠ a) (hb : b ∉ S) : jn (jn (Lnk.starF a S) a b) b a = starF a (S ++ [b]) := by
  funext x
  unfold jn starF
  by_cases h1 : x = a
  · subst h1; simp [Ne.symm hab]
  · by_cases h2 : x = b
    · subst h2; simp [h1, hb]
    · simp [h1, h2]
theorem lk_starF {a b : Int} {S : List Int} (ha : a ∉ S) : lk (Lnk.starF a S) a b = if a = b ∨ b ∈ S then (0, Lnk.starF a S) else if S.length = 8 then (7, Lnk.starF a S) else (0, starF a (S ++ [b])) := by
  unfold lk
  have e1 : Lnk.starF a S a = S := by simp [starF]
  rw [e1]
  by_cases h1 : a = b ∨ b ∈ S
  · rw [if_pos h1, if_pos h1]
  · rw [if_neg h1, if_neg h1]
    have hb : b ≠ a := fun e => h1 (.inl e.symm)
    have hs : b ∉ S := fun e => h1 (.inr e)
    have e2 : Lnk.starF a S b = [] := by simp [starF, hb, hs]
    rw [e2, starF_join hb hs]
    by_cases h2 : S.length = 8
    · rw [if_pos (.inl h2), if_pos h2]
    · rw [if_neg (by simp [h2]), if_neg h2]
theorem starF_sym {a b : Int} {S : List Int} (ha : a ∉ S) (h : b ∉ Lnk.starF a S a) : a ∉ Lnk.starF a S b := by
  have e1 : Lnk.starF a S a = S := by simp [starF]
  rw [e1] at h
  by_cases hb : b = a
  · subst hb; rw [e1]; exact h
  · simp [starF, hb, h]
end Lnk

def FuRel (W : World) (p : Nat) (a : Int) (n : Nat) (i m : Value) (wr : World) : Prop :=
  ∃ (j k q : Nat) (S : List Int), i = .int .i64 j ∧ j ≤ n ∧ m = .int .i64 q ∧ S.length = q ∧ q ≤ 8 ∧ a ∉ S ∧ Fits S ∧ At W wr [HP.web p (Lnk.starF a S) k]
namespace linksFull
set_option maxHeartbeats 4000000 in
theorem linksFull_any (W : World) (a : Int) (l : List Int) (ao : Option Addr) (n cap : Nat) (hn : l.length = n) (hm : n ≤ maxLen) (hrd : Kn.At_ kI64 W ao l) :
    Calls Try.prog 6 #[.int .i64 a, .slice ao n cap] W fun e w' => e = .returned (.bool true) ∧ Below W.heap.size W w' := by
  have hA := At.start W
  have hN := fun (w : World) (h : At W w []) => lnew_any h
  have HN := Lib.hid hN; clear hN
  unfold maxLen at hm
  have HL := Lib.hid hn; clear hn
  go_enter Try.func6, Try.ntmps6
  go_wp2_with (first
    | (go_at_call 9; with_reducible refine (lives_any hA).mono ?_; rintro e w1 ⟨rfl, h1⟩)
    | (go_at_call 11; with_reducible refine (HN.out _ h1).mono ?_; rintro e w2 ⟨p, rfl, h2⟩))
  go_loopw [7, 6] (fun i m wr => FuRel W p a n i m wr) (fun i _ _ => n - (intOf i).toNat)
  case atStart => exact ⟨0, 0, 0, [], rfl, Nat.zero_le _, rfl, rfl, by omega, by simp, fun x hx => (by cases hx), by rw [starF_nil]; exact h2⟩
  case round =>
    clear h2
    obtain ⟨j, k, q, S, rfl, hj, rfl, hq, hq8, haS, hfS, hr⟩ := hrel
    have haa : Lnk.starF a S a = S := by simp [starF]
    by_cases hlt : j < n
    · have hjl : j < l.length := by rw [HL.out]; exact hlt
      obtain ⟨b, off, rfl, d0, hfx⟩ := i64_at hrd j hjl
      generalize l[j] = x at *
      clear hjl
      have d1 := hr.oldCell d0
      have hli := fun (w : World) (L : List HP) (h : At W w (HP.web p (Lnk.starF a S) k :: L)) => llinked_any a x h
      rw [haa] at hli
      have hlk := llink_any a x (starF_sym haS) hr
      rw [lk_starF haS] at hlk
      have hof := fun (w : World) (k : Nat) (S : List Int) (hf : Fits S) (hl : S.length ≤ 9) (h : At W w [HP.web p (Lnk.starF a S) k]) => (by
        have h1 := lof_any (N := Lnk.starF a S) (p := p) (k := k) (w0 := W) (w := w) (L := []) a (by simp only [starF, if_true]; exact hf) (by simp only [starF, if_true]; omega) h
        rw [show Lnk.starF a S a = S from by simp [starF]] at h1
        exact h1 : Calls Try.prog 19 #[.pointer (some ⟨p, 0, none⟩), .int .i64 a] w fun e w' => ∃ ao cap, e = .returned (.slice ao S.length cap) ∧ At W w' (row 2 1 ao S.length cap ((sortI S).map (Value.int .i64)) :: HP.web p (Lnk.starF a S) k :: []))
      have HOF := Lib.hid hof; clear hof
      by_cases c1 : a = x
      · rw [if_pos (.inl c1)] at hlk
        subst c1
        have T : (a != a) = false := by simp
        have hof2 := fun (w : World) h => HOF.out w (k + 2) S hfS (by omega) h
        rw [hq] at hof2
        have HLK := Lib.hid hlk; clear hlk hli
        have HOF2 := Lib.hid hof2; clear hof2
        have HQ := Lib.hid hq; clear hq
        have T9 : ((q : Int) != (q : Int)) = false := by simp
        go_wp2_with (first
          | (go_at_call 15; with_reducible refine HLK.out.mono ?_; rintro e w3 ⟨rfl, h3⟩)
          | (go_at_call 19; with_reducible refine (HOF2.out _ h3).mono ?_; rintro e w4 ⟨ao2, cap2, rfl, h4⟩))
        go_roundw
        case rel => exact ⟨j + 1, _, q, S, by go_num, by omega, rfl, HQ.out, hq8, haS, hfS, h4.drop⟩
        case measure => simp [intOf]; omega
      have T : (x != a) = true := by simp; exact fun e => c1 e.symm
      by_cases c2 : x ∈ S
      · rw [if_pos (.inr c2)] at hlk
        rw [decide_eq_true c2] at hli
        have hof2 := fun (w : World) h => HOF.out w (k + 2) S hfS (by omega) h
        rw [hq] at hof2
        have HLI := Lib.hid hli; clear hli
        have HLK := Lib.hid hlk; clear hlk
        have HOF2 := Lib.hid hof2; clear hof2
        have HQ := Lib.hid hq; clear hq c1 c2
        have T9 : ((q : Int) != (q : Int)) = false := by simp
        go_wp2_with (first
          | (go_at_call 17; with_reducible refine (HLI.out _ _ hr).mono ?_; rintro e w5 ⟨rfl, rfl⟩)
          | (go_at_call 15; with_reducible refine HLK.out.mono ?_; rintro e w3 ⟨rfl, h3⟩)
          | (go_at_call 19; with_reducible refine (HOF2.out _ h3).mono ?_; rintro e w4 ⟨ao2, cap2, rfl, h4⟩))
        go_roundw
        case rel => exact ⟨j + 1, _, q, S, by go_num, by omega, rfl, HQ.out, hq8, haS, hfS, h4.drop⟩
        case measure => simp [intOf]; omega
      rw [if_neg (by rintro (h | h); exact c1 h; exact c2 h)] at hlk
      rw [decide_eq_false c2] at hli
      by_cases c3 : S.length = 8
      · rw [if_pos c3] at hlk
        have T8 : ((q : Int) == 8) = true := by simp; omega
        have HLI := Lib.hid hli; clear hli
        have HLK := Lib.hid hlk; clear hlk
        have HQ := Lib.hid hq; clear hq c1 c2 c3
        go_wp2_with (first
          | (go_at_call 17; with_reducible refine (HLI.out _ _ hr).mono ?_; rintro e w5 ⟨rfl, rfl⟩)
          | (go_at_call 15; with_reducible refine HLK.out.mono ?_; rintro e w3 ⟨rfl, h3⟩))
        go_roundw
        case rel => exact ⟨j + 1, _, q, S, by go_num, by omega, rfl, HQ.out, hq8, haS, hfS, h3⟩
        case measure => simp [intOf]; omega
      · rw [if_neg c3] at hlk
        have T8 : ((q : Int) == 8) = false := by simp; omega
        have hfS2 : Fits (S ++ [x]) := fun y hy => by
          rcases List.mem_append.1 hy with hy | hy
          · exact hfS y hy
          · simp at hy; subst hy; exact hfx
        have haS2 : a ∉ S ++ [x] := by simp [haS]; exact c1
        have hof2 := fun (w : World) h => HOF.out w (k + 2) (S ++ [x]) hfS2 (by simp; omega) h
        rw [show (S ++ [x]).length = q + 1 from by simp [hq]] at hof2
        have HLI := Lib.hid hli; clear hli
        have HLK := Lib.hid hlk; clear hlk
        have HOF2 := Lib.hid hof2; clear hof2
        have hq9 : q + 1 ≤ 8 := by omega
        have HQ := Lib.hid hq; clear hq c1 c2 c3
        have T9 : (((q : Int) + 1) != ((q : Int) + 1)) = false := by simp
        go_wp2_with (first
          | (go_at_call 17; with_reducible refine (HLI.out _ _ hr).mono ?_; rintro e w5 ⟨rfl, rfl⟩)
          | (go_at_call 15; with_reducible refine HLK.out.mono ?_; rintro e w3 ⟨rfl, h3⟩)
          | (go_at_call 19; with_reducible refine (HOF2.out _ h3).mono ?_; rintro e w4 ⟨ao2, cap2, rfl, h4⟩))
        go_roundw
        case rel => exact ⟨j + 1, _, q + 1, S ++ [x], by go_num, by omega, by go_num, by simp [HQ.out], hq9, haS2, hfS2, h4.drop⟩
        case measure => simp [intOf]; omega
    · go_wp2
      go_returns
      exact ⟨ret_bool (by simp; omega), hr.below⟩
theorem linksFull_walk (W : World) (a : Int) (_wa : (Lit.int .i64 a).wf = true) (l : List Int) (v : Value) (hR : kI64s.R W l [v]) :
    Calls Try.prog 6 #[.int .i64 a, v] W fun e w' => e = .returned (.bool true) ∧ Below W.heap.size W w' := by
  obtain ⟨ao, cap, hv, h1, h2, h3, hi⟩ := hR
  injection hv with hv _
  subst hv
  exact linksFull_any W a l ao l.length cap rfl (by omega) hi
end linksFull
end Go.Proofs.Ytihpcaklknbjiaa
