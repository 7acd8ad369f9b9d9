/-
  The contracts of the heap at int: New, ahead, Put.
-/
import Derived.Test.YtfooejfnlggncaaHeapTv
import Derived.Test.YtfooejfnlggncaaSet
import Derived.Test.YtfooejfnlggncaaChecked
import Derived.Deep.QuietTactic
import Derived.BigQuiet
import Derived.BigRegion
import Derived.Deep.RegionHeld3
import Derived.IntWalk
namespace Go.Proofs.Ytfooejfnlggncaa
open Go.RowKit HP
open Heap (Th)
namespace HI

abbrev enc : Int → Value := Value.int .i64
theorem info_th : (Try.prog.info? 64).map (fun i => (i.zero, i.size, i.bytes)) = some (some (.agg #[.int .i64 0, .int .i64 0, .int .i64 0]), 3, 24) := by kernel_rfl
theorem under_ths : Try.prog.underlying 60 = some (.slice 64) := by kernel_rfl
theorem one (l : List (Th Int)) : ∀ u ∈ tvs enc l, u.oneCell' = true := tvs_one enc (fun _ => rfl) l

/-- The heap's memory: the array, the set of tickets, the last ticket. -/
def Raw (p : Nat) (l : List (Th Int)) (S : List Int) (n : Int) : HP := ex fun ao => ex fun cap => ex fun mb =>
  sep [HP.one p (.cells #[.slice ao l.length cap, .map (some mb), .int .i64 n] 62 (0, 0)), row 64 3 ao l.length cap (tvs enc l), HP.set mb S]

section
variable {w0 w : World} {L : List HP} {p : Nat} {l : List (Th Int)} {S : List Int} {n : Int}
theorem Raw.op (h : At w0 w (Raw p l S n :: L)) : ∃ ao cap mb, At w0 w (HP.one p (.cells #[.slice ao l.length cap, .map (some mb), .int .i64 n] 62 (0, 0)) :: row 64 3 ao l.length cap (tvs enc l) :: HP.set mb S :: L) := by
  obtain ⟨ao, h⟩ := h.ex
  obtain ⟨cap, h⟩ := h.ex
  obtain ⟨mb, h⟩ := h.ex
  exact ⟨ao, cap, mb, h.sep⟩
theorem Raw.cl {ao : Option Addr} {k cap mb : Nat} (hk : l.length = k) (h : At w0 w (HP.one p (.cells #[.slice ao k cap, .map (some mb), .int .i64 n] 62 (0, 0)) :: row 64 3 ao k cap (tvs enc l) :: HP.set mb S :: L)) : At w0 w (Raw p l S n :: L) := by
  subst hk
  exact At.ex_mk ao (At.ex_mk cap (At.ex_mk mb (At.sep_mk h)))

theorem new_raw (hA : At w0 w L) :
    Calls Try.prog 11 #[] w fun e w' => ∃ p, e = .returned (.pointer (some ⟨p, 0, none⟩)) ∧ At w0 w' (Raw p [] [] 0 :: L) := by
  have hmm := @run_makeMap Try.prog
  go_enter Try.func11, Try.ntmps11
  go_wp2
  go_returns
  have h1 := hA.set_new
  have h2 := h1.alloc (.cells #[.slice none 0 0, .map (some w.heap.size), .int .i64 0] 62)
  rw [World.size_alloc] at h2
  exact ⟨_, rfl, Raw.cl (l := []) rfl (h2.pick2' fun h => h.row_nil _ 3)⟩

theorem ahead_any (t u : Th Int) (hA : At w0 w L) :
    Calls Try.prog 32 #[.agg #[.int .i64 t.1, .int .i64 t.2.1, enc t.2.2], .agg #[.int .i64 u.1, .int .i64 u.2.1, enc u.2.2]] w fun e w' => e = .returned (.bool (decide (Heap.lt t u))) ∧ At w0 w' L := by
  obtain ⟨t1, t2, t3⟩ := t
  obtain ⟨u1, u2, u3⟩ := u
  have hB := (hA.alloc (.cells #[.int .i64 t1, .int .i64 t2, enc t3] 64)).alloc (.cells #[.int .i64 u1, .int .i64 u2, enc u3] 64)
  by_cases he : t1 = u1
  · subst he
    have hd : decide (Heap.lt (t1, t2, t3) (t1, u2, u3)) = decide (t2 < u2) := by rw [decide_eq_decide]; simp [Heap.lt]
    rw [hd]
    clear hd
    go_enter Try.func32, Try.ntmps32
    go_wp2
    go_returns
    exact ⟨rfl, hB.drop.drop⟩
  · have e1 : (t1 != u1) = true := by simp [he]
    have hd : decide (Heap.lt (t1, t2, t3) (u1, u2, u3)) = decide (t1 < u1) := by rw [decide_eq_decide]; simp [Heap.lt, he]
    rw [hd]
    clear hd
    have HE := Lib.hid he; clear he
    go_enter Try.func32, Try.ntmps32
    go_wp2
    go_returns
    exact ⟨rfl, hB.drop.drop⟩
end
end HI
end Go.Proofs.Ytfooejfnlggncaa
