/-
  The reference's Insert: a number into a rising list, once.
-/
import Derived.Test.YtihpcaklknbjiaaLnkG
namespace Go.Proofs.Ytihpcaklknbjiaa
open Go.RowKit HP
open Go.Proofs.Ytihpcaklknbjiaa.Lnk

namespace Lnk
/-- what is still to come out, d: x is already out -/
def insR (x : Int) : List Int → Bool → List Int
  | [], d => if d then [] else [x]
  | y :: r, d => (if !d && decide (x ≤ y) then [x] else []) ++ ((if y != x then [y] else []) ++ insR x r (d || decide (x ≤ y)))
def insI (l : List Int) (x : Int) : List Int := insR x l false
theorem insR_mem (x z : Int) : ∀ (l : List Int) (d : Bool), z ∈ insR x l d ↔ (z ∈ l ∧ z ≠ x) ∨ (z = x ∧ d = false)
  | [], d => by unfold insR; cases d <;> simp
  | y :: r, d => by
    unfold insR
    rw [List.mem_append, List.mem_append, insR_mem x z r]
    cases d
    · by_cases h1 : x ≤ y
      · by_cases h2 : y = x
        · subst h2; by_cases h4 : z = y <;> simp [h4]
        · simp [h1, h2]; by_cases h3 : z = x
          · subst h3; simp
          · by_cases h4 : z = y
            · subst h4; simp [h2]
            · simp [h3, h4]
      · have h2 : y ≠ x := by omega
        simp [h1, h2]; by_cases h3 : z = x
        · subst h3; simp
        · by_cases h4 : z = y
          · subst h4; simp [h2]
          · simp [h3, h4]
    · by_cases h2 : y = x
      · subst h2; simp; intro h h3; exact absurd h3 h
      · simp [h2]
        by_cases h4 : z = y
        · subst h4; simp [h2]
        · simp [h4]
theorem one_len (b : Bool) (y : Int) : (if b = true then [y] else []).length ≤ 1 := by cases b <;> simp
theorem insR_lenT (x : Int) : ∀ l : List Int, (insR x l true).length ≤ l.length
  | [] => by simp [insR]
  | y :: r => by
    have h1 := insR_lenT x r
    have h2 := one_len (y != x) y
    unfold insR
    simp only [Bool.not_true, Bool.false_and, Bool.true_or, List.length_append, List.length_cons, Bool.false_eq_true, if_false, List.length_nil] at h2 ⊢
    omega
theorem insR_len (x : Int) : ∀ (l : List Int) (d : Bool), (insR x l d).length ≤ l.length + 1
  | [], d => by unfold insR; cases d <;> simp
  | y :: r, d => by
    have h2 := one_len (y != x) y
    cases d with
    | true => have := insR_lenT x (y :: r); omega
    | false =>
      unfold insR
      by_cases h : x ≤ y
      · have h1 := insR_lenT x r
        by_cases h3 : y = x
        · simp [h, h3]; subst h3; omega
        · simp [h, h3]; omega
      · have h1 := insR_len x r false
        simp only [h, decide_false, Bool.or_false, Bool.and_false, List.length_append, List.length_cons, Bool.false_eq_true, if_false, List.length_nil] at h1 ⊢
        omega
theorem insR_rising (x : Int) : ∀ (l : List Int) (d : Bool), l.Pairwise (· < ·) → (d = true → ∀ y ∈ l, x ≤ y) → (insR x l d).Pairwise (· < ·)
  | [], d, _, _ => by unfold insR; cases d <;> simp
  | y :: r, d, h, hd => by
    have hr := (List.pairwise_cons.1 h).2
    have hy := (List.pairwise_cons.1 h).1
    have hT := insR_rising x r true hr
    have hF := insR_rising x r false hr (fun h => by cases h)
    unfold insR
    cases d
    · by_cases h1 : x ≤ y
      · have h3 := hT (fun _ z hz => by have := hy z hz; omega)
        by_cases h2 : y = x
        · subst h2
          simp
          refine ⟨fun z hz => ?_, h3⟩
          rw [insR_mem] at hz
          rcases hz with ⟨h4, h5⟩ | ⟨_, h4⟩
          · exact hy z h4
          · cases h4
        · simp [h1, h2]
          refine ⟨⟨by omega, fun z hz => ?_⟩, fun z hz => ?_, h3⟩ <;>
          · rw [insR_mem] at hz
            rcases hz with ⟨h4, h5⟩ | ⟨_, h4⟩
            · have := hy z h4; omega
            · cases h4
      · have h2 : y ≠ x := by omega
        simp [h1, h2]
        refine ⟨fun z hz => ?_, hF⟩
        rw [insR_mem] at hz
        rcases hz with ⟨h4, h5⟩ | ⟨h4, _⟩
        · exact hy z h4
        · omega
    · have h3 := hT (fun _ z hz => hd rfl z (List.mem_cons_of_mem _ hz))
      by_cases h2 : y = x
      · simp [h2]; exact h3
      · simp [h2]
        refine ⟨fun z hz => ?_, h3⟩
        rw [insR_mem] at hz
        rcases hz with ⟨h4, h5⟩ | ⟨_, h4⟩
        · exact hy z h4
        · cases h4
theorem insI_mem {l : List Int} {x z : Int} : z ∈ insI l x ↔ z ∈ l ∨ z = x := by
  unfold insI
  rw [insR_mem]
  by_cases h : z = x <;> simp [h]
theorem insI_rising {l : List Int} (h : l.Pairwise (· < ·)) (x : Int) : (insI l x).Pairwise (· < ·) := insR_rising x l false h (fun h => by cases h)
theorem insI_len (l : List Int) (x : Int) : (insI l x).length ≤ l.length + 1 := insR_len x l false
end Lnk

def InRel (w : World) (l : List Int) (x : Int) (n : Nat) (s dv i : Value) (wr : World) : Prop :=
  ∃ (j n1 : Nat) (o : List Int) (d : Bool) (ao1 : Option Addr) (cap1 : Nat), i = .int .i64 j ∧ j ≤ n ∧ s = .slice ao1 n1 cap1 ∧ dv = .bool d ∧ o.length = n1 ∧ n1 ≤ 2 * j ∧ o ++ insR x (l.drop j) d = insI l x ∧ At w wr [row 2 1 ao1 n1 cap1 (o.map (Value.int .i64))]

set_option maxHeartbeats 4000000 in
theorem insert_any (l : List Int) (x : Int) (ao : Option Addr) (n cap : Nat) (hn : l.length = n) (hm : n ≤ 100000) (w : World) (hrd : Rd w ao (l.map (Value.int .i64))) :
    Calls Try.prog 23 #[.slice ao n cap, .int .i64 x] w fun e w' => ∃ ao2 cap2, e = .returned (.slice ao2 (insI l x).length cap2) ∧ At w w' [row 2 1 ao2 (insI l x).length cap2 ((insI l x).map (Value.int .i64))] := by
  have hA := (At.start w).row_nil 2 1
  have HN := Lib.hid hn; clear hn
  go_enter Try.func23, Try.ntmps23
  go_wp2
  go_loopw [5, 6, 7] (fun s d i wr => InRel w l x n s d i wr) (fun _ _ i _ => n - (intOf i).toNat)
  case atStart => exact ⟨0, 0, [], false, none, 0, rfl, Nat.zero_le _, rfl, rfl, rfl, Nat.zero_le _, rfl, hA⟩
  case round =>
    clear hA
    obtain ⟨j, n1, o, d, ao1, cap1, rfl, hj, rfl, rfl, ho, hn1, he, hr⟩ := hrel
    have HO := Lib.hid ho; clear ho
    by_cases hlt : j < n
    · have hjl : j < l.length := by rw [HN.out]; exact hlt
      obtain ⟨b, off, rfl, hc⟩ := hrd.some_ (by simp; omega)
      have d0 := hc j (.int .i64 l[j]) (by simp [hjl])
      have hdr := List.drop_eq_getElem_cons hjl
      clear hc
      generalize l[j] = y at *
      clear hjl
      rw [hdr] at he
      unfold insR at he
      clear hdr
      have d1 := hr.oldCell d0
      cases d with
      | true =>
        by_cases h2 : y = x
        · have T2 : (y != x) = false := by simp [h2]
          simp only [Bool.not_true, Bool.false_and, Bool.true_or, T2, Bool.false_eq_true, if_false, List.nil_append] at he
          have HE := Lib.hid he; clear he
          clear h2
          go_wp2
          go_roundw
          case rel => exact ⟨j + 1, n1, o, true, _, _, by go_num, by omega, rfl, rfl, HO.out, by omega, HE.out, hr⟩
          case measure => simp [intOf]; omega
        · have T2 : (y != x) = true := by simp [h2]
          simp only [Bool.not_true, Bool.false_and, Bool.true_or, T2, Bool.false_eq_true, if_false, if_true, List.nil_append] at he
          have HE := Lib.hid he; clear he
          clear h2
          go_wp2_with (at_builtin; refine wpList_append1 hr rfl (.tmp 34) (.tmp 39) 34 rfl (.int .i64 0) 8 under_i64s info_i64 rfl (by decide) rfl rfl rfl rfl (by omega) ?_; intro ao6 cap6 w7 hC)
          go_roundw
          case rel => exact ⟨j + 1, n1 + 1, o ++ [y], true, _, _, by go_num, by omega, rfl, rfl, by simp [HO.out], by omega, by rw [List.append_assoc]; exact HE.out, by rw [List.map_append]; exact hC⟩
          case measure => simp [intOf]; omega
      | false =>
        by_cases h1 : x ≤ y
        · by_cases h2 : y = x
          · have T2 : (y != x) = false := by simp [h2]
            simp only [Bool.not_false, Bool.true_and, Bool.false_or, T2, h1, decide_true, Bool.false_eq_true, if_false, if_true, List.nil_append] at he
            have HE := Lib.hid he; clear he
            clear h2
            go_wp2_with (at_builtin; refine wpList_append1 hr rfl (.tmp 24) (.tmp 26) 34 rfl (.int .i64 0) 8 under_i64s info_i64 rfl (by decide) rfl rfl rfl rfl (by omega) ?_; intro ao5 cap5 w6 hB; have d2 := hB.oldCell d0)
            go_roundw
            case rel => exact ⟨j + 1, n1 + 1, o ++ [x], true, _, _, by go_num, by omega, rfl, rfl, by simp [HO.out], by omega, by rw [List.append_assoc]; exact HE.out, by rw [List.map_append]; exact hB⟩
            case measure => simp [intOf]; omega
          · have T2 : (y != x) = true := by simp [h2]
            simp only [Bool.not_false, Bool.true_and, Bool.false_or, T2, h1, decide_true, if_true] at he
            have HE := Lib.hid he; clear he
            clear h2
            go_wp2_with (first
              | (at_builtin; refine wpList_append1 hr rfl (.tmp 24) (.tmp 26) 34 rfl (.int .i64 0) 8 under_i64s info_i64 rfl (by decide) rfl rfl rfl rfl (by omega) ?_; intro ao5 cap5 w6 hB; have d2 := hB.oldCell d0)
              | (at_builtin; refine wpList_append1 hB rfl (.tmp 34) (.tmp 39) 34 rfl (.int .i64 0) 8 under_i64s info_i64 rfl (by decide) rfl rfl rfl rfl (by omega) ?_; intro ao6 cap6 w7 hC))
            go_roundw
            case rel => exact ⟨j + 1, n1 + 1 + 1, o ++ [x] ++ [y], true, _, _, by go_num, by omega, rfl, rfl, by simp [HO.out], by omega, by rw [List.append_assoc, List.append_assoc]; exact HE.out, by rw [List.map_append, List.map_append]; exact hC⟩
            case measure => simp [intOf]; omega
        · have T2 : (y != x) = true := by simp; omega
          simp only [Bool.not_false, Bool.true_and, Bool.false_or, T2, h1, decide_false, Bool.false_eq_true, if_false, if_true, List.nil_append] at he
          have HE := Lib.hid he; clear he
          go_wp2_with (at_builtin; refine wpList_append1 hr rfl (.tmp 34) (.tmp 39) 34 rfl (.int .i64 0) 8 under_i64s info_i64 rfl (by decide) rfl rfl rfl rfl (by omega) ?_; intro ao6 cap6 w7 hC)
          go_roundw
          case rel => exact ⟨j + 1, n1 + 1, o ++ [y], false, _, _, by go_num, by omega, rfl, rfl, by simp [HO.out], by omega, by rw [List.append_assoc]; exact HE.out, by rw [List.map_append]; exact hC⟩
          case measure => simp [intOf]; omega
    · obtain rfl : j = n := by omega
      rw [List.drop_of_length_le (by rw [HN.out]; exact Nat.le_refl _)] at he
      have HE := Lib.hid he; clear he
      cases d with
      | true =>
        go_wp2
        go_returns
        have e : o = insI l x := by have := HE.out; simpa [insR] using this
        rw [← e, HO.out]
        exact ⟨_, _, rfl, hr⟩
      | false =>
        go_wp2_with (at_builtin; refine wpList_append1 hr rfl (.tmp 43) (.tmp 45) 34 rfl (.int .i64 0) 8 under_i64s info_i64 rfl (by decide) rfl rfl rfl rfl (by omega) ?_; intro ao6 cap6 w7 hC)
        go_returns
        have e : o ++ [x] = insI l x := by have := HE.out; simpa [insR] using this
        rw [← e, show (o ++ [x]).length = n1 + 1 by simp [HO.out]]
        exact ⟨_, _, rfl, by rw [List.map_append]; exact hC⟩
end Go.Proofs.Ytihpcaklknbjiaa
