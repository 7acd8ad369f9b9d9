/-
  The plain law of MailOrder: a mailbox of numbered messages, some taken.
-/
import Derived.Test.YtpilkneicakohaaMailFns
namespace Go.Proofs.Ytpilkneicakohaa
namespace Mail
/-- message number j + 1 -/
def msg (ts : List Int) (j : Nat) : M := (ts.getD j 0, (j : Int) + 1)
/-- those that are there: rising places below n -/
structure Js (n : Nat) (js : List Nat) : Prop where
  up : js.Pairwise (· < ·)
  lt : ∀ j ∈ js, j < n
/-- which of 1 .. n are out (0 is not) -/
def outs (n : Nat) (js : List Nat) : List Bool := (List.range (n + 1)).map fun i => decide (1 ≤ i ∧ i - 1 ∉ js)
theorem outs_len (n : Nat) (js : List Nat) : (outs n js).length = n + 1 := by simp [outs]
theorem outs_get (n : Nat) (js : List Nat) (i : Nat) (h : i < n + 1) : (outs n js)[i]? = some (decide (1 ≤ i ∧ i - 1 ∉ js)) := by
  simp [outs, h]
theorem js_range (n : Nat) : Js n (List.range n) := ⟨List.pairwise_lt_range, fun j h => by simpa using h⟩
theorem js_len {n : Nat} {js : List Nat} (h : Js n js) : js.length ≤ n := by
  have : js.length ≤ (List.range n).length := by
    apply List.Nodup.length_le_of_subset
    · exact h.up.imp (fun hlt => Nat.ne_of_lt hlt)
    · intro j hj; simpa using h.lt j hj
  simpa using this
theorem outs_none (n : Nat) : outs n (List.range n) = List.replicate (n + 1) false := by
  apply List.ext_getElem
  · simp [outs]
  · intro i h1 h2
    simp [outs]
    intro hi
    simp [outs] at h1
    omega

/-- what the walk from n down to 1 finds, having come down to j -/
def Fst (Q : Nat → Bool) (n j first : Nat) : Prop := (first = 0 ∧ ∀ i, j < i → i ≤ n → Q i = false) ∨ (j < first ∧ first ≤ n ∧ Q first = true ∧ ∀ i, j < i → i < first → Q i = false)
theorem fst_start (Q : Nat → Bool) (n : Nat) : Fst Q n n 0 := .inl ⟨rfl, fun i h1 h2 => by omega⟩
theorem fst_yes {Q : Nat → Bool} {n j first : Nat} (_h : Fst Q n (j + 1) first) (hj : j + 1 ≤ n) (hq : Q (j + 1) = true) : Fst Q n j (j + 1) :=
  .inr ⟨by omega, hj, hq, fun i h1 h2 => by omega⟩
theorem fst_no {Q : Nat → Bool} {n j first : Nat} (h : Fst Q n (j + 1) first) (hq : Q (j + 1) = false) : Fst Q n j first := by
  have each : ∀ i, j < i → (j + 1 < i → Q i = false) → Q i = false := fun i h1 h2 => by
    by_cases e : i = j + 1
    · subst e; exact hq
    · exact h2 (by omega)
  rcases h with ⟨h1, h2⟩ | ⟨h1, h2, h3, h4⟩
  · exact .inl ⟨h1, fun i a b => each i a (fun c => h2 i c b)⟩
  · exact .inr ⟨by omega, h2, h3, fun i a b => each i a (fun c => h4 i c b)⟩

/-- is message number i there, with one of these tags? -/
def hit (ts ch : List Int) (js : List Nat) (i : Nat) : Bool := decide (1 ≤ i ∧ i - 1 ∈ js) && has ch (ts.getD (i - 1) 0)

theorem find_js (ts ch : List Int) : ∀ (js : List Nat) (b : Nat), js.Pairwise (· < ·) →
    ((find ch (js.map (msg ts)) b).2 = false ∧ (∀ j ∈ js, has ch (ts.getD j 0) = false)) ∨
    (∃ k, ∃ h : k < js.length, find ch (js.map (msg ts)) b = (((b + k : Nat) : Int), true) ∧ has ch (ts.getD js[k] 0) = true ∧ ∀ j ∈ js, j < js[k] → has ch (ts.getD j 0) = false)
  | [], b, _ => .inl ⟨rfl, fun j h => by simp at h⟩
  | x :: r, b, hp => by
    have hp' := List.pairwise_cons.1 hp
    simp only [List.map_cons, find, msg]
    cases hx : has ch (ts.getD x 0) with
    | true =>
      refine .inr ⟨0, by simp, by simp, by simpa using hx, fun j hj hlt => ?_⟩
      simp only [List.getElem_cons_zero] at hlt
      rcases List.mem_cons.1 hj with rfl | hj
      · omega
      · have := hp'.1 j hj; omega
    | false =>
      simp only [Bool.false_eq_true, if_false]
      rcases find_js ts ch r (b + 1) hp'.2 with ⟨h1, h2⟩ | ⟨k, hk, h1, h2, h3⟩
      · refine .inl ⟨h1, fun j hj => ?_⟩
        rcases List.mem_cons.1 hj with rfl | hj
        · exact hx
        · exact h2 j hj
      · refine .inr ⟨k + 1, by simp; omega, ?_, by simpa using h2, fun j hj hlt => ?_⟩
        · rw [h1]
          congr 2
          omega
        · rcases List.mem_cons.1 hj with rfl | hj
          · exact hx
          · exact h3 j hj (by simpa using hlt)

/-- what Find finds is what the walk finds -/
theorem find_fst {ts ch : List Int} {n first : Nat} {js : List Nat} (hj : Js n js) (hf : Fst (hit ts ch js) n 0 first) :
    (first = 0 ∧ (find ch (js.map (msg ts)) 0).2 = false) ∨
    (0 < first ∧ first ≤ n ∧ ∃ k, ∃ h : k < js.length, find ch (js.map (msg ts)) 0 = ((k : Int), true) ∧ js[k] + 1 = first) := by
  rcases find_js ts ch js 0 hj.up with ⟨h1, h2⟩ | ⟨k, hk, h1, h2, h3⟩
  · rcases hf with ⟨f1, _⟩ | ⟨f1, f2, f3, _⟩
    · exact .inl ⟨f1, h1⟩
    · simp only [hit, Bool.and_eq_true, decide_eq_true_eq] at f3
      rw [h2 _ f3.1.2] at f3
      simp at f3
  · have hm : js[k] ∈ js := List.getElem_mem hk
    have hq : hit ts ch js (js[k] + 1) = true := by simp [hit, hm]; simpa using h2
    have hn := hj.lt _ hm
    rcases hf with ⟨_, f2⟩ | ⟨f1, f2, f3, f4⟩
    · rw [f2 _ (by omega) (by omega)] at hq; simp at hq
    · refine .inr ⟨f1, f2, k, hk, by rw [h1]; simp, ?_⟩
      simp only [hit, Bool.and_eq_true, decide_eq_true_eq] at f3
      rcases Nat.lt_trichotomy (js[k] + 1) first with h | h | h
      · rw [f4 _ (by omega) h] at hq; simp at hq
      · exact h
      · have := h3 (first - 1) f3.1.2 (by omega)
        rw [this] at f3
        simp at f3

theorem js_erase {n : Nat} {js : List Nat} (h : Js n js) (k : Nat) : Js n (js.take k ++ js.drop (k + 1)) := by
  rw [← List.eraseIdx_eq_take_drop_succ]
  exact ⟨h.up.sublist (List.eraseIdx_sublist _ _), fun j hj => h.lt j (List.mem_of_mem_eraseIdx hj)⟩
theorem take_msg (ts : List Int) (js : List Nat) (k : Nat) (hk : k < js.length) : take (js.map (msg ts)) k = (js.take k ++ js.drop (k + 1)).map (msg ts) := by
  rw [take, if_pos (by simp; omega)]
  simp
theorem at_msg (ts : List Int) (js : List Nat) (k : Nat) (hk : k < js.length) : at_ (js.map (msg ts)) k = (msg ts js[k], true) := by
  rw [at_, if_pos (by simp; omega)]
  simp [hk]
theorem mem_erase {n : Nat} {js : List Nat} (h : Js n js) (k : Nat) (hk : k < js.length) (j : Nat) : j ∈ js.take k ++ js.drop (k + 1) ↔ j ∈ js ∧ j ≠ js[k] := by
  have hnd : js.Nodup := h.up.imp (fun hlt => Nat.ne_of_lt hlt)
  rw [← List.eraseIdx_eq_take_drop_succ, List.mem_eraseIdx_iff_getElem]
  constructor
  · rintro ⟨i, hi, hne, rfl⟩
    exact ⟨List.getElem_mem hi, fun e => hne ((List.getElem_inj hnd).1 e)⟩
  · rintro ⟨hm, hne⟩
    obtain ⟨i, hi, rfl⟩ := List.getElem_of_mem hm
    exact ⟨i, hi, fun e => hne (by subst e; rfl), rfl⟩
theorem outs_set {n : Nat} {js : List Nat} (h : Js n js) (k : Nat) (hk : k < js.length) : (outs n js).set (js[k] + 1) true = outs n (js.take k ++ js.drop (k + 1)) := by
  apply List.ext_getElem?
  intro i
  have hlt := h.lt _ (List.getElem_mem hk)
  by_cases hi : i < n + 1
  · rw [List.getElem?_set, outs_get n _ i hi, outs_get n _ i hi, outs_len]
    by_cases e : js[k] + 1 = i
    · rw [if_pos e, if_pos (by omega)]
      congr 1
      symm
      rw [decide_eq_true_eq]
      refine ⟨by omega, fun hm => ?_⟩
      have := (mem_erase h k hk _).1 hm
      omega
    · rw [if_neg e]
      congr 1
      rw [decide_eq_decide]
      have := mem_erase h k hk (i - 1)
      constructor
      · rintro ⟨h1, h2⟩; exact ⟨h1, fun hm => h2 (this.1 hm).1⟩
      · rintro ⟨h1, h2⟩; exact ⟨h1, fun hm => h2 (this.2 ⟨hm, by omega⟩)⟩
  · rw [List.getElem?_eq_none (by simp [outs]; omega), List.getElem?_eq_none (by simp [outs]; omega)]
end Mail
end Go.Proofs.Ytpilkneicakohaa
