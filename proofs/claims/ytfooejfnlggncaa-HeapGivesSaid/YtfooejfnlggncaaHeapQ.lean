/-
  The law HeapGives.
-/
import Derived.Test.YtfooejfnlggncaaHeapJ
import Derived.Test.YtfooejfnlggncaaHeapT
import Derived.Test.YtfooejfnlggncaaLib4
namespace Go.Proofs.Ytfooejfnlggncaa
open Go.RowKit HP
open Heap (Th)
open HI (Hc enc)
attribute [local go_sem] Oper.semAt_some

theorem info_i64 : (Try.prog.info? 2).map (fun i => (i.zero, i.size, i.bytes)) = some (some (.int .i64 0), 1, 8) := by kernel_rfl
theorem under_i64s : Try.prog.underlying 22 = some (.slice 2) := by kernel_rfl
theorem info_int : (Try.prog.info? 3).map (fun i => (i.zero, i.size, i.bytes)) = some (some (.int .i64 0), 1, 8) := by kernel_rfl
theorem under_ints : Try.prog.underlying 23 = some (.slice 3) := by kernel_rfl
theorem tick_at {w : World} {ao : Option Addr} {l : List OpD} (h : Kn.At_ kOp w ao l) (k : Nat) (hk : k < l.length) : l[k].2.1 ≤ 9223372036854775807 := by
  rcases h with rfl | ⟨b, off, rfl, h⟩
  · simp at hk
  · obtain ⟨cs, hR, hc⟩ := h k _ (List.getElem?_eq_getElem hk)
    obtain ⟨c1, _, rfl, ⟨rfl, h1⟩, c2, _, rfl, ⟨rfl, h2⟩, c3, _, rfl, ⟨rfl, _⟩, rfl⟩ := hR
    exact (wf_i64 h2).2

def Max (A : List (Th Int)) : Prop := ∀ t ∈ A, t.1 ≤ 9223372036854775807
theorem Max.ins {A : List (Th Int)} (h : Max A) (k n x : Int) (hk : k ≤ 9223372036854775807) : Max (Heap.ins (k, n, x) A) := by
  intro t ht
  rcases List.mem_cons.1 ((Heap.ins_perm _ A).mem_iff.1 ht) with rfl | ht
  · exact hk
  · exact h t ht
theorem Max.cancel {A : List (Th Int)} (h : Max A) (k : Int) : Max (Heap.cancel k A) := fun t ht => h t (List.mem_filter.1 ht).1

def GvRel (w0 : World) (p lb len : Nat) (lv : Int) (i : Value) (wr : World) : Prop :=
  ∃ (k N : Nat) (A : List (Th Int)), i = .int .i64 k ∧ k ≤ len ∧ N ≤ k ∧ A.length ≤ k ∧ Max A ∧ At w0 wr [Hc p N A, HP.one lb (.cells #[.int .i64 lv] 3 (0, 0))]

/-- what the loop over the iterator has collected -/
def ColAt (w W : World) (p : Option Addr) (pre : List (Int × Int)) : Prop :=
  ∃ a1 c1 a2 c2, At w W [row 2 1 a1 pre.length c1 (pre.map fun x => .int .i64 x.1), HP.one w.heap.size (.cells #[.slice a1 pre.length c1] 22 (0, 0)), row 3 1 a2 pre.length c2 (pre.map fun x => .int .i64 x.2), HP.one (w.heap.size + 1) (.cells #[.slice a2 pre.length c2] 23 (0, 0)), HP.one (w.heap.size + 1 + 1) (.cells #[.pointer p] 25 (0, 0))]
theorem ColAt.turn {w X Y : World} {p : Option Addr} {pre : List (Int × Int)} {row' : Option Nat} {B : Nat} (hB : w.heap.size ≤ B) (h : ColAt w X p pre) (hg : X.grownBy Y row') (hr : ∀ r, row' = some r → B ≤ r ∧ ∃ o : Obj, X.heap[r]? = some o ∧ o.isCells = false) : ColAt w Y p pre := by
  obtain ⟨a1, c1, a2, c2, hA⟩ := h
  refine ⟨a1, c1, a2, c2, hA.turn ?_ hg (fun r e => ⟨Nat.le_trans hB (hr r e).1, (hr r e).2⟩)⟩
  intro Q hQ
  simp only [List.mem_cons, List.not_mem_nil, or_false] at hQ
  rcases hQ with rfl | rfl | rfl | rfl | rfl
  · exact HP.Cells.row _ _ _ _ _ _
  · exact HP.Cells.one _ _ _ _
  · exact HP.Cells.row _ _ _ _ _ _
  all_goals exact HP.Cells.one _ _ _ _
theorem permC (a b c d e : HP) : [b, a, e, d, c].Perm [a, c, b, d, e] := by
  refine (List.Perm.swap a b _).trans (.cons a ?_)
  exact (List.perm_append_comm (l₁ := [b, e, d]) (l₂ := [c])).trans (.cons c (.cons b (.swap d e [])))
theorem permD (a b c d e : HP) : [a, b, c, d, e].Perm [d, c, b, a, e] := (List.reverse_perm [a, b, c, d]).symm.append_right [e]
def ColI (w : World) (p : Option Addr) (lv : Int) (pre : List (Int × Int)) (W : World) : Prop :=
  ColAt w W p pre ∧ ∀ j : Nat, 1 ≤ j → j ≤ pre.length → (j : Int) ≠ lv
def ColIx (w : World) (p : Option Addr) (lv : Int) (c : Code) (pre : List (Int × Int)) (W : World) : Prop :=
  ColAt w W p pre ∧ (pre.length : Int) = lv ∧ c = .exit 2

/-- the body's two appends keep what a round keeps -/
def KeepsTh (W W' : World) : Prop := KeepsOthers W W' ∧ ∀ (k : Nat) (cs : Array Value) (f : Nat × Nat), W.heap[k]? = some (.cells cs 64 f) → W'.heap[k]? = some (.cells cs 64 f)
theorem KeepsTag.th {e : TypeId} {W W' : World} (h : KeepsTag e W W') (he : e ≠ 64) : KeepsTh W W' := ⟨h.others, fun k cs f hk => h.same k _ hk (fun cs' f' e' => by cases e'; exact he rfl)⟩
theorem KeepsTh.trans {A B C : World} (h : KeepsTh A B) (k : KeepsTh B C) : KeepsTh A C := ⟨h.1.trans k.1, fun i cs f e => k.2 i cs f (h.2 i cs f e)⟩

/-- a block that holds no cells is a piece beside pieces of cells -/
theorem At.grab {w0 w : World} {M : List HP} {D : Nat} {o : Obj} (hA : At w0 w M) (hM : ∀ Q ∈ M, HP.Cells Q) (hD : w0.heap.size ≤ D) (h : w.heap[D]? = some o) (ho : o.isCells = false) : At w0 w (HP.one D o :: M) := by
  obtain ⟨h1, f, h2, h3⟩ := hA
  have hfD : f D = none := by
    cases e : f D with
    | none => rfl
    | some o' =>
      have := (h3 D o' e).2
      rw [h] at this; cases this
      rw [HP.Cells.sep M hM f h2 D _ e] at ho
      cases ho
  refine ⟨h1, fun k => if k = D then some o else f k, ⟨fun k => if k = D then some o else none, f, ⟨by simp, fun k hk => by simp [hk]⟩, h2, fun k => ?_, fun k => ?_⟩, fun k o' e => ?_⟩
  · by_cases hk : k = D
    · subst hk; exact .inr hfD
    · exact .inl (by simp [hk])
  · by_cases hk : k = D <;> simp [hk]
  · by_cases hk : k = D
    · subst hk; simp at e; subst e; exact ⟨hD, h⟩
    · simp [hk] at e; exact h3 k o' e
theorem permE (t a x b h H l d : HP) : [d, t, a, x, b, h, H, l].Perm [H, a, b, t, x, l, h, d] := by
  have e : [d, t, a, x, b, h, H, l].Perm [H, d, t, a, x, b, h, l] := by
    have := (List.perm_append_comm (l₁ := [d, t, a, x, b, h]) (l₂ := [H])).append_right [l]
    exact this
  refine e.trans (.cons H ?_)
  refine (List.perm_append_comm (l₁ := [d, t]) (l₂ := [a, x, b, h, l])).trans (.cons a ?_)
  refine (List.Perm.swap b x _).trans (.cons b ?_)
  -- [x, h, l, d, t] ~ [t, x, l, h, d]
  refine (List.perm_append_comm (l₁ := [x, h, l, d]) (l₂ := [t])).trans (.cons t (.cons x ?_))
  exact (List.Perm.swap l h _)
theorem prefix_take {α : Type} {pre l : List α} (h : pre <+: l) : pre = l.take pre.length := by
  obtain ⟨r, rfl⟩ := h; simp

/-- the loop that pops -/
def GvRel2 (w0 : World) (p N : Nat) (A : List (Th Int)) (j : Nat) (lv : Int) (sz lb D : Nat) (a1 : Option Addr) (c1 : Nat) (a2 : Option Addr) (c2 : Nat) (i : Value) (W : World) : Prop :=
  ∃ k : Nat, i = .int .i64 k ∧ k ≤ j ∧ At w0 W [Hc p N (A.drop k), HP.one sz (.cells #[.slice a1 j c1] 22 (0, 0)), HP.one (sz + 1) (.cells #[.slice a2 j c2] 23 (0, 0)), row 2 1 a1 j c1 ((come (A.take j)).map fun x => .int .i64 x.1), row 3 1 a2 j c2 ((come (A.take j)).map fun x => .int .i64 x.2),
    HP.one lb (.cells #[.int .i64 lv] 3 (0, 0)), HP.one (sz + 1 + 1) (.cells #[.pointer (some ⟨p, 0, none⟩)] 25 (0, 0)), HP.one D (.deferred (some []))]

set_option maxHeartbeats 16000000 in
set_option maxRecDepth 100000 in
theorem heapGives_in (l : List OpD) (ao : Option Addr) (cap : Nat) (hc : l.length ≤ cap) (hm : cap ≤ maxLen) (h0 : ao = none → cap = 0) (lv : Int) (w : World) (hrd : Kn.At_ kOp w ao l) :
    CallsIn Fence.wide 4 Try.prog 8 #[.slice ao l.length cap, .int .i64 lv] w fun e w' => e = .returned (.bool true) ∧ Below w.heap.size w w' := by
  obtain ⟨W0, hW⟩ : ∃ W0, W0 = w := ⟨_, rfl⟩
  have hA : At W0 w [] := hW ▸ At.start w
  have hrd0 : Kn.At_ kOp W0 ao l := hW ▸ hrd
  clear hrd
  have HW := Lib.hid hW; clear hW
  have hea := fun w => early_any ao l.length cap hc hm h0 w
  obtain ⟨m, hmm⟩ : ∃ m, m = min l.length 3000 := ⟨_, rfl⟩
  rw [← hmm] at hea
  have hm3 : m ≤ 3000 := by omega
  have hml : m ≤ l.length := by omega
  have HEA := Lib.hid hea; clear hea hmm
  unfold maxLen at hm
  clear h0
  have hA0 := hA.alloc (.cells #[.int .i64 lv] 3)
  refine callsIn_of_wp_marks Try.func8 rfl trivial ?_ rfl
  simp only [Try.ntmps8, List.size_toArray, List.length_cons, List.length_nil, Nat.reduceAdd, Nat.reduceSub, Array.replicate_succ, Array.replicate_zero, List.push_toArray, List.append_toArray, List.nil_append, List.cons_append]
  refine wpIn_wide.2 ?_
  go_wp2_with (first
    | (go_at_call 10; refine (lives_any hA0).mono ?_; rintro e w1 ⟨rfl, hA1⟩)
    | (go_at_call 17; refine (HEA.out _).mono ?_; rintro e w2 ⟨rfl, rfl⟩)
    | (go_at_call 11; refine (HI.new_any hA1).mono ?_; rintro e w2 ⟨p, rfl, hA2⟩))
  obtain ⟨lb, hlb⟩ : ∃ lb, lb = w.heap.size := ⟨_, rfl⟩
  rw [← hlb] at hA2 ⊢
  clear hlb
  go_loopw [6] (fun i wr => GvRel W0 p lb m lv i wr) (fun i _ => m - (intOf i).toNat)
  case atStart => exact ⟨0, 0, [], rfl, by omega, by omega, by simp, by simp [Max], hA2⟩
  case round =>
    clear hA2 hA1 hA0 hA
    obtain ⟨k, N, A, rfl, hk, hN, hAk, hmx, hr⟩ := hrel
    by_cases hlt : k < m
    · obtain ⟨g, off, rfl, k0, k1, k2, hkd⟩ := op_at hrd0 k (by omega)
      have htk := tick_at hrd0 k (by omega)
      have hks : k < l.length := by omega
      generalize l[k] = o at *
      obtain ⟨kd, tk, x, _⟩ := o
      simp only at k0 k1 k2 hkd htk
      have d0 := hr.oldCell k0
      have d1 := hr.oldCell k1
      have d2 := hr.oldCell k2
      obtain ⟨qq, hq⟩ : ∃ q, q = kd % 4 := ⟨_, rfl⟩
      have hki := kind_any kd tk x qq hq.symm hr
      have HKI := Lib.hid hki; clear hki hq hkd
      have HMX := Lib.hid hmx; clear hmx
      by_cases hq1 : qq = 1
      · subst hq1
        have hpa := fun w hA => HI.cancel_any (w0 := W0) (w := w) (L := [HP.one lb (.cells #[.int .i64 lv] 3 (0, 0))]) (p := p) (N := N) (A := A) x (by omega) hA
        have hcl : (Heap.cancel x A).length ≤ A.length := List.length_filter_le _ _
        have HMX2 := Lib.hid (HMX.out.cancel x)
        generalize Heap.cancel x A = C at *
        generalize Heap.hasT x A = bb at *
        have HPA := Lib.hid hpa; clear hpa
        go_wp2_with (first
          | (go_at_call 19; refine HKI.out.mono ?_; rintro e w4 ⟨rfl, hD⟩; have e2 := hD.oldCell k2)
          | (go_at_call 13; refine (HPA.out _ hD).mono ?_; rintro e w5 ⟨rfl, hE⟩))
        go_roundw
        case rel => exact ⟨k + 1, N, C, by go_num, by omega, by omega, by omega, HMX2.out, hE⟩
        case measure => simp [intOf]; omega
      · have T : (qq == 1) = false := by simp [hq1]
        have HQ1 := Lib.hid hq1; clear hq1
        have hpa := fun w hA => HI.put_any (w0 := W0) (w := w) (L := [HP.one lb (.cells #[.int .i64 lv] 3 (0, 0))]) (p := p) (N := N) (A := A) tk x (by omega) hA
        have hil := Heap.ins_len (tk, (N : Int) + 1, x) A
        have HMX2 := Lib.hid (HMX.out.ins tk ((N : Int) + 1) x htk)
        generalize Heap.ins (tk, (N : Int) + 1, x) A = C at *
        have hlc : C.length ≤ k + 1 := by omega
        have HPA := Lib.hid hpa; clear hpa hil
        have i1 : (0 : Int) ≤ (k : Int) := by omega
        have i2 : (k : Int) < (m : Int) := by omega
        go_wp2_with (first
          | (go_at_call 19; refine HKI.out.mono ?_; rintro e w4 ⟨rfl, hD⟩; have e1 := hD.oldCell k1; have e2 := hD.oldCell k2))
        go_region_held3 (fun w' => w'.cell? ⟨g, off + k * 3 + 1, none⟩ = some (.int .i64 tk) ∧ w'.cell? ⟨g, off + k * 3 + 2, none⟩ = some (.int .i64 x)) (first | exact ⟨e1, e2⟩ | exact ⟨hE.oldCell k1, hE.oldCell k2⟩)
          (first
            | (go_at_call 12; refine (HPA.out _ hD.drew).mono ?_; rintro e w5 ⟨rfl, hE⟩))
        go_wp2
        go_roundw
        case rel => exact ⟨k + 1, N + 1, C, by go_num, by omega, by omega, hlc, HMX2.out, hE⟩
        case measure => simp [intOf]; omega
    · have hAb : A.length ≤ 3000 := by omega
      have hNb : N ≤ 3000 := by omega
      have hle := HI.len_any hr
      have HLE := Lib.hid hle; clear hle
      have HMX := Lib.hid hmx; clear hmx
      have hbox := HpAt.of (by omega) hr
      obtain ⟨W1, hW1⟩ : ∃ W1, W1 = wr := ⟨_, rfl⟩
      have hr1 : At W0 W1 [Hc p N A, HP.one lb (.cells #[.int .i64 lv] 3 (0, 0))] := hW1 ▸ hr
      have hkm : k = m := by omega
      subst hkm
      clear hlt hk hN hAk
      go_wp2_with (first
        | (go_at_call 15; refine HLE.out.mono ?_; rintro e w5 ⟨rfl, rfl⟩)
        | (go_at_call 31; refine (hall_any _ _ ⟨_, rfl⟩).mono ?_; rintro e w6 ⟨rfl, rfl⟩))
      have hA3 : At W1 (((wr.alloc (.cells #[.slice none 0 0] 22)).alloc (.cells #[.slice none 0 0] 23)).alloc (.cells #[.pointer (some ⟨p, 0, none⟩)] 25)) [HP.one (wr.heap.size + 1 + 1) (.cells #[.pointer (some ⟨p, 0, none⟩)] 25 (0, 0)), HP.one (wr.heap.size + 1) (.cells #[.slice none 0 0] 23 (0, 0)), HP.one wr.heap.size (.cells #[.slice none 0 0] 22 (0, 0))] := by
        have h3 := (((At.start W1).alloc (.cells #[.slice none 0 0] 22)).alloc (.cells #[.slice none 0 0] 23)).alloc (.cells #[.pointer (some ⟨p, 0, none⟩)] 25)
        rw [hW1] at h3 ⊢
        simp only [World.size_alloc] at h3
        exact h3
      have bB := hA3.blk
      have hI0 : ColI wr (some ⟨p, 0, none⟩) lv [] (((wr.alloc (.cells #[.slice none 0 0] 22)).alloc (.cells #[.slice none 0 0] 23)).alloc (.cells #[.pointer (some ⟨p, 0, none⟩)] 25)) := by
        rw [hW1] at hA3
        refine ⟨⟨none, 0, none, 0, ?_⟩, fun j h1 h2 => by simp at h2; omega⟩
        have h4 := ((hA3.row_nil 2 1).row_nil 3 1)
        exact h4.perm (permC _ _ _ _ _)
      have hsz : (((wr.alloc (.cells #[.slice none 0 0] 22)).alloc (.cells #[.slice none 0 0] 23)).alloc (.cells #[.pointer (some ⟨p, 0, none⟩)] 25)).heap.size = wr.heap.size + 3 := by simp
      have hB0 : Below wr.heap.size wr (((wr.alloc (.cells #[.slice none 0 0] 22)).alloc (.cells #[.slice none 0 0] 23)).alloc (.cells #[.pointer (some ⟨p, 0, none⟩)] 25)) := by rw [hW1] at hA3; exact hA3.below
      clear hA3
      obtain ⟨W2, hW2⟩ : ∃ W2, (((wr.alloc (.cells #[.slice none 0 0] 22)).alloc (.cells #[.slice none 0 0] 23)).alloc (.cells #[.pointer (some ⟨p, 0, none⟩)] 25)) = W2 := ⟨_, rfl⟩
      rw [hW2] at bB hI0 hsz hB0 ⊢
      clear hW2
      refine (wpIn_wide (n := 4)).1 ?_
      refine wpIn_rangeFunc_ownH rfl (by omega) (gf := 38) (lb := #[.pointer (some ⟨wr.heap.size + 1 + 1, 0, none⟩)]) rfl trivial (enters_of Try.func38 (by kernel_rfl) rfl)
        (hall_stops (4 - 1) (by omega) (wr.heap.size + 1 + 1) wr A (.pointer (some ⟨p, 0, none⟩)) hbox W2 hB0 bB) KpT.t (KpT.b (by omega)) (Below.refl _ _) (fun _ => rfl)
        (ColI wr (some ⟨p, 0, none⟩) lv)
        (ColIx wr (some ⟨p, 0, none⟩) lv)
        (fun s X Y row h hg hr => ⟨h.1.turn (by omega) hg hr, h.2⟩)
        (fun c s X Y row h hg hr => ⟨h.1.turn (by omega) hg hr, h.2⟩)
        hI0
        (fun x a' W => a' = { tmps := #[Value.slice ao k cap, Value.int .i64 lv, undef, Value.pointer (some ⟨lb, 0, none⟩), Value.bool false, Value.pointer (some ⟨p, 0, none⟩), Value.int .i64 k, Value.int .i64 A.length, Value.pointer (some ⟨wr.heap.size, 0, none⟩), Value.pointer (some ⟨wr.heap.size + 1, 0, none⟩), .int .i64 x.1, .int .i64 x.2, undef, undef, undef, undef, Value.bool true, Value.bool false, Value.slice ao l.length cap, Value.slice ao k cap, Value.pointer (some ⟨p, 0, none⟩), Value.int .i64 k, Value.slice ao k cap, Value.int .i64 k, Value.bool false, u25, u26, u27, u28, u29, u30, u31, u32, u33, u34, u35, u36, u37, u38, u39, u40, u41, u42, u43, u44, u45, u46, u47, u48, u49, u50, u51, Value.pointer (some ⟨p, 0, none⟩), Value.int .i64 A.length, Value.pointer (some ⟨p, 0, none⟩), Value.func (.func 38) #[] #[Value.pointer (some ⟨wr.heap.size + 1 + 1, 0, none⟩)], .int .i64 x.1, .int .i64 x.2, undef, undef, undef, undef, undef, undef, undef, undef, undef, undef, undef, undef, undef, undef, undef, undef, undef, undef, undef, undef, undef, undef, undef, undef, undef, undef, undef, undef, undef, undef, undef, undef, undef, undef, undef, undef, undef, undef, undef, undef, undef, undef, undef, undef, undef, undef, undef, undef, undef, undef, undef, undef, undef, undef, undef, undef, undef, undef, undef, undef, undef, undef, undef, undef, undef], defers := [] })
        (fun x a' _ X Y row hs hg hr => hs)
        ?assign ?body ?done ?stop
      case assign =>
        rintro lp pre x W K hI hK
        gi_wp2
        exact hK _ _ (KeepsOthers.refl _ |>.from _) ⟨Below.refl _ _, fun _ _ _ h => h⟩ hI rfl
      case body =>
        rintro lp pre x a' W hlp _ ⟨⟨a1, c1, a2, c2, hA⟩, hj⟩ rfl hpl
        obtain ⟨x1, x2⟩ := x
        have e0 := hA.pick2.cell 0
        have hal := (hA.alloc (.cells #[.int .i64 x1] 2)).pick2
        have hrn := hal.pick2.rd1
        have lbc := hr.pick2.cell 0
        have hcase : ((((pre.length : Int) + 1) == lv) = true ∧ (pre.length : Int) + 1 = lv) ∨ ((((pre.length : Int) + 1) == lv) = false ∧ (pre.length : Int) + 1 ≠ lv) := by
          by_cases h : (pre.length : Int) + 1 = lv
          · exact .inl ⟨by simpa using h, h⟩
          · exact .inr ⟨by simpa using h, h⟩
        have HJ := Lib.hid hj; clear hj
        rcases hcase with ⟨T, hlv⟩ | ⟨T, hlv⟩
        all_goals
          have HLV := Lib.hid hlv; clear hlv
          gi_wp2_with (first
            | (gi_at_builtin; refine wpListIn_append_rowT rfl (.tmp 58) (.tmp 60) 22 rfl (.int .i64 0) 8 under_i64s info_i64 rfl (by decide) hal rfl (some ⟨W.heap.size, 0, none⟩) 1 1 [.int .i64 x1] rfl rfl hrn (by intro u hu; simp at hu; subst hu; rfl) (by unfold maxLen; omega) (by omega) ?_; intro a3 c3 w3 hk3 hB1; have hB2 := hB1.pick2.drop; have g0 := hB2.pick2.cell 0; have g1 := hB2.pick2.free 0; have hB3 := hB2.pick2.setCell 0 (.slice a3 (pre.length + 1) c3); have f0 := hB3.pick4.cell 0; have hal2 := hB3.pick3.alloc (.cells #[.int .i64 x2] 3); have hsz3 : (w3.setCell ⟨wr.heap.size, 0, none⟩ (.slice a3 (pre.length + 1) c3)).heap.size = w3.heap.size := (by simp); rw [hsz3] at hal2; have hrn2 := hal2.rd1; clear hsz3)
            | (gi_at_builtin; refine wpListIn_append_rowT rfl (.tmp 62) (.tmp 64) 23 rfl (.int .i64 0) 8 under_ints info_int rfl (by decide) hal2.pick2 rfl (some ⟨w3.heap.size, 0, none⟩) 1 1 [.int .i64 x2] rfl rfl hrn2 (by intro u hu; simp at hu; subst hu; rfl) (by unfold maxLen; omega) (by omega) ?_; intro a4 c4 w4 hk4 hC1; have hC2 := hC1.pick2.drop; have y0 := hC2.pick4.cell 0; have y1 := hC2.pick4.free 0; have hC3 := hC2.pick4.setCell 0 (.slice a4 (pre.length + 1) c4); have y2 := hC3.oldCell lbc))
        all_goals
          have hC4 := hC3.perm (permD _ _ _ _ _)
          have hkk := ((((((KeepsTag.alloc 2 W (.cells #[.int .i64 x1] 2)).th (by decide)).trans (hk3.th (by decide))).trans ((KeepsTag.setCell hB2.pick2.blk 0 (.slice a3 (pre.length + 1) c3)).th (by decide))).trans ((KeepsTag.alloc 3 _ (.cells #[.int .i64 x2] 3)).th (by decide))).trans (hk4.th (by decide))).trans ((KeepsTag.setCell hC2.pick4.blk 0 (.slice a4 (pre.length + 1) c4)).th (by decide))
        · skip
          refine ⟨hkk.1.from _, ⟨a3, c3, a4, c4, ?_⟩, ?_, rfl⟩
          · simp only [List.map_append, List.map_cons, List.map_nil, List.length_append, List.length_singleton]
            exact hC4
          · simp only [List.length_append, List.length_singleton]
            have := HLV.out; omega
        · refine ⟨hkk.1.from _, ⟨below_of hA.below hC3.below hkk.1.size, hkk.2⟩, ⟨a3, c3, a4, c4, ?_⟩, ?_⟩
          · simp only [List.map_append, List.map_cons, List.map_nil, List.length_append, List.length_singleton]
            exact hC4
          · intro j h1 h2
            simp only [List.length_append, List.length_singleton] at h2
            by_cases hj : j = pre.length + 1
            · subst hj; have := HLV.out; push_cast; exact this
            · exact HJ.out j h1 (by omega)
      case' done =>
        rintro D ys W hD rfl ⟨hA, hj⟩ hK
        obtain ⟨j, hjA, hjl, hcol⟩ : ∃ j, j ≤ A.length ∧ (j = A.length ∨ (j ≠ A.length ∧ (j : Int) = lv)) ∧ ColAt wr W (some ⟨p, 0, none⟩) (come (A.take j)) := ⟨A.length, Nat.le_refl _, .inl rfl, by rw [List.take_length]; exact hA⟩
        clear hA hj
      case' stop =>
        rintro D c pre W hD hpre ⟨hA, hj, rfl⟩ hK
        refine wpIn_wide.2 ?_
        have hpl := hpre.length_le
        simp only [come, List.length_map] at hpl
        obtain ⟨j, hjA, hjl, hcol⟩ : ∃ j, j ≤ A.length ∧ (j = A.length ∨ (j ≠ A.length ∧ (j : Int) = lv)) ∧ ColAt wr W (some ⟨p, 0, none⟩) (come (A.take j)) := ⟨pre.length, hpl, (by by_cases h : pre.length = A.length; exact .inl h; exact .inr ⟨h, hj⟩), by
          rw [show come (A.take pre.length) = pre by rw [come, List.map_take]; exact (prefix_take hpre).symm]; exact hA⟩
        clear hA hj hpl hpre
      all_goals
        obtain ⟨a1, c1, a2, c2, hA⟩ := hcol
        have hlj : (come (A.take j)).length = j := by simp [come]; omega
        rw [hlj] at hA
        have hAj := (At.join hr (hA.grab (fun Q hQ => by
          simp only [List.mem_cons, List.not_mem_nil, or_false] at hQ
          rcases hQ with rfl | rfl | rfl | rfl | rfl
          · exact HP.Cells.row _ _ _ _ _ _
          · exact HP.Cells.one _ _ _ _
          · exact HP.Cells.row _ _ _ _ _ _
          all_goals exact HP.Cells.one _ _ _ _) (by omega) hK rfl)).perm (permE _ _ _ _ _ _ _ _)
        have nl : W.cell? ⟨lb, 0, none⟩ = some (.int .i64 lv) := hA.oldCell (hr.pick2.cell 0)
        clear hA hlj hI0 bB hr hr1 hW1 hB0 hrd0 hbox
        have n8 := hAj.pick2.cell 0
        have n9 := hAj.pick3.cell 0
        have hla := fun w L A' (hA : At W0 w (Hc p N A' :: L)) => HI.len_any hA
        have HLA := Lib.hid hla; clear hla
        have T1 : ((A.length : Int) != (A.length : Int)) = false := by simp
        have T2 : (((j : Int) != (A.length : Int)) = false) ∨ (((j : Int) != (A.length : Int)) = true ∧ ((j : Int) != lv) = false) := by
          rcases hjl with h | ⟨h1, h2⟩
          · left; simp [h]
          · right; refine ⟨?_, by simp [h2]⟩
            simp; omega
        clear hjl
        rcases T2 with T2 | ⟨T2, T3⟩
        all_goals
          go_wp2_with (go_at_call 15; refine (HLA.out _ _ _ hAj).mono ?_; rintro e w7 ⟨rfl, rfl⟩)
          go_loopw [12] (fun i wx => GvRel2 W0 p N A j lv wr.heap.size lb D a1 c1 a2 c2 i wx) (fun i _ => j - (intOf i).toNat)
          case atStart => exact ⟨0, rfl, Nat.zero_le _, hAj⟩
          case round =>
            clear hAj n8 n9 nl hK
            obtain ⟨i, rfl, hi, hr⟩ := hrel
            have n8 := hr.pick2.cell 0
            have n9 := hr.pick3.cell 0
            by_cases hlt : i < j
            · have hiA : i < A.length := by omega
              have hpa := fun L (w : World) (hA : At W0 w (Hc p N (A.drop i) :: L)) => HI.pop_any 9223372036854775807 (by omega) hA
              rw [List.drop_eq_getElem_cons hiA] at hpa
              have htk : A[i].1 ≤ 9223372036854775807 := HMX.out _ (List.getElem_mem hiA)
              have hx1 : ((come (A.take j)).map fun x => (Value.int .i64 x.1))[i]? = some (.int .i64 A[i].1) := by simp [come, hlt, hiA]
              have hx2 : ((come (A.take j)).map fun x => (Value.int .i64 x.2))[i]? = some (.int .i64 A[i].2.2) := by simp [come, hlt, hiA]
              obtain ⟨g1, o1, rfl, d1⟩ := hr.pick4.rd.some_ (by simp [come]; omega)
              obtain ⟨g2, o2, rfl, d2⟩ := hr.pick5.rd.some_ (by simp [come]; omega)
              rw [List.drop_eq_getElem_cons hiA] at hr
              generalize A[i] = t at *
              obtain ⟨t0, t1, t2⟩ := t
              simp only at htk hx1 hx2
              rw [Heap.pop_due htk] at hpa
              have HPA := Lib.hid hpa; clear hpa
              clear d1 d2
              have HX1 := Lib.hid hx1; clear hx1
              have HX2 := Lib.hid hx2; clear hx2
              have i1 : (0 : Int) ≤ (i : Int) := by omega
              have i2 : (i : Int) < (j : Int) := by omega
              go_wp2_with (go_at_call 14; refine (HPA.out _ _ hr).mono ?_; rintro e w7 ⟨rfl, hE⟩; have m8 := hE.pick2.cell 0; have m9 := hE.pick3.cell 0; have q1 := hE.pick4.rd.at_ i _ HX1.out; have q2 := hE.pick5.rd.at_ i _ HX2.out; try simp only [Nat.zero_add] at q1 q2)
              go_roundw
              case rel => exact ⟨i + 1, by go_num, by omega, hE⟩
              case measure => simp [intOf]; omega
            · have hij : i = j := by omega
              subst hij
              have hdl : (A.drop i).length = A.length - i := by simp
              have T4 : (((A.length - i : Nat) : Int) == (A.length : Int) - (i : Int)) = true := by simp; omega
              have i3 : ((A.length : Int) - (i : Int)) ≤ 3000 := by omega
              have i4 : 0 ≤ ((A.length : Int) - (i : Int)) := by omega
              go_wp2
              go_quiet (first | (go_at_call 15; exact Calls.quiet_of_same ((HLA.out _ _ _ (by first | exact hr | exact hr.drew | exact (hr.drewN _))).mono fun _ _ h => ⟨h.1, h.2.symm⟩)))
              go_wp2
              have hF := hr.drewN nq
              have hD2 : W0.heap.size ≤ D ∧ (wr.drewN nq).heap[D]? = some (.deferred (some [])) := by
                obtain ⟨f, h2, h3⟩ := (hF.perm (List.perm_append_comm (l₁ := [_, _, _, _, _, _, _]) (l₂ := [_]))).piece
                exact h3 D _ h2.1
              refine ⟨by simp, .inl ⟨_, _, rfl, run_takeDeferred hD2.2, ?_⟩⟩
              refine ⟨.bool true, ?_, rfl, HW.out ▸ hF.below.grown (grownBy_putObj' _ D (.deferred none)) hF.below.size (fun r e => by cases e; exact hD2.1)⟩
              simp [results, Try.f8, go_sem, T4]

theorem heapGives_any (l : List OpD) (ao : Option Addr) (cap : Nat) (hc : l.length ≤ cap) (hm : cap ≤ maxLen) (h0 : ao = none → cap = 0) (lv : Int) (w : World) (hrd : Kn.At_ kOp w ao l) :
    Calls Try.prog 8 #[.slice ao l.length cap, .int .i64 lv] w fun e w' => e = .returned (.bool true) ∧ Below w.heap.size w w' :=
  callsIn_wide.1 (heapGives_in l ao cap hc hm h0 lv w hrd)
namespace heapGives
theorem heapGives_walk (W : World) (l : List OpD) (v : Value) (hR : kOps.R W l [v]) (lv : Int) (_ : (Lit.int .i64 lv).wf = true) :
    Calls Try.prog 8 #[v, .int .i64 lv] W fun e w' => e = .returned (.bool true) ∧ Below W.heap.size W w' := by
  obtain ⟨ao, cap, hv, h1, h2, h3, hi⟩ := hR
  injection hv with hv _
  subst hv
  exact heapGives_any l ao cap h1 h2 h3 lv W hi
end heapGives
end Go.Proofs.Ytfooejfnlggncaa
