/-
  slices.Sorted(maps.Keys(m)): a new slice of the map's keys, sorted.
-/
import Derived.Test.YtihpcaklknbjiaaLnkA
import Derived.Test.YtihpcaklknbjiaaLnkShelf
import Derived.Test.YtihpcaklknbjiaaLib3
namespace Go.Proofs.Ytihpcaklknbjiaa
open Go.RowKit HP Go.MapKept Go.Maps Go.Shelf Go.WideElems
open Go.Proofs.Ytihpcaklknbjiaa.Lnk

theorem sortsL (m : Nat) : AnyZI.SortsIn Try.prog Try.sortedL_ren Fence.wide m :=
  ⟨fun blk off cap ss W hH hblk hsz => callsIn_wide.2 (AnyM.slices_Sort_int Try.sortL blk off cap ss W hH hblk hsz),
   fun p cap W => callsIn_wide.2 (AnyM.slices_Sort_int_none Try.sortL p cap W)⟩

/-- how an element reads: of it nothing is asked -/
def rnil : Value → Option (DataW Unit × List MemPlace) := fun _ => some (.nil, [])
theorem insert_perm {H : Type} (x : Lit × DataW H) : ∀ l : List (Lit × DataW H), (DataW.insert x l).Perm (x :: l)
  | [] => List.Perm.refl _
  | y :: r => by
    unfold DataW.insert
    split
    · exact List.Perm.refl _
    · exact (List.Perm.cons y (insert_perm x r)).trans (List.Perm.swap x y r)
theorem sorted_perm {H : Type} : ∀ l : List (Lit × DataW H), (l.foldr DataW.insert []).Perm l
  | [] => List.Perm.refl _
  | x :: l => (insert_perm x _).trans (List.Perm.cons x (sorted_perm l))
/-- numbers that an int64 holds -/
def Fits (l : List Int) : Prop := ∀ x ∈ l, -9223372036854775808 ≤ x ∧ x ≤ 9223372036854775807
theorem wf_fit {x : Int} (h : -9223372036854775808 ≤ x ∧ x ≤ 9223372036854775807) : (Lit.int .i64 x).wf = true := by
  simpa [Lit.wf, IntKind.min, IntKind.max, IntKind.signed, IntKind.bits] using h

section
variable {w0 w : World} {L : List HP} {b : Nat} {A : List (Int × Value)}
theorem mp_owns (h : At w0 w (HP.mp b A :: L)) (hf : Fits (A.map (·.1))) (hl : A.length ≤ 1000000) :
    ∃ D : DataW Unit, w.ownsMap Try.prog 2 rnil b A.length D ∧ (intKeys D).Perm (A.map (·.1)) ∧ Maps.size D = A.length := by
  obtain ⟨es, clock, p, h⟩ := h.mp_op
  have hk : ∀ x ∈ es.toList, ∃ y : Int, x.key = .int .i64 y ∧ rd Try.prog 2 rnil x = some (.int .i64 y, .nil) := by
    intro x hx
    have : x.key ∈ es.toList.map (·.key) := List.mem_map.2 ⟨x, hx, rfl⟩
    rw [p.keys] at this
    obtain ⟨q, hq, he⟩ := List.mem_map.1 this
    have hw := wf_fit (hf q.1 (List.mem_map.2 ⟨q, hq, rfl⟩))
    refine ⟨q.1, he.symm, ?_⟩
    simp [rd, rnil, keyOf, Try.underlying2, mapKey, ← he, hw]
  refine ⟨.map ((es.toList.map (rg Try.prog 2 rnil)).foldr DataW.insert []), ⟨es, clock, h.blk, ⟨?_, p.st, fun x hx => ?_⟩, Nat.le_of_eq p.len, rfl⟩, ?_, ?_⟩
  · rw [p.len]; unfold maxLen; omega
  · obtain ⟨y, _, hy⟩ := hk x hx; exact ⟨_, hy⟩
  · show (((es.toList.map (rg Try.prog 2 rnil)).foldr DataW.insert []).map fun q => Go.intOf q.1).Perm _
    refine ((sorted_perm _).map _).trans ?_
    rw [List.map_map]
    have e1 : es.toList.map ((fun q : Lit × DataW Unit => Go.intOf q.1) ∘ rg Try.prog 2 rnil) = A.map (·.1) := by
      have e2 := congrArg (List.map fun v : Value => match v with | .int _ n => n | _ => 0) p.keys
      rw [List.map_map, List.map_map] at e2
      refine Eq.trans ?_ (e2.trans ?_)
      · refine List.map_congr_left fun x hx => ?_
        obtain ⟨y, hy1, hy2⟩ := hk x hx
        simp [rg_of hy2, hy1, Go.intOf]
      · exact List.map_congr_left fun q _ => rfl
    rw [e1]
  · show ((es.toList.map (rg Try.prog 2 rnil)).foldr DataW.insert []).length = _
    rw [length_sorted, List.length_map, ← p.len]; simp
/-- a slice of its own that was made in memory that is new -/
theorem take_row {w' : World} {v : Value} {n : Nat} {xs : List Value} (h : At w0 w L) (hb : Below w.heap.size w w') (ho : w'.ownsRow w.heap.size 2 1 v n xs) :
    ∃ ao cap, v = .slice ao n cap ∧ At w0 w' (row 2 1 ao n cap xs :: L) := by
  obtain ⟨hl, ⟨rfl, rfl⟩ | ⟨g, cap, cur, rfl, hg, hgo, hnc, hcm, hcs, htk⟩⟩ := ho
  · obtain rfl : xs = [] := List.eq_nil_of_length_eq_zero (by simpa using hl)
    exact ⟨none, 0, rfl, (h.later hb).row_nil _ _⟩
  · refine ⟨some ⟨g, 0, none⟩, cap, rfl, ?_⟩
    have k : At w w' [row 2 1 (some ⟨g, 0, none⟩) n cap xs] := by
      refine ⟨hb, fun k => if k = g then some (.cells cur 2 (0, 0)) else none, ⟨fun k => if k = g then some (.cells cur 2 (0, 0)) else none, fun _ => none, ⟨hl, hnc, hcm, .inr ⟨g, 0, cur, rfl, ⟨by simp, fun k hk => by simp [hk]⟩, by omega, by simpa using htk⟩⟩, fun _ => rfl, fun _ => .inr rfl, fun k => by simp⟩, fun k o e => ?_⟩
      by_cases hk : k = g
      · subst hk; simp at e; subst e; exact ⟨hg, hgo⟩
      · simp [hk] at e
    exact h.join k
def sortI (l : List Int) : List Int := l.mergeSort (fun x y => decide (x ≤ y))

/-- maps.Keys -/
theorem keys_any (mb : Option Nat) (w : World) : Calls Try.prog 27 #[.map mb] w fun e w' =>
    e = .returned (.func (.func 30) #[] #[.pointer (some ⟨w.heap.size, 0, none⟩)]) ∧ w' = w.alloc (.cells #[.map mb] 49) :=
  callsIn_wide.1 (AnyZI.keys_in Try.keysL Fence.wide 5 trivial rfl mb w)
set_option maxHeartbeats 1000000 in
/-- slices.Sorted of it -/
theorem sorted_any (Bm : Nat) (T : TypeId) (hf : Fits (A.map (·.1))) (hl : A.length ≤ 1000000) (hA : At w0 w (HP.one Bm (.cells #[.map (some b)] T (0, 0)) :: HP.mp b A :: L)) :
    Calls Try.prog 26 #[.func (.func 30) #[] #[.pointer (some ⟨Bm, 0, none⟩)]] w fun e w' => ∃ ao cap, e = .returned (.slice ao A.length cap) ∧
      At w0 w' (row 2 1 ao A.length cap ((sortI (A.map (·.1))).map (Value.int .i64)) :: HP.one Bm (.cells #[.map (some b)] T (0, 0)) :: HP.mp b A :: L) := by
  obtain ⟨D, hD, hp, hs⟩ := mp_owns hA.pick2 hf hl
  have hbl : Bm < w.heap.size := (Array.getElem?_eq_some_iff.1 hA.blk).1
  have hseq : SeqGives Fence.wide 2 Try.prog 30 #[.pointer (some ⟨Bm, 0, none⟩)] encZ (fun ss => ss.Perm (intKeys D)) (Maps.size D) w :=
    AnyZI.keys_gives (ρ := Try.keysL_ren) { Try.keysL with } Fence.wide _ trivial rfl (by omega) Bm b A.length D _ hbl (hA.cell 0) hD
  have cS := AnyZI.sorted_in Try.sortedL Fence.wide 5 trivial trivial trivial trivial rfl (by omega) (sortsL _) (enters_of Try.func29 (by kernel_rfl) rfl) 30 #[.pointer (some ⟨Bm, 0, none⟩)] trivial (enters_of Try.func30 (by kernel_rfl) rfl) _ _ (by rw [hs]; unfold maxLen; omega) (by rw [hs]; omega) _ hseq
  refine (callsIn_wide.1 cS).mono ?_
  rintro e w' ⟨v, ss, rfl, hS, hrow, _, hb⟩
  have hpp := hS.trans hp
  have hlen : ss.length = A.length := by rw [hpp.length_eq, List.length_map]
  have hso : ss.mergeSort (fun x y => decide (x ≤ y)) = sortI (A.map (·.1)) := mergeSort_of_perm_i hpp
  rw [hso, hlen] at hrow
  obtain ⟨ao, cap, rfl, hR⟩ := take_row hA hb hrow
  exact ⟨ao, cap, rfl, hR⟩
/-- .. of the nil map -/
theorem sorted_nil (Bm : Nat) (T : TypeId) (hA : At w0 w (HP.one Bm (.cells #[.map none] T (0, 0)) :: L)) :
    Calls Try.prog 26 #[.func (.func 30) #[] #[.pointer (some ⟨Bm, 0, none⟩)]] w fun e w' => e = .returned (.slice none 0 0) ∧ At w0 w' (HP.one Bm (.cells #[.map none] T (0, 0)) :: L) := by
  have hbl : Bm < w.heap.size := (Array.getElem?_eq_some_iff.1 hA.blk).1
  have hseq : SeqGives Fence.wide 2 Try.prog 30 #[.pointer (some ⟨Bm, 0, none⟩)] encZ (fun ss : List Int => ss = []) 0 w :=
    AnyZI.keys_gives_nil (ρ := Try.keysL_ren) { Try.keysL with } Fence.wide _ trivial rfl Bm _ hbl (hA.cell 0)
  have cS := AnyZI.sorted_in Try.sortedL Fence.wide 5 trivial trivial trivial trivial rfl (by omega) (sortsL _) (enters_of Try.func29 (by kernel_rfl) rfl) 30 #[.pointer (some ⟨Bm, 0, none⟩)] trivial (enters_of Try.func30 (by kernel_rfl) rfl) _ 0 (Nat.zero_le _) (by omega) _ hseq
  refine (callsIn_wide.1 cS).mono ?_
  rintro e w' ⟨v, ss, rfl, rfl, hrow, hnil, hb⟩
  obtain rfl : v = .slice none 0 0 := hnil.2 rfl
  exact ⟨rfl, hA.later hb⟩
end
end Go.Proofs.Ytihpcaklknbjiaa
