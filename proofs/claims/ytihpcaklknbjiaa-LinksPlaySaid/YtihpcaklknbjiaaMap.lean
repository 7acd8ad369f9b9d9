/-
  A map whose keys are whole numbers as a piece of the call's own memory: its entries in the order in which they came.
-/
import Derived.Test.YtihpcaklknbjiaaLib2
import Derived.Maps.OwnOps
import Derived.Maps.OwnSet
namespace Go.Proofs.Ytihpcaklknbjiaa
open Go.RowKit HP Go.MapKept Go.Maps

/-- The entries are the pairs A, in their order. -/
structure MpIs (es : Array MapEntry) (clock : Nat) (A : List (Int × Value)) : Prop where
  keys : es.toList.map (·.key) = A.map fun p => Value.int .i64 p.1
  vals : es.toList.map (·.val) = A.map (·.2)
  st : Stamped es clock
theorem MpIs.nil : MpIs #[] 0 [] := ⟨rfl, rfl, stamped_empty 0⟩
theorem MpIs.len {es : Array MapEntry} {clock : Nat} {A : List (Int × Value)} (h : MpIs es clock A) : es.size = A.length := by
  have := congrArg List.length h.keys
  simpa using this
theorem MpIs.isKey {es : Array MapEntry} {clock : Nat} {A : List (Int × Value)} (h : MpIs es clock A) : ∀ x ∈ es.toList, IsKey (.int .i64) x.key := by
  intro x hx
  have : x.key ∈ es.toList.map (·.key) := List.mem_map.2 ⟨x, hx, rfl⟩
  rw [h.keys] at this
  obtain ⟨k, _, hk⟩ := List.mem_map.1 this
  rw [← hk]; rfl
theorem MpIs.nodup {es : Array MapEntry} {clock : Nat} {A : List (Int × Value)} (h : MpIs es clock A) : (A.map (·.1)).Nodup := by
  have := h.st.2.2
  rw [h.keys] at this
  exact List.pairwise_map.2 ((List.pairwise_map.1 this).imp fun h e => h (by rw [e]))
def mget (A : List (Int × Value)) (k : Int) : Option Value := (A.find? fun p => p.1 = k).map (·.2)
theorem mget_none {A : List (Int × Value)} {k : Int} : mget A k = none ↔ k ∉ A.map (·.1) := by
  unfold mget
  rw [Option.map_eq_none_iff, List.find?_eq_none]
  constructor
  · intro h hk
    obtain ⟨p, hp, rfl⟩ := List.mem_map.1 hk
    exact h p hp (by simp)
  · intro h p hp hk
    simp only [decide_eq_true_eq] at hk
    exact h (List.mem_map.2 ⟨p, hp, hk⟩)
theorem mget_some {A : List (Int × Value)} {k : Int} {v : Value} (hn : (A.map (·.1)).Nodup) : mget A k = some v ↔ (k, v) ∈ A := by
  unfold mget
  induction A with
  | nil => simp
  | cons p A ih =>
    rw [List.map_cons, List.nodup_cons] at hn
    rw [List.find?_cons]
    by_cases hp : p.1 = k
    · simp only [hp, decide_true]
      rw [Option.map_some]
      constructor
      · intro h
        injection h with h
        subst h hp
        exact List.mem_cons_self
      · intro h
        rcases List.mem_cons.1 h with h | h
        · rw [← h]
        · exact absurd (List.mem_map.2 ⟨_, h, rfl⟩) (hp ▸ hn.1)
    · simp only [hp, decide_false]
      rw [ih hn.2]
      constructor
      · exact fun h => List.mem_cons_of_mem _ h
      · intro h
        rcases List.mem_cons.1 h with h | h
        · exact absurd (by rw [← h]) hp
        · exact h
theorem filter_erase {A : List (Int × Value)} {x : Int} {v : Value} : ∀ {j : Nat}, (A.map (·.1)).Nodup → A[j]? = some (x, v) → (A.filter fun p => p.1 != x) = A.eraseIdx j := by
  induction A with
  | nil => intro j _ h; simp at h
  | cons q A ih =>
    intro j hn h
    rw [List.map_cons, List.nodup_cons] at hn
    cases j with
    | zero =>
      simp at h
      subst h
      rw [List.filter_cons, if_neg (by simp), List.eraseIdx_cons_zero, List.filter_eq_self]
      intro p hp
      simp only [bne_iff_ne, ne_eq]
      exact fun e => hn.1 (List.mem_map.2 ⟨p, hp, e⟩)
    | succ j =>
      simp at h
      have hq : q.1 ≠ x := fun e => hn.1 (List.mem_map.2 ⟨_, List.mem_of_getElem? h, e.symm⟩)
      rw [List.filter_cons, if_pos (by simpa using hq), List.eraseIdx_cons_succ, ih hn.2 h]
/-- where a number stands -/
theorem MpIs.find {es : Array MapEntry} {clock : Nat} {A : List (Int × Value)} (h : MpIs es clock A) (k : Int) :
    (k ∉ A.map (·.1) ∧ Instr.findNow (.int .i64) (.int .i64 k) es.toList 0 = some none ∧ ∀ x ∈ es.toList, x.key ≠ .int .i64 k) ∨
    ∃ j e v, A[j]? = some (k, v) ∧ Instr.findNow (.int .i64) (.int .i64 k) es.toList 0 = some (some (j, v)) ∧ es.toList[j]? = some e ∧ e.key = .int .i64 k := by
  rcases findNow_spec (d := .int .i64) (k := .int .i64 k) rfl es.toList 0 h.isKey with ⟨h1, h2⟩ | ⟨j, e, h1, h2, h3⟩
  · refine .inl ⟨fun hk => ?_, h1, h2⟩
    obtain ⟨p, hp, rfl⟩ := List.mem_map.1 hk
    have : Value.int .i64 p.1 ∈ A.map (fun p => Value.int .i64 p.1) := List.mem_map.2 ⟨p, hp, rfl⟩
    rw [← h.keys] at this
    obtain ⟨x, hx, he⟩ := List.mem_map.1 this
    exact h2 x hx he
  · have hk := congrArg (fun l => l[j]?) h.keys
    have hv := congrArg (fun l => l[j]?) h.vals
    simp only [List.getElem?_map, h2, Option.map_some, h3] at hk hv
    cases hs : A[j]? with
    | none => rw [hs] at hk; cases hk
    | some p =>
      rw [hs] at hk hv
      simp at hk hv
      rw [hv, Nat.zero_add] at h1
      exact .inr ⟨j, e, p.2, by rw [hk]; exact hs, h1, h2, h3⟩
/-- A map in a block of the call's own. -/
def HP.mp (b : Nat) (A : List (Int × Value)) : HP := ex fun es => ex fun clock => pr (MpIs es clock A) (one b (.map es clock))

section
variable {P : Program} {w0 w : World} {L : List HP} {b : Nat} {A : List (Int × Value)}
theorem At.mp_op (h : At w0 w (HP.mp b A :: L)) : ∃ es clock, MpIs es clock A ∧ At w0 w (one b (.map es clock) :: L) := by
  obtain ⟨es, h⟩ := h.ex
  obtain ⟨clock, h⟩ := h.ex
  obtain ⟨p, h⟩ := h.pr
  exact ⟨es, clock, p, h⟩
theorem At.mp_cl {es : Array MapEntry} {clock : Nat} (p : MpIs es clock A) (h : At w0 w (one b (.map es clock) :: L)) : At w0 w (HP.mp b A :: L) :=
  At.ex_mk es (At.ex_mk clock (At.pr_mk p h))
theorem At.mp_new (h : At w0 w L) : At w0 (w.alloc (.map #[] 0)) (HP.mp w.heap.size [] :: L) := At.mp_cl MpIs.nil (h.alloc _)
theorem At.mp_nodup (h : At w0 w (HP.mp b A :: L)) : (A.map (·.1)).Nodup := by
  obtain ⟨_, _, p, _⟩ := h.mp_op
  exact p.nodup
theorem At.setObj {o o' : Obj} (h : At w0 w (one b o :: L)) : At w0 { w with heap := w.heap.setIfInBounds b o' } (one b o' :: L) := by
  have hb := h.blk
  exact h.put rfl rfl rfl (by simp) (heap_set hb).1 (fun k hk _ => (heap_set hb).2 k hk)

variable {k e t : TypeId} (ht : P.underlying t = some (.map k e)) (hk : P.underlying k = some (.int .i64))
include ht hk
/-- 'm[x]' -/
theorem At.mp_look {z : Value} (hz : ∀ w, (zeroValue e).run P w = .ok z w) (h : At w0 w (HP.mp b A :: L)) (x : Int) :
    (Instr.lookup t (.map (some b)) (.int .i64 x) false).run P w = .ok ((mget A x).getD z) w := by
  obtain ⟨es, clock, p, h⟩ := h.mp_op
  have hb := h.blk
  have hc := fun em => run_checkKey (P := P) (w := w) hk (k := .int .i64 x) rfl em 9999
  rcases p.find x with ⟨h1, h2, _⟩ | ⟨j, y, v, h1, h2, h3, h4⟩
  · rw [mget_none.2 h1]
    simp [Instr.lookup, run_underlying ht, MapKept.run_getObj_map hb, hc, run_findKey hk h2, hz, Result.andThen]
  · rw [(mget_some p.nodup).2 (List.mem_of_getElem? h1)]
    simp [Instr.lookup, run_underlying ht, MapKept.run_getObj_map hb, hc, run_findKey hk h2, Result.andThen]
omit hk in
/-- 'len(m)' -/
theorem At.mp_len (h : At w0 w (HP.mp b A :: L)) (ty : TypeId) : (Builtin.len_ #[t] ty #[.map (some b)]).run P w = .ok (.int .i64 A.length) w := by
  obtain ⟨es, clock, p, h⟩ := h.mp_op
  rw [← p.len]
  simp [Builtin.len_, run_underlying ht, MapKept.run_getObj_map h.blk, goInt, Result.andThen]
/-- 'm[x] = v', x not yet there -/
theorem At.mp_put (h : At w0 w (HP.mp b A :: L)) (x : Int) (v : Value) (hx : x ∉ A.map (·.1)) :
    ∃ w', (Instr.mapUpdate t (.map (some b)) (.int .i64 x) v).run P w = .ok () w' ∧ At w0 w' (HP.mp b (A ++ [(x, v)]) :: L) := by
  obtain ⟨es, clock, p, h⟩ := h.mp_op
  have hb := h.blk
  have hc := fun em => run_checkKey (P := P) (w := w) hk (k := .int .i64 x) rfl em 9999
  rcases p.find x with ⟨h1, h2, h3⟩ | ⟨j, y, u, h1, _⟩
  · refine ⟨_, ?_, (h.setObj (o' := .map (es.push ⟨.int .i64 x, v, clock⟩) (clock + 1))).mp_cl ⟨?_, ?_, stamped_push p.st h3⟩⟩
    · simp [Instr.mapUpdate, run_underlying ht, MapKept.run_getObj_map hb, hc, run_findKey hk h2, MapKept.run_setObj_map _ hb, Result.andThen]
    · simp [p.keys]
    · simp [p.vals]
  · exact absurd (List.mem_map.2 ⟨_, List.mem_of_getElem? h1, rfl⟩) hx
/-- 'delete(m, x)' -/
theorem At.mp_del (h : At w0 w (HP.mp b A :: L)) (x : Int) (ty : TypeId) :
    ∃ w', (Builtin.delete_ #[t, k] ty #[.map (some b), .int .i64 x]).run P w = .ok (.tuple #[]) w' ∧ At w0 w' (HP.mp b (A.filter fun p => p.1 != x) :: L) := by
  obtain ⟨es, clock, p, h⟩ := h.mp_op
  have hb := h.blk
  have hc := fun em => run_checkKey (P := P) (w := w) hk (k := .int .i64 x) rfl em 9999
  rcases p.find x with ⟨h1, h2, h3⟩ | ⟨j, y, v, h1, h2, h3, h4⟩
  · rw [List.filter_eq_self.2 (fun q hq => by
      simp only [bne_iff_ne, ne_eq]
      exact fun hx => h1 (List.mem_map.2 ⟨q, hq, hx⟩))]
    refine ⟨_, ?_, (h.setObj (o' := .map es clock)).mp_cl p⟩
    simp [Builtin.delete_, run_underlying ht, MapKept.run_getObj_map hb, hc, run_findKey hk h2, MapKept.run_setObj_map _ hb, Result.andThen]
  · have hjl : j < es.toList.length := (List.getElem?_eq_some_iff.1 h3).1
    have hjs : j < es.size := by simpa using hjl
    have hsub : (es.eraseIdxIfInBounds j).toList = es.toList.eraseIdx j := by
      unfold Array.eraseIdxIfInBounds
      rw [dif_pos hjs]
      simp
    have hA := filter_erase p.nodup h1
    refine ⟨_, ?_, (h.setObj (o' := .map (es.eraseIdxIfInBounds j) clock)).mp_cl ⟨?_, ?_, stamped_erase p.st j⟩⟩
    · simp [Builtin.delete_, run_underlying ht, MapKept.run_getObj_map hb, hc, run_findKey hk h2, MapKept.run_setObj_map _ hb, Result.andThen]
    · rw [hsub, hA, ChangeMaps.map_eraseIdx, p.keys, ChangeMaps.map_eraseIdx]
    · rw [hsub, hA, ChangeMaps.map_eraseIdx, p.vals, ChangeMaps.map_eraseIdx]
end
end Go.Proofs.Ytihpcaklknbjiaa
