/-
  A map of whole numbers as a piece of the call's own memory: a set of numbers, each with 1 beside it.
-/
import Derived.Test.YtfooejfnlggncaaLib2
import Derived.Maps.OwnOps
import Derived.Maps.OwnSet
namespace Go.Proofs.Ytfooejfnlggncaa
open Go.RowKit HP Go.MapKept Go.Maps

/-- The entries are the numbers S, in the order in which they came; 1 stands beside each. -/
structure SetIs (es : Array MapEntry) (clock : Nat) (S : List Int) : Prop where
  keys : es.toList.map (·.key) = S.map (Value.int .i64)
  vals : ∀ e ∈ es.toList, e.val = .int .i64 1
  st : Stamped es clock
theorem SetIs.nil : SetIs #[] 0 [] := ⟨rfl, by simp, stamped_empty 0⟩
theorem SetIs.len {es : Array MapEntry} {clock : Nat} {S : List Int} (h : SetIs es clock S) : es.size = S.length := by
  have := congrArg List.length h.keys
  simpa using this
theorem SetIs.isKey {es : Array MapEntry} {clock : Nat} {S : List Int} (h : SetIs es clock S) : ∀ x ∈ es.toList, IsKey (.int .i64) x.key := by
  intro x hx
  have : x.key ∈ es.toList.map (·.key) := List.mem_map.2 ⟨x, hx, rfl⟩
  rw [h.keys] at this
  obtain ⟨k, _, hk⟩ := List.mem_map.1 this
  rw [← hk]; rfl
theorem SetIs.nodup {es : Array MapEntry} {clock : Nat} {S : List Int} (h : SetIs es clock S) : S.Nodup := by
  have := h.st.2.2
  rw [h.keys] at this
  exact (List.pairwise_map.1 this).imp fun h e => h (by rw [e])
/-- where a number stands -/
theorem SetIs.find {es : Array MapEntry} {clock : Nat} {S : List Int} (h : SetIs es clock S) (k : Int) :
    (k ∉ S ∧ Instr.findNow (.int .i64) (.int .i64 k) es.toList 0 = some none ∧ ∀ x ∈ es.toList, x.key ≠ .int .i64 k) ∨
    ∃ j e, k ∈ S ∧ Instr.findNow (.int .i64) (.int .i64 k) es.toList 0 = some (some (j, .int .i64 1)) ∧ es.toList[j]? = some e ∧ e.key = .int .i64 k ∧ S[j]? = some k := by
  rcases findNow_spec (d := .int .i64) (k := .int .i64 k) rfl es.toList 0 h.isKey with ⟨h1, h2⟩ | ⟨j, e, h1, h2, h3⟩
  · refine .inl ⟨fun hk => ?_, h1, h2⟩
    have : Value.int .i64 k ∈ S.map (Value.int .i64) := List.mem_map.2 ⟨k, hk, rfl⟩
    rw [← h.keys] at this
    obtain ⟨x, hx, he⟩ := List.mem_map.1 this
    exact h2 x hx he
  · have hm : e ∈ es.toList := List.mem_of_getElem? h2
    have hj : S[j]? = some k := by
      have := congrArg (fun l => l[j]?) h.keys
      simp only [List.getElem?_map, h2, Option.map_some, h3] at this
      cases hs : S[j]? with
      | none => rw [hs] at this; cases this
      | some k' => rw [hs] at this; simp at this; rw [this]
    rw [h.vals e hm, Nat.zero_add] at h1
    exact .inr ⟨j, e, List.mem_of_getElem? hj, h1, h2, h3, hj⟩

/-- A set of numbers in a block of the call's own. -/
def HP.set (b : Nat) (S : List Int) : HP := ex fun es => ex fun clock => pr (SetIs es clock S) (one b (.map es clock))

section
variable {P : Program} {w0 w : World} {L : List HP} {b : Nat} {S : List Int}
theorem At.set_op (h : At w0 w (HP.set b S :: L)) : ∃ es clock, SetIs es clock S ∧ At w0 w (one b (.map es clock) :: L) := by
  obtain ⟨es, h⟩ := h.ex
  obtain ⟨clock, h⟩ := h.ex
  obtain ⟨p, h⟩ := h.pr
  exact ⟨es, clock, p, h⟩
theorem At.set_cl {es : Array MapEntry} {clock : Nat} (p : SetIs es clock S) (h : At w0 w (one b (.map es clock) :: L)) : At w0 w (HP.set b S :: L) :=
  At.ex_mk es (At.ex_mk clock (At.pr_mk p h))
theorem At.set_new (h : At w0 w L) : At w0 (w.alloc (.map #[] 0)) (HP.set w.heap.size [] :: L) := At.set_cl SetIs.nil (h.alloc _)
theorem At.setObj {o o' : Obj} (h : At w0 w (one b o :: L)) : At w0 { w with heap := w.heap.setIfInBounds b o' } (one b o' :: L) := by
  have hb := h.blk
  exact h.put rfl rfl rfl (by simp) (heap_set hb).1 (fun k hk _ => (heap_set hb).2 k hk)

variable {k t : TypeId} (ht : P.underlying t = some (.map k k)) (hk : P.underlying k = some (.int .i64))
include ht hk
/-- 'm[x]' -/
theorem At.set_look (hz : ∀ w, (zeroValue k).run P w = .ok (.int .i64 0) w) (h : At w0 w (HP.set b S :: L)) (x : Int) :
    (Instr.lookup t (.map (some b)) (.int .i64 x) false).run P w = .ok (.int .i64 (if x ∈ S then 1 else 0)) w := by
  obtain ⟨es, clock, p, h⟩ := h.set_op
  have hb := h.blk
  have hc := fun em => run_checkKey (P := P) (w := w) hk (k := .int .i64 x) rfl em 9999
  rcases p.find x with ⟨h1, h2, _⟩ | ⟨j, e, h1, h2, h3, h4, _⟩
  · rw [if_neg h1]
    simp [Instr.lookup, run_underlying ht, MapKept.run_getObj_map hb, hc, run_findKey hk h2, hz, Result.andThen]
  · rw [if_pos h1]
    simp [Instr.lookup, run_underlying ht, MapKept.run_getObj_map hb, hc, run_findKey hk h2, Result.andThen]
omit hk in
/-- 'len(m)' -/
theorem At.set_len (h : At w0 w (HP.set b S :: L)) (ty : TypeId) : (Builtin.len_ #[t] ty #[.map (some b)]).run P w = .ok (.int .i64 S.length) w := by
  obtain ⟨es, clock, p, h⟩ := h.set_op
  rw [← p.len]
  simp [Builtin.len_, run_underlying ht, MapKept.run_getObj_map h.blk, goInt, Result.andThen]
/-- 'm[x] = 1', x not yet there -/
theorem At.set_put (h : At w0 w (HP.set b S :: L)) (x : Int) (hx : x ∉ S) :
    ∃ w', (Instr.mapUpdate t (.map (some b)) (.int .i64 x) (.int .i64 1)).run P w = .ok () w' ∧ At w0 w' (HP.set b (S ++ [x]) :: L) := by
  obtain ⟨es, clock, p, h⟩ := h.set_op
  have hb := h.blk
  have hc := fun em => run_checkKey (P := P) (w := w) hk (k := .int .i64 x) rfl em 9999
  rcases p.find x with ⟨h1, h2, h3⟩ | ⟨j, e, h1, _⟩
  · refine ⟨_, ?_, (h.setObj (o' := .map (es.push ⟨.int .i64 x, .int .i64 1, clock⟩) (clock + 1))).set_cl ⟨?_, ?_, stamped_push p.st h3⟩⟩
    · simp [Instr.mapUpdate, run_underlying ht, MapKept.run_getObj_map hb, hc, run_findKey hk h2, MapKept.run_setObj_map _ hb, Result.andThen]
    · simp [p.keys]
    · intro e he
      simp only [Array.toList_push, List.mem_append, List.mem_singleton] at he
      rcases he with he | rfl
      · exact p.vals e he
      · rfl
  · exact absurd h1 hx
/-- 'delete(m, x)' -/
theorem At.set_del (h : At w0 w (HP.set b S :: L)) (x : Int) (ty : TypeId) :
    ∃ w', (Builtin.delete_ #[t, k] ty #[.map (some b), .int .i64 x]).run P w = .ok (.tuple #[]) w' ∧ At w0 w' (HP.set b (S.erase x) :: L) := by
  obtain ⟨es, clock, p, h⟩ := h.set_op
  have hb := h.blk
  have hc := fun em => run_checkKey (P := P) (w := w) hk (k := .int .i64 x) rfl em 9999
  rcases p.find x with ⟨h1, h2, h3⟩ | ⟨j, e, h1, h2, h3, h4, h5⟩
  · rw [List.erase_of_not_mem h1]
    refine ⟨_, ?_, (h.setObj (o' := .map es clock)).set_cl p⟩
    simp [Builtin.delete_, run_underlying ht, MapKept.run_getObj_map hb, hc, run_findKey hk h2, MapKept.run_setObj_map _ hb, Result.andThen]
  · have hjl : j < es.toList.length := (List.getElem?_eq_some_iff.1 h3).1
    have hjs : j < es.size := by simpa using hjl
    have hsub : (es.eraseIdxIfInBounds j).toList = es.toList.eraseIdx j := by
      unfold Array.eraseIdxIfInBounds
      rw [dif_pos hjs]
      simp
    have hSj : S.erase x = S.eraseIdx j := by
      obtain ⟨hj1, hj2⟩ := List.getElem?_eq_some_iff.1 h5
      rw [List.erase_eq_eraseIdx_of_idxOf]
      rw [← hj2]
      exact (p.nodup).idxOf_getElem j hj1
    refine ⟨_, ?_, (h.setObj (o' := .map (es.eraseIdxIfInBounds j) clock)).set_cl ⟨?_, ?_, stamped_erase p.st j⟩⟩
    · simp [Builtin.delete_, run_underlying ht, MapKept.run_getObj_map hb, hc, run_findKey hk h2, MapKept.run_setObj_map _ hb, Result.andThen]
    · rw [hsub, hSj, ChangeMaps.map_eraseIdx, p.keys, ChangeMaps.map_eraseIdx]
    · intro e he
      rw [hsub] at he
      exact p.vals e ((List.eraseIdx_sublist _ _).subset he)
omit ht hk in
theorem wpList_set_del {ops : Array Oper} {rest : List Oper} {o : Oper} {a : Act} {Q : Exit → Act → World → Prop} (hg : o.guard = none) (m x : Operand) (hop : o.op = Op.call { callee := Callee.builtin Builtin.delete, args := #[m, x], argTypes := #[t, k] })
    (ht : P.underlying t = some (.map k k)) (hk : P.underlying k = some (.int .i64)) (hm : a.eval m = .map (some b)) (h : At w0 w (HP.set b S :: L)) (y : Int) (hx : a.eval x = .int .i64 y)
    (hK : ∀ w', At w0 w' (HP.set b (S.erase y) :: L) → wpList P ops Q rest (a.put o.dst (.tuple #[])) w') : wpList P ops Q (o :: rest) a w := by
  refine wpList_plain hg fun K' hK' => ?_
  obtain ⟨w', hrun, r1⟩ := h.set_del ht hk y o.type
  unfold Oper.wp
  simp [execOp, hop, resolve, invoke, builtin, hm, hx, hrun, Result.andThen]
  exact hK' _ _ (hK w' r1)
omit ht hk in
theorem step_set_del {ops : Array Oper} {o : Oper} {a : Act} {K : Act → World → Prop} {Q : Exit → Act → World → Prop} {E : Prop}
    (hg : o.guard = none) (m x : Operand) (hop : o.op = Op.call { callee := Callee.builtin Builtin.delete, args := #[m, x], argTypes := #[t, k] })
    (ht : P.underlying t = some (.map k k)) (hk : P.underlying k = some (.int .i64)) (hm : a.eval m = .map (some b)) (h : At w0 w (HP.set b S :: L)) (y : Int) (hx : a.eval x = .int .i64 y)
    (hK : ∀ w', At w0 w' (HP.set b (S.erase y) :: L) → K (a.put o.dst (.tuple #[])) w') :
    if Region.wanted o (yielded ops a.tmps) = true then Oper.wp P o a w K Q else E := by
  have hw : Region.wanted o (yielded ops a.tmps) = true := by simp [Region.wanted, hg]
  rw [if_pos hw]
  obtain ⟨w', hrun, r1⟩ := h.set_del ht hk y o.type
  unfold Oper.wp
  simp [execOp, hop, resolve, invoke, builtin, hm, hx, hrun, Result.andThen]
  exact hK _ r1
omit ht hk in
theorem wpList_set_len {ops : Array Oper} {rest : List Oper} {o : Oper} {a : Act} {Q : Exit → Act → World → Prop} (hg : o.guard = none) (m : Operand) (hop : o.op = Op.call { callee := Callee.builtin Builtin.len, args := #[m], argTypes := #[t] })
    (ht : P.underlying t = some (.map k k)) (hm : a.eval m = .map (some b)) (h : At w0 w (HP.set b S :: L))
    (hK : wpList P ops Q rest (a.put o.dst (.int .i64 S.length)) w) : wpList P ops Q (o :: rest) a w := by
  refine wpList_plain hg fun K' hK' => ?_
  unfold Oper.wp
  simp [execOp, hop, resolve, invoke, builtin, hm, h.set_len ht o.type, Result.andThen]
  exact hK' _ _ hK
end
end Go.Proofs.Ytfooejfnlggncaa
