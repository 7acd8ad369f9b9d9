/-
  More of the small separation logic: appends inside a region that draws its order; a slice cut, its spare places cleared; a call's memory as what lay before.
-/
import Derived.Test.YtihpcaklknbjiaaLib
import Derived.Deep.RegionLaw
import Derived.Lib.SliceRun
namespace Go.Proofs.Ytihpcaklknbjiaa
open Go.RowKit HP

section
variable {P : Program} {w0 w : World} {L : List HP} {e size : Nat} {ao : Option Addr} {n cap : Nat} {xs : List Value}

theorem step_append_row {ops : Array Oper} {o : Oper} {a : Act} {K : Act → World → Prop} {Q : Exit → Act → World → Prop} {E : Prop}
    (hgd : o.guard = none) (s x : Operand) (t : TypeId) (ho : o.op = .call { callee := .builtin .append, args := #[s, x], argTypes := #[t, t] })
    (z : Value) (bytes : Nat) (ht : P.underlying t = some (.slice e)) (hinfo : (P.info? e).map (fun i => (i.zero, i.size, i.bytes)) = some (some z, size, bytes)) (hzs : z.cells.size = size) (hsz : 0 < size)
    (hA : At w0 w (HP.row e size ao n cap xs :: L)) (hs : a.eval s = .slice ao n cap)
    (aox : Option Addr) (m c : Nat) (news : List Value) (hx : a.eval x = .slice aox m c) (hl : news.length = m * size) (hrd : Rd w aox news) (h1 : ∀ u ∈ news, u.oneCell' = true)
    (h63 : n + m ≤ maxLen) (hbytes : (n + m) * bytes ≤ 140737488355328)
    (hK : ∀ ao' cap' w', At w0 w' (HP.row e size ao' (n + m) cap' (xs ++ news) :: L) → K (a.put o.dst (.slice ao' (n + m) cap')) w') :
    if Region.wanted o (yielded ops a.tmps) = true then Oper.wp P o a w K Q else E := by
  have hw : Region.wanted o (yielded ops a.tmps) = true := by simp [Region.wanted, hgd]
  rw [if_pos hw]
  obtain ⟨i, hi, hz, hsize, hby⟩ := info_parts hinfo
  obtain ⟨ao', cap', w', hr, hA'⟩ := run_append_row (P := P) t t o.type i z bytes ht hi hz hsize hby hzs hA (.slice aox m c) m news (src_of_rd ht m c hl hsz hrd h1) h63 hbytes
  unfold Oper.wp
  simp only [execOp, ho, resolve, invoke, builtin, Sem.run_bind, Sem.run_pure, Result.andThen_ok, List.map_toArray, List.map_cons, List.map_nil, hs, hx, hr]
  exact hK _ _ _ hA'

/-- an append where there is room keeps the array -/
theorem run_append_in (t tx ty : TypeId) (i : TypeInfo) (z : Value) (_bytes : Nat) (ht : P.underlying t = some (.slice e)) (hi : P.info? e = some i) (_hz : i.zero = some z)
    (hsize : i.size = size) {g off : Nat} (hA : At w0 w (HP.row e size (some ⟨g, off, none⟩) n cap xs :: L))
    (x : Value) (m : Nat) (news : List Value) (hs : Src P size tx x m news w) (hroom : n + m ≤ cap) :
    ∃ w', (Builtin.append_ #[t, tx] ty #[.slice (some ⟨g, off, none⟩) n cap, x]).run P w = .ok (.slice (some ⟨g, off, none⟩) (n + m) cap) w' ∧ At w0 w' (HP.row e size (some ⟨g, off, none⟩) (n + m) cap (xs ++ news) :: L) := by
  obtain ⟨hxl, hnc, hcm⟩ := hA.row_len
  have hl := hs.newsLen
  obtain ⟨g0, ⟨_, _, _, hrow⟩, hh⟩ := hA.piece
  rcases hrow with ⟨z, _⟩ | ⟨g', off', cur, hao, ⟨hg, hg'⟩, hcs, htk⟩
  · cases z
  injection hao with hao; injection hao with e1 e2; subst e1; subst e2
  have hgw := (hh g _ hg).2
  have hfit : off + n * size + news.length ≤ cur.size := by
    have : (n + m) * size ≤ cap * size := Nat.mul_le_mul_right _ hroom
    rw [Nat.add_mul] at this; omega
  have hr := run_append_room_src (P := P) w t tx ty e i ht hi g off n cap x m news (by rw [hsize]; exact hs) hroom
    (fun j hj => by rw [hsize]; simp [World.cell?, hgw]; omega)
    (fun j hj => by simp [World.frozen?, hgw])
  rw [hsize] at hr
  refine ⟨_, hr, ?_⟩
  obtain ⟨cs', hb', htl⟩ := setCells_blk g e (0, 0) news (off + n * size) w cur hgw hfit
  refine hA.step ⟨(setCells_rest _ _ _ _).1, (setCells_rest _ _ _ _).2.1, (setCells_rest _ _ _ _).2.2, by rw [setCells_size]; exact Nat.le_refl _, fun k hk => setCells_other g k (by have := (hh g _ hg).1; omega) _ _ _⟩ fun h1 h2 p _ d hh1 hh2 => ?_
  obtain ⟨_, _, _, p4⟩ := p
  rcases p4 with ⟨z, _⟩ | ⟨g', off', cur', hao, ⟨hg1, hg2⟩, _, _⟩
  · cases z
  injection hao with hao; injection hao with e1 e2; subst e1; subst e2
  refine ⟨fun k => if k = g then some (.cells cs' e (0, 0)) else none, ⟨?_, hroom, hcm, .inr ⟨g, off, cs', rfl, ⟨by simp, fun k hk => by simp [hk]⟩, ?_, ?_⟩⟩, fun k o' e' => ?_, fun k => ?_, fun k o' e' => ?_⟩
  · rw [List.length_append, hxl, hl, Nat.add_mul]
  · have : cs'.size = cur.size := by rw [← Array.length_toList, htl]; simp; omega
    omega
  · rw [htl, ← htk]
    have hlen : off + n * size ≤ cur.toList.length := by simp; omega
    have hnm : (n + m) * size = n * size + news.length := by rw [Nat.add_mul, hl]
    apply List.ext_getElem?
    intro j
    grind
  · by_cases hkg : k = g
    · subst hkg; simp at e'; subst e'; exact ⟨(hh k _ hg).1, hb'⟩
    · simp [hkg] at e'
  · by_cases hkg : k = g
    · subst hkg
      rcases d k with z | z
      · rw [hg1] at z; cases z
      · exact .inr z
    · simp [hkg]
  · have hkg : k ≠ g := by
      rintro rfl
      rcases d k with z | z
      · rw [hg1] at z; cases z
      · rw [z] at e'; cases e'
    rw [setCells_other g k hkg]; exact (hh2 k o' e').2

theorem step_append_in {ops : Array Oper} {o : Oper} {a : Act} {K : Act → World → Prop} {Q : Exit → Act → World → Prop} {E : Prop}
    (hgd : o.guard = none) (s x : Operand) (t : TypeId) (ho : o.op = .call { callee := .builtin .append, args := #[s, x], argTypes := #[t, t] })
    (z : Value) (bytes : Nat) (ht : P.underlying t = some (.slice e)) (hinfo : (P.info? e).map (fun i => (i.zero, i.size, i.bytes)) = some (some z, size, bytes)) (hsz : 0 < size)
    {g off : Nat} (hA : At w0 w (HP.row e size (some ⟨g, off, none⟩) n cap xs :: L)) (hs : a.eval s = .slice (some ⟨g, off, none⟩) n cap)
    (aox : Option Addr) (m c : Nat) (news : List Value) (hx : a.eval x = .slice aox m c) (hl : news.length = m * size) (hrd : Rd w aox news) (h1 : ∀ u ∈ news, u.oneCell' = true)
    (hroom : n + m ≤ cap)
    (hK : ∀ w', At w0 w' (HP.row e size (some ⟨g, off, none⟩) (n + m) cap (xs ++ news) :: L) → K (a.put o.dst (.slice (some ⟨g, off, none⟩) (n + m) cap)) w') :
    if Region.wanted o (yielded ops a.tmps) = true then Oper.wp P o a w K Q else E := by
  have hw : Region.wanted o (yielded ops a.tmps) = true := by simp [Region.wanted, hgd]
  rw [if_pos hw]
  obtain ⟨i, hi, hz, hsize, hby⟩ := info_parts hinfo
  obtain ⟨w', hr, hA'⟩ := run_append_in (P := P) t t o.type i z bytes ht hi hz hsize hA (.slice aox m c) m news (src_of_rd ht m c hl hsz hrd h1) hroom
  unfold Oper.wp
  simp only [execOp, ho, resolve, invoke, builtin, Sem.run_bind, Sem.run_pure, Result.andThen_ok, List.map_toArray, List.map_cons, List.map_nil, hs, hx, hr]
  exact hK _ hA'

/-- 'xs[:k]' -/
theorem At.row_take (h : At w0 w (HP.row e size ao n cap xs :: L)) (k : Nat) (hk : k ≤ n) : At w0 w (HP.row e size ao k cap (xs.take (k * size)) :: L) := by
  have hle : k * size ≤ n * size := Nat.mul_le_mul_right _ hk
  refine h.imp fun f p => ?_
  obtain ⟨p1, p2, p3, p4⟩ := p
  refine ⟨by rw [List.length_take]; omega, by omega, p3, ?_⟩
  rcases p4 with p4 | ⟨g, off, cur, q1, q2, q3, q4⟩
  · exact .inl p4
  · refine .inr ⟨g, off, cur, q1, q2, q3, ?_⟩
    rw [← q4, List.take_take, Nat.min_eq_left hle]

theorem setCells_free (b : Nat) : ∀ (vs : List Value) (o : Nat) (w : World) (a : Addr), (w.setCells b o vs).frozen? a = w.frozen? a
  | [], _, _, _ => rfl
  | v :: r, o, w, a => by rw [World.setCells, setCells_free b r]; simp

/-- stores behind the row's elements, within its room -/
theorem At.row_spare {g off : Nat} (h : At w0 w (HP.row e size (some ⟨g, off, none⟩) n cap xs :: L)) (k : Nat) (vs : List Value) (hk : n ≤ k) (hf : k * size + vs.length ≤ cap * size) :
    At w0 (w.setCells g (off + k * size) vs) (HP.row e size (some ⟨g, off, none⟩) n cap xs :: L) := by
  refine h.step ⟨(setCells_rest _ _ _ _).1, (setCells_rest _ _ _ _).2.1, (setCells_rest _ _ _ _).2.2, by rw [setCells_size]; exact Nat.le_refl _, fun j hj => setCells_other g j (by have := h.row_new; omega) _ _ _⟩ fun h1 h2 p _ d hh1 hh2 => ?_
  obtain ⟨p1, p2, p3, p4⟩ := p
  rcases p4 with ⟨z, _⟩ | ⟨b, o, cur, hb, ⟨hg1, hg2⟩, hsz, htk⟩
  · cases z
  injection hb with hb; injection hb with e1 e2; subst e1; subst e2
  have hgw := (hh1 g _ hg1).2
  obtain ⟨cs', hb', htl⟩ := setCells_blk g e (0, 0) vs (off + k * size) w cur hgw (by omega)
  have hnk : n * size ≤ k * size := Nat.mul_le_mul_right _ hk
  refine ⟨fun j => if j = g then some (.cells cs' e (0, 0)) else none, ⟨p1, p2, p3, .inr ⟨g, off, cs', rfl, ⟨by simp, fun j hj => by simp [hj]⟩, ?_, ?_⟩⟩, fun j o' e' => ?_, fun j => ?_, fun j o' e' => ?_⟩
  · have : cs'.size = cur.size := by rw [← Array.length_toList, htl]; simp; omega
    omega
  · rw [htl, ← htk]
    have hlen : off + k * size ≤ cur.toList.length := by simp; omega
    apply List.ext_getElem?
    intro j
    rw [List.getElem?_take, List.getElem?_take]
    split
    · rw [List.getElem?_drop, List.getElem?_drop, List.append_assoc, List.getElem?_append_left (by rw [List.length_take]; omega), List.getElem?_take, if_pos (by omega)]
    · rfl
  · by_cases hkg : j = g
    · subst hkg; simp at e'; subst e'; exact ⟨(hh1 j _ hg1).1, hb'⟩
    · simp [hkg] at e'
  · by_cases hkg : j = g
    · subst hkg
      rcases d j with z | z
      · rw [hg1] at z; cases z
      · exact .inr z
    · simp [hkg]
  · have hkg : j ≠ g := by
      rintro rfl
      rcases d j with z | z
      · rw [hg1] at z; cases z
      · rw [z] at e'; cases e'
    rw [setCells_other g j hkg]; exact (hh2 j o' e').2

/-- the row's room can be stored into -/
theorem At.row_room {g off : Nat} (h : At w0 w (HP.row e size (some ⟨g, off, none⟩) n cap xs :: L)) (j : Nat) (hj : j < cap * size) : (w.cell? ⟨g, off + j, none⟩).isSome = true := by
  obtain ⟨f, ⟨h1, h2, h3, h4⟩, hh⟩ := h.piece
  rcases h4 with ⟨z, _⟩ | ⟨b, o, cur, hb, ⟨hg1, _⟩, hsz, _⟩
  · cases z
  injection hb with hb; injection hb with e1 e2; subst e1; subst e2
  simp [World.cell?, (hh g _ hg1).2]
  omega

/-- 'clear(xs[k:k+1])' -/
theorem run_clear_one (t e ty : TypeId) (z : Value) (ht : P.underlying t = some (.slice e)) (hv : ∀ w, (zeroValue e).run P w = .ok z w) (h1 : ∀ v ∈ z.cells.toList, v.oneCell' = true) (b o c : Nat)
    (hc : ∀ j, j < z.cells.size → (w.cell? ⟨b, o + j, none⟩).isSome = true) (hf : ∀ j, j < z.cells.size → w.frozen? ⟨b, o + j, none⟩ = false) :
    (Builtin.clear_ #[t] ty #[.slice (some ⟨b, o, none⟩) 1 c]).run P w = .ok (.tuple #[]) (w.setCells b o z.cells.toList) := by
  have hzc : (Builtin.zeroCells z.cells 1).toList = z.cells.toList := by
    simp [Builtin.zeroCells]
    apply List.ext_getElem
    · simp
    · intro i h1 h2
      have h3 : i < z.cells.size := by simpa using h2
      simp [Nat.mod_eq_of_lt h3, h3]
  have hst := run_storeCells_cells (P := P) b o z.cells.toList 0 w (by simpa using hc) (by simpa using hf) h1
  simp only [Nat.add_zero] at hst
  simp [Builtin.clear_, run_underlying ht, hv, hzc, hst]

/-- what holds of a call's memory holds behind a later call that leaves it alone -/
theorem At.later {w' : World} (h : At w0 w L) (hb : Below w.heap.size w w') : At w0 w' L := by
  obtain ⟨h1, f, h2, h3⟩ := h
  refine ⟨h1.trans (hb.mono h1.size), f, h2, fun k o e => ?_⟩
  obtain ⟨g1, g2⟩ := h3 k o e
  refine ⟨g1, ?_⟩
  rw [hb.block k (Array.getElem?_eq_some_iff.1 g2).1]
  exact g2
/-- a struct of two cells stored into a result's block -/
theorem At.two {r : Nat} {x0 x1 : Value} {T : TypeId} (h : At w0 w (HP.one r (.cells #[x0, x1] T (0, 0)) :: L)) (v0 v1 : Value) :
    (w.setCell ⟨r, 0, none⟩ v0).cell? ⟨r, 0, none⟩ = some v0 ∧ ((w.setCell ⟨r, 0, none⟩ v0).setCell ⟨r, 1, none⟩ v1).cell? ⟨r, 1, none⟩ = some v1 ∧
      At w0 ((w.setCell ⟨r, 0, none⟩ v0).setCell ⟨r, 1, none⟩ v1) (HP.one r (.cells #[v0, v1] T (0, 0)) :: L) :=
  ⟨(h.setCell 0 v0).cell 0, ((h.setCell 0 v0).setCell 1 v1).cell 1, (h.setCell 0 v0).setCell 1 v1⟩
theorem At.rdN {b : Nat} {vs : Array Value} {T : TypeId} (h : At w0 w (HP.one b (.cells vs T (0, 0)) :: L)) : Rd w (some ⟨b, 0, none⟩) vs.toList :=
  .inr ⟨b, 0, rfl, fun j u hj => by rw [Nat.zero_add, h.cell j]; simpa using hj⟩
theorem At.pick4 {A B C D : HP} (h : At w0 w (A :: B :: C :: D :: L)) : At w0 w (D :: A :: B :: C :: L) :=
  h.perm ((List.Perm.cons A ((List.Perm.cons B (.swap _ _ _)).trans (.swap _ _ _))).trans (.swap _ _ _))
theorem At.pick5 {A B C D E : HP} (h : At w0 w (A :: B :: C :: D :: E :: L)) : At w0 w (E :: A :: B :: C :: D :: L) :=
  h.perm ((List.Perm.cons A ((List.Perm.cons B ((List.Perm.cons C (.swap _ _ _)).trans (.swap _ _ _))).trans (.swap _ _ _))).trans (.swap _ _ _))
end
end Go.Proofs.Ytihpcaklknbjiaa
