/-
  Appends inside a range over a function: what is no cells lies as it lay.
-/
import Derived.Test.YtihpcaklknbjiaaLib2
import Derived.RangeFuncNested
import Derived.RangeFuncBox
import Derived.OwnWalkIn
namespace Go.Proofs.Ytihpcaklknbjiaa
open Go.RowKit HP

theorem setCells_keeps (b : Nat) : ∀ (vs : List Value) (o : Nat) (w : World), KeepsOthers w (w.setCells b o vs)
  | [], _, w => KeepsOthers.refl w
  | v :: r, o, w => by rw [World.setCells]; exact (KeepsOthers.setCell w _ v).trans (setCells_keeps b r _ _)

section
variable {P : Program} {w0 w : World} {L : List HP} {e size : Nat} {ao : Option Addr} {n cap : Nat} {xs : List Value}
theorem run_append_rowK (t tx ty : TypeId) (i : TypeInfo) (z : Value) (bytes : Nat) (ht : P.underlying t = some (.slice e)) (hi : P.info? e = some i) (hz : i.zero = some z)
    (hsize : i.size = size) (hby : i.bytes = bytes) (hzs : z.cells.size = size) (hA : At w0 w (HP.row e size ao n cap xs :: L))
    (x : Value) (m : Nat) (news : List Value) (hs : Src P size tx x m news w)
    (h63 : n + m ≤ maxLen) (hbytes : (n + m) * bytes ≤ 140737488355328) :
    ∃ ao' cap' w', (Builtin.append_ #[t, tx] ty #[.slice ao n cap, x]).run P w = .ok (.slice ao' (n + m) cap') w' ∧ KeepsOthers w w' ∧ At w0 w' (HP.row e size ao' (n + m) cap' (xs ++ news) :: L) := by
  obtain ⟨hxl, hnc, hcm⟩ := hA.row_len
  have hxs := hA.rd
  have hl := hs.newsLen
  by_cases hm : m = 0 ∧ ao = none
  · obtain ⟨rfl, rfl⟩ := hm
    have : news = [] := List.eq_nil_of_length_eq_zero (by simpa using hl)
    subst this
    refine ⟨none, cap, w, ?_, KeepsOthers.refl _, by simpa using hA⟩
    rcases hs.kind with ⟨e', hk⟩ | hk <;> simp [Builtin.append_, run_underlying ht, run_underlying hk, sizeOf, typeInfo, hi, hs.len, hnc, hsize, hs.cells]
  have h63' : n + m ≤ 9223372036854775807 := by simp only [maxLen] at h63; omega
  by_cases hroom : n + m ≤ cap
  · -- there is room
    obtain ⟨g0, ⟨_, _, _, hrow⟩, hh⟩ := hA.piece
    rcases hrow with ⟨rfl, rfl, _⟩ | ⟨g, off, cur, rfl, ⟨hg, hg'⟩, hcs, htk⟩
    · have : m = 0 := by omega
      exact absurd ⟨this, rfl⟩ hm
    have hgw := (hh g _ hg).2
    have hfit : off + n * size + news.length ≤ cur.size := by
      have : (n + m) * size ≤ cap * size := Nat.mul_le_mul_right _ hroom
      rw [Nat.add_mul] at this; omega
    have hr := run_append_room_src (P := P) w t tx ty e i ht hi g off n cap x m news (by rw [hsize]; exact hs) hroom
      (fun j hj => by rw [hsize]; simp [World.cell?, hgw]; omega)
      (fun j hj => by simp [World.frozen?, hgw])
    rw [hsize] at hr
    refine ⟨_, _, _, hr, setCells_keeps _ _ _ _, ?_⟩
    obtain ⟨cs', hb', htl⟩ := setCells_blk g e (0, 0) news (off + n * size) w cur hgw hfit
    refine hA.step ⟨(setCells_rest _ _ _ _).1, (setCells_rest _ _ _ _).2.1, (setCells_rest _ _ _ _).2.2, by rw [setCells_size]; exact Nat.le_refl _, fun k hk => setCells_other g k (by have := (hh g _ hg).1; omega) _ _ _⟩ fun h1 h2 p _ d hh1 hh2 => ?_
    obtain ⟨_, _, _, p4⟩ := p
    rcases p4 with ⟨z, _⟩ | ⟨g', off', cur', hao, ⟨hg1, hg2⟩, _, _⟩
    · cases z
    injection hao with hao; injection hao with e1 e2; subst e1; subst e2
    refine ⟨fun k => if k = g then some (.cells cs' e (0, 0)) else none, ⟨?_, hroom, hcm, .inr ⟨g, off, cs', rfl, ⟨by simp, fun k hk => by simp [hk]⟩, ?_, ?_⟩⟩, fun k o' e' => ?_, fun k => ?_, fun k o' e' => ?_⟩
    · rw [List.length_append, hxl, hl, Nat.add_mul]
    · have : cs'.size = cur.size := by rw [← Array.length_toList, htl]; simp; omega
      omega
    · rw [htl, ← htk]
      have hlen : off + n * size ≤ cur.toList.length := by simp; omega
      have hnm : (n + m) * size = n * size + news.length := by rw [Nat.add_mul, hl]
      apply List.ext_getElem?
      intro j
      grind
    · by_cases hkg : k = g
      · subst hkg; simp at e'; subst e'; exact ⟨(hh k _ hg).1, hb'⟩
      · simp [hkg] at e'
    · by_cases hkg : k = g
      · subst hkg
        rcases d k with z | z
        · rw [hg1] at z; cases z
        · exact .inr z
      · simp [hkg]
    · have hkg : k ≠ g := by
        rintro rfl
        rcases d k with z | z
        · rw [hg1] at z; cases z
        · rw [z] at e'; cases e'
      rw [setCells_other g k hkg]; exact (hh2 k o' e').2
  · -- it grows
    have hold : (Builtin.firstCells i.size n (.slice ao n cap)).run P w.drew = .ok xs.toArray w.drew := by
      cases ao with
      | none =>
        obtain ⟨rfl, rfl⟩ := hA.row_none rfl
        exact run_firstCells_none w.drew i.size 0 0 cap
      | some ad => exact run_firstCells_some w.drew i.size n ad n cap xs (by rw [hxl, hsize]) (by simpa using hxs.add_)
    have hr := run_append_grow_src (P := P) w t tx ty e i z ht hi hz ao n cap xs hold x m news (by rw [hsize]; exact hs) (by omega) (by omega) (growslice_fits (by omega) (by rw [hby]; exact hbytes))
    refine ⟨_, _, _, hr, (KeepsOthers.drew w).trans (KeepsOthers.alloc _ _), ?_⟩
    have hge := grownCap_ge w (n + m) cap e
    have hcm' : grownCap w (n + m) cap e ≤ maxLen := grownCap_le_maxLen w (n + m) cap e h63
    have := (hA.drop.drew.alloc (.cells ((xs ++ news).toArray ++ Builtin.zeroCells z.cells (grownCap w (n + m) cap e - (n + m))) e)).row_of_one (e := e) (size := size) (n + m) (grownCap w (n + m) cap e) hge hcm' (by
      simp only [Array.size_append, List.size_toArray, size_zeroCells, hzs, List.length_append, hxl, hl, ← Nat.add_mul]
      congr 1
      omega)
    have ht' : (((xs ++ news).toArray ++ Builtin.zeroCells z.cells (grownCap w (n + m) cap e - (n + m))).toList.take ((n + m) * size)) = xs ++ news := by
      simp only [Array.toList_append]
      rw [List.take_left' (by rw [List.length_append, hxl, hl, Nat.add_mul])]
    rw [ht'] at this
    exact this


theorem wpListIn_append_row {F : Fence} {nF : Nat} {ops : Array Oper} {rest : List Oper} {o : Oper} {a : Act} {Q : Exit → Act → World → Prop} (hgd : o.guard = none) (s x : Operand) (t : TypeId)
    (ho : o.op = .call { callee := .builtin .append, args := #[s, x], argTypes := #[t, t] })
    (z : Value) (bytes : Nat) (ht : P.underlying t = some (.slice e)) (hinfo : (P.info? e).map (fun i => (i.zero, i.size, i.bytes)) = some (some z, size, bytes)) (hzs : z.cells.size = size) (hsz : 0 < size)
    (hA : At w0 w (HP.row e size ao n cap xs :: L)) (hs : a.eval s = .slice ao n cap)
    (aox : Option Addr) (m c : Nat) (news : List Value) (hx : a.eval x = .slice aox m c) (hl : news.length = m * size) (hrd : Rd w aox news) (h1 : ∀ u ∈ news, u.oneCell' = true)
    (h63 : n + m ≤ maxLen) (hbytes : (n + m) * bytes ≤ 140737488355328)
    (h : ∀ ao' cap' w', KeepsOthers w w' → At w0 w' (HP.row e size ao' (n + m) cap' (xs ++ news) :: L) → wpListIn F nF P ops Q rest (a.put o.dst (.slice ao' (n + m) cap')) w') : wpListIn F nF P ops Q (o :: rest) a w := by
  obtain ⟨i, hi, hz, hsize, hby⟩ := info_parts hinfo
  obtain ⟨ao', cap', w', hr, hk, hA'⟩ := run_append_rowK (P := P) t t o.type i z bytes ht hi hz hsize hby hzs hA (.slice aox m c) m news (src_of_rd ht m c hl hsz hrd h1) h63 hbytes
  refine wpListIn_plain hgd fun K hK => ?_
  unfold Oper.wpIn
  refine ⟨by simp [Oper.about, ho, resolve, Target.leads, Sem.run_pure], ?_⟩
  rw [Oper.semAt_plain F _ _ (by rw [ho]; intro c hc'; cases hc')]
  simp [execOp, ho, resolve, invoke, builtin, hs, hx, hr, Result.andThen]
  exact hK _ _ (h _ _ _ hk hA')

/-- A piece that holds cells alone. -/
def HP.Cells (Q : HP) : Prop := ∀ h, Q h → ∀ k o, h k = some o → o.isCells = true
theorem HP.Cells.one (b : Nat) (cs : Array Value) (T : TypeId) (f : Nat × Nat) : HP.Cells (HP.one b (.cells cs T f)) := fun h p k o e => by
  by_cases hk : k = b
  · subst hk; rw [p.1] at e; cases e; rfl
  · rw [p.2 k hk] at e; cases e
theorem HP.Cells.row (e size : Nat) (ao : Option Addr) (n cap : Nat) (xs : List Value) : HP.Cells (HP.row e size ao n cap xs) := fun h p k o q => by
  obtain ⟨_, _, _, p4⟩ := p
  rcases p4 with ⟨_, _, p⟩ | ⟨g, off, cur, _, p, _⟩
  · rw [p k] at q; cases q
  · exact HP.Cells.one g cur e (0, 0) h p k o q
theorem HP.Cells.sep : ∀ (L : List HP), (∀ Q ∈ L, HP.Cells Q) → HP.Cells (HP.sep L)
  | [], _ => fun h p k o e => by rw [p k] at e; cases e
  | Q :: L, hL => fun h p k o e => by
    obtain ⟨h1, h2, p, q, d, u⟩ := p
    rw [u k] at e
    cases z : h1 k with
    | some o' => rw [z] at e; simp at e; subst e; exact hL Q (by simp) h1 p k _ z
    | none => rw [z] at e; simp at e; exact HP.Cells.sep L (fun Q' hQ => hL Q' (by simp [hQ])) h2 q k o e
/-- a turn of a block that holds no cells leaves such pieces -/
theorem At.turn {w' : World} {row : Option Nat} (h : At w0 w L) (hL : ∀ Q ∈ L, HP.Cells Q) (hg : w.grownBy w' row) (hr : ∀ r, row = some r → w0.heap.size ≤ r ∧ ∃ o : Obj, w.heap[r]? = some o ∧ o.isCells = false) : At w0 w' L := by
  obtain ⟨h1, f, h2, h3⟩ := h
  refine ⟨h1.grown hg h1.size (fun k e => (hr k e).1), f, h2, fun k o e => ?_⟩
  obtain ⟨g1, g2⟩ := h3 k o e
  refine ⟨g1, (hg.block k (Array.getElem?_eq_some_iff.1 g2).1 (fun e' => ?_)).trans g2⟩
  obtain ⟨_, o', ho, hc⟩ := hr k e'.symm
  rw [g2] at ho
  cases ho
  rw [HP.Cells.sep L hL f h2 k o e] at hc
  cases hc
/-- a call's pieces beside those of the calls around it -/
theorem At.join {w1 : World} {M : List HP} (h : At w0 w1 L) (k : At w1 w M) : At w0 w (M ++ L) := by
  obtain ⟨h1, f, h2, h3⟩ := h
  obtain ⟨k1, g, k2, k3⟩ := k
  refine ⟨h1.trans (k1.mono h1.size), fun j => (g j).or (f j), append_sep ⟨g, f, k2, h2, fun j => ?_, fun _ => rfl⟩, fun j o e => ?_⟩
  · cases z : g j with
    | none => exact .inl rfl
    | some o =>
      right
      cases z2 : f j with
      | none => rfl
      | some o' =>
        have := (k3 j o z).1
        have := (Array.getElem?_eq_some_iff.1 (h3 j o' z2).2).1
        omega
  · simp only at e
    cases z : g j with
    | some o' =>
      rw [z] at e; simp at e; subst e
      have := k3 j _ z
      exact ⟨Nat.le_trans h1.size this.1, this.2⟩
    | none =>
      rw [z] at e; simp at e
      have := h3 j o e
      exact ⟨this.1, (k1.block j (Array.getElem?_eq_some_iff.1 this.2).1).trans this.2⟩
end
end Go.Proofs.Ytihpcaklknbjiaa
