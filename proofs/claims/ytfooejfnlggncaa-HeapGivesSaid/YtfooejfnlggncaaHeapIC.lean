/-
  The contracts of the heap at int: off.
-/
import Derived.Test.YtfooejfnlggncaaHeapIB
namespace Go.Proofs.Ytfooejfnlggncaa
open Go.RowKit HP
open Heap (Th)
namespace HI
section
variable {w0 w : World} {L : List HP} {p : Nat} {l : List (Th Int)} {S : List Int} {n : Int}

/-- the opened heap -/
abbrev Opn (p g off m cap mb : Nat) (n : Int) (l : List (Th Int)) (S : List Int) (L : List HP) : List HP :=
  HP.one p (.cells #[.slice (some ⟨g, off, none⟩) m cap, .map (some mb), .int .i64 n] 62 (0, 0)) :: row 64 3 (some ⟨g, off, none⟩) m cap (tvs enc l) :: HP.set mb S :: L
/-- the loop that sifts down -/
def OffRel (w0 : World) (L : List HP) (p g off m cap mb : Nat) (n : Int) (S : List Int) (lz : List (Th Int)) (i : Value) (wr : World) : Prop :=
  ∃ (k : Nat) (l : List (Th Int)), i = .int .i64 k ∧ (k < m ∨ k = 0) ∧ l.length = m ∧ lz = Heap.down l k ∧ At w0 wr (Opn p g off m cap mb n l S L)
/-- the loop over the two children -/
def KidRel (w0 : World) (L : List HP) (p g off m cap mb : Nat) (n : Int) (S : List Int) (l : List (Th Int)) (i : Nat) (le jj : Value) (wr : World) : Prop :=
  ∃ j : Nat, jj = .int .i64 j ∧ j ≤ 2 ∧ le = .int .i64 (Heap.lst l i j : Nat) ∧ At w0 wr (Opn p g off m cap mb n l S L)

theorem idx2 (x y : Int) (j : Nat) (z : Int) (h : (j = 0 ∧ z = x) ∨ (j = 1 ∧ z = y)) : ∀ w, (Instr.index 84 (.agg #[.int .i64 x, .int .i64 y]) (.int .i64 j)).run Try.prog w = .ok (.int .i64 z) w := by
  intro w
  rcases h with ⟨rfl, rfl⟩ | ⟨rfl, rfl⟩
  · kernel_rfl
  · kernel_rfl

set_option maxHeartbeats 8000000 in
set_option maxRecDepth 100000 in
theorem off_raw (hl : l.length ≤ 1099511627777) (hne : l ≠ []) (hA : At w0 w (Raw p l S n :: L)) :
    Calls Try.prog 44 #[.pointer (some ⟨p, 0, none⟩)] w fun e w' => e = .returned (.tuple #[]) ∧ At w0 w' (Raw p (Heap.off l) S n :: L) := by
  have hpos : 0 < l.length := List.length_pos_iff.2 hne
  obtain ⟨ao, cap, mb, hO⟩ := Raw.op hA
  obtain ⟨g, off, rfl⟩ := hO.pick2.row_some (by rw [tvs_len]; omega)
  obtain ⟨m, hm⟩ : ∃ m, m = l.length - 1 := ⟨_, rfl⟩
  have hlm : l.length = m + 1 := by omega
  have hmb : m ≤ 1099511627777 := by omega
  rw [hlm] at hO
  have c0 := hO.cell 0
  have f0 := hO.free 0
  have hrow := hO.pick2
  have fz := hrow.row_free
  obtain ⟨t, ht⟩ : ∃ t, t = l[m] := ⟨_, rfl⟩
  obtain ⟨z, hz⟩ : ∃ t, t = l[0] := ⟨_, rfl⟩
  have HT := Lib.hid (show l[m]? = some t by rw [ht]; exact List.getElem?_eq_getElem (by omega))
  have HZ := Lib.hid (show l[0]? = some z by rw [hz]; exact List.getElem?_eq_getElem (by omega))
  have hof : Heap.off l = Heap.down ((l.set 0 t).take m) 0 := by rw [Heap.off, ht, Heap.g_get l _ (by omega)]; simp only [hlm, Nat.add_sub_cancel]
  obtain ⟨lz, hlz⟩ : ∃ lz, lz = Heap.off l := ⟨_, rfl⟩
  rw [← hlz] at hof ⊢
  clear ht hz hlz
  have HM := Lib.hid hm; clear hm
  obtain ⟨a0, a1, a2⟩ := t
  obtain ⟨b0, b1, b2⟩ := z
  obtain ⟨k0, k1, k2⟩ := hrow.tv_at m _ _ _ HT.out
  obtain ⟨u0, u1, u2⟩ := hrow.tv_at 0 _ _ _ HZ.out
  rw [Nat.zero_mul, Nat.add_zero] at u0 u1 u2
  have HOF := Lib.hid hof; clear hof
  have h1 := (hrow.tv_set 0 (by omega) (a0, a1, a2)).drew
  rw [Nat.zero_mul, Nat.add_zero] at h1
  have HLM := Lib.hid hlm; clear hlm
  have i1 : (0 : Int) ≤ (m : Int) := by omega
  have i2 : (m : Int) < (m : Int) + 1 := by omega
  have i3 : (0 : Int) < (m : Int) + 1 := by omega
  have i4 : m < m + 1 := by omega
  go_enter Try.func44, Try.ntmps44
  go_wp2
  go_region
  generalize hwq : World.drew _ = wq
  have h2 : At w0 wq (row 64 3 (some ⟨g, off, none⟩) (m + 1) cap (tvs enc (l.set 0 (a0, a1, a2))) :: HP.one p (.cells #[.slice (some ⟨g, off, none⟩) (m + 1) cap, .map (some mb), .int .i64 n] 62 (0, 0)) :: HP.set mb S :: L) := by rw [← hwq]; exact h1
  clear hwq h1 k0 k1 k2 u0 u1 u2 c0 f0 fz hrow hO
  have hl1 : (l.set 0 (a0, a1, a2))[m]? = some (a0, a1, a2) := by
    by_cases h0 : m = 0
    · subst h0; rw [List.getElem?_set_self (by rw [HLM.out]; omega)]
    · rw [List.getElem?_set_ne (by omega)]; exact HT.out
  have hml : m < (l.set 0 (a0, a1, a2)).length := by rw [List.length_set, HLM.out]; omega
  obtain ⟨k0, k1, k2⟩ := h2.tv_at m _ _ _ hl1
  have HL1 := Lib.hid hl1; clear hl1
  have c0 := h2.pick2.cell 0
  have f0 := h2.pick2.free 0
  have fz := h2.row_free
  have hcap := h2.row_len.2.1
  have hcap2 := h2.row_len.2.2
  unfold maxLen at hcap2
  have h3 := h2.tv_set m hml (0, 0, 0)
  have g0 := h3.pick2.cell 0
  have g1 := h3.pick2.free 0
  have h4 := h3.pick2.setCell 0 (.slice (some ⟨g, off, none⟩) m cap)
  have h5 := h4.pick2.tv_take m (by omega)
  have i5 : (m : Int) ≤ (cap : Int) := by omega
  go_wp2
  have htk : ((l.set 0 (a0, a1, a2)).set m (0, 0, 0)).take m = (l.set 0 (a0, a1, a2)).take m := by rw [List.take_set_of_le (Nat.le_refl _)]
  rw [htk] at h5
  have h6 : At w0 _ (Opn p g off m cap mb n ((l.set 0 (a0, a1, a2)).take m) S L) := h5.pick2
  have hln : ((l.set 0 (a0, a1, a2)).take m).length = m := by rw [List.length_take]; omega
  generalize (l.set 0 (a0, a1, a2)).take m = lx at *
  clear h2 h3 h4 h5 k0 k1 k2 c0 f0 fz g0 g1 htk hml
  go_loopw [3] (fun i wr => OffRel w0 L p g off m cap mb n S lz i wr) (fun i _ => m - (intOf i).toNat)
  case atStart => exact ⟨0, lx, rfl, .inr rfl, hln, HOF.out, h6⟩
  case round =>
    clear h6 hln
    obtain ⟨k, l, rfl, hk, hlen, hdn, hr⟩ := hrel
    have HDN := Lib.hid hdn; clear hdn
    have HL := Lib.hid hlen; clear hlen
    have hkm : k ≤ m := by omega
    have hk0 : (0 : Int) ≤ (k : Int) := by omega
    have hkb : (k : Int) ≤ 1099511627777 := by omega
    go_wp2
    go_loopw [4, 49] (fun le jj wr => KidRel w0 L p g off m cap mb n S l k le jj wr) (fun _ jj _ => 2 - (intOf jj).toNat)
    case atStart => exact ⟨0, rfl, by omega, rfl, hr⟩
    case round =>
      clear hr
      obtain ⟨j, rfl, hj, rfl, hx⟩ := hrel
      have c0 := hx.cell 0
      by_cases hj2 : j < 2
      · obtain ⟨c, hc⟩ : ∃ c, c = 2 * k + 1 + j := ⟨_, rfl⟩
        have hix := idx2 (2 * (k : Int) + 1) (2 * (k : Int) + 2) j (c : Int) (by omega)
        by_cases hcm : c < m
        · have hkl : k < l.length := by rw [HL.out]; omega
          have hcl : c < l.length := by rw [HL.out]; exact hcm
          have hql := Heap.lst_lt l k j hkl (by omega)
          have hyes := Heap.lst_yes l k j hj2
          have hno := Heap.lst_no l k j hj2
          rw [← hc, Heap.g_get l c hcl, Heap.g_get l _ hql] at hyes hno
          obtain ⟨q, hq⟩ : ∃ q, q = Heap.lst l k j := ⟨_, rfl⟩
          obtain ⟨tk, htk⟩ : ∃ t, t = l[c] := ⟨_, rfl⟩
          obtain ⟨tu, htu⟩ : ∃ t, t = l[Heap.lst l k j] := ⟨_, rfl⟩
          have HK := Lib.hid (show l[c]? = some tk by rw [htk]; exact List.getElem?_eq_getElem hcl)
          have HN := Lib.hid (show l[q]? = some tu by rw [htu, hq]; exact List.getElem?_eq_getElem hql)
          rw [← htk, ← htu] at hyes hno
          rw [← hq] at hno hql ⊢
          clear htk htu hq
          obtain ⟨a0, a1, a2⟩ := tk
          obtain ⟨b0, b1, b2⟩ := tu
          obtain ⟨k0, k1, k2⟩ := hx.pick2.tv_at c _ _ _ HK.out
          obtain ⟨u0, u1, u2⟩ := hx.pick2.tv_at q _ _ _ HN.out
          have hqm : q < m := by rw [HL.out] at hql; exact hql
          have hah := fun w hA => ahead_any (w := w) (w0 := w0) (L := Opn p g off m cap mb n l S L) (a0, a1, a2) (b0, b1, b2) hA
          have HC := Lib.hid hc; clear hc
          have i1 : (0 : Int) ≤ (c : Int) := by omega
          have i2 : (c : Int) < (m : Int) := by omega
          have i3 : (0 : Int) ≤ (q : Int) := by omega
          have i4 : (q : Int) < (m : Int) := by omega
          have i5 : decide ((c : Int) < (m : Int)) = true := decide_eq_true i2
          by_cases hlt : Heap.lt (a0, a1, a2) (b0, b1, b2)
          · have hst := hyes hcl hlt
            have HST := Lib.hid hst; clear hst
            rw [decide_eq_true hlt] at hah
            have HAH := Lib.hid hah; clear hah hyes hno hlt hkl hcl hql
            go_wp2
            go_region_held3 (fun w' => w'.cell? ⟨p, 0, none⟩ = some (.slice (some ⟨g, off, none⟩) m cap) ∧ w'.cell? ⟨g, off + c * 3, none⟩ = some (.int .i64 a0) ∧ w'.cell? ⟨g, off + c * 3 + 1, none⟩ = some (.int .i64 a1) ∧ w'.cell? ⟨g, off + c * 3 + 2, none⟩ = some (enc a2) ∧ w'.cell? ⟨g, off + q * 3, none⟩ = some (.int .i64 b0) ∧ w'.cell? ⟨g, off + q * 3 + 1, none⟩ = some (.int .i64 b1) ∧ w'.cell? ⟨g, off + q * 3 + 2, none⟩ = some (enc b2))
                (first | exact ⟨c0, k0, k1, k2, u0, u1, u2⟩ | exact ⟨r0, q0, q1, q2, v0, v1, v2⟩)
                ((go_at_call 32; refine (HAH.out _ hx.drew).mono ?_; rintro e w5 ⟨rfl, hP⟩; have r0 := hP.cell 0; obtain ⟨q0, q1, q2⟩ := hP.pick2.tv_at c _ _ _ HK.out; obtain ⟨v0, v1, v2⟩ := hP.pick2.tv_at q _ _ _ HN.out))
            go_wp2
            go_roundw
            case rel => exact ⟨j + 1, by go_num, by omega, by rw [HST.out], hP⟩
            case measure => simp [intOf]; omega
          · have hst := hno (fun h => hlt h.2)
            have HST := Lib.hid hst; clear hst
            rw [decide_eq_false hlt] at hah
            have HAH := Lib.hid hah; clear hah hyes hno hlt hkl hcl hql
            go_wp2
            go_region_held3 (fun w' => w'.cell? ⟨p, 0, none⟩ = some (.slice (some ⟨g, off, none⟩) m cap) ∧ w'.cell? ⟨g, off + c * 3, none⟩ = some (.int .i64 a0) ∧ w'.cell? ⟨g, off + c * 3 + 1, none⟩ = some (.int .i64 a1) ∧ w'.cell? ⟨g, off + c * 3 + 2, none⟩ = some (enc a2) ∧ w'.cell? ⟨g, off + q * 3, none⟩ = some (.int .i64 b0) ∧ w'.cell? ⟨g, off + q * 3 + 1, none⟩ = some (.int .i64 b1) ∧ w'.cell? ⟨g, off + q * 3 + 2, none⟩ = some (enc b2))
                (first | exact ⟨c0, k0, k1, k2, u0, u1, u2⟩ | exact ⟨r0, q0, q1, q2, v0, v1, v2⟩)
                ((go_at_call 32; refine (HAH.out _ hx.drew).mono ?_; rintro e w5 ⟨rfl, hP⟩; have r0 := hP.cell 0; obtain ⟨q0, q1, q2⟩ := hP.pick2.tv_at c _ _ _ HK.out; obtain ⟨v0, v1, v2⟩ := hP.pick2.tv_at q _ _ _ HN.out))
            go_wp2
            go_roundw
            case rel => exact ⟨j + 1, by go_num, by omega, by rw [HST.out], hP⟩
            case measure => simp [intOf]; omega
        · have hst := Heap.lst_no l k j hj2 (fun h => hcm (by have := h.1; rw [HL.out] at this; omega))
          have HST := Lib.hid hst; clear hst
          have HC := Lib.hid hc; clear hc
          have i5 : decide ((c : Int) < (m : Int)) = false := decide_eq_false (by omega)
          generalize Heap.lst l k j = q at *
          go_wp2
          go_quiet (fail)
          go_wp2
          go_roundw
          case rel => exact ⟨j + 1, by go_num, by omega, by rw [HST.out], hx.drewN _⟩
          case measure => simp [intOf]; omega
      · have hj3 : j = 2 := by omega
        subst hj3
        have hls : Heap.lst l k 2 = Heap.least l k := rfl
        rw [hls]
        have hdn := HDN.out
        rw [Heap.down] at hdn
        by_cases hlk : Heap.least l k = k
        · rw [if_pos hlk] at hdn
          have HDN := Lib.hid hdn; clear hdn
          rw [hlk]
          clear hls hlk
          go_wp2
          go_returns
          refine ⟨rfl, ?_⟩
          rw [HDN.out]
          exact Raw.cl HL.out hx
        · rw [if_neg hlk] at hdn
          have hcs := Heap.least_cases l k
          rw [HL.out] at hcs
          obtain ⟨u, hu⟩ : ∃ u, u = Heap.least l k := ⟨_, rfl⟩
          rw [← hu] at hlk hdn hcs ⊢
          have hku : k < u := by omega
          have hum : u < m := by omega
          have hkl : k < l.length := by rw [HL.out]; omega
          have hul : u < l.length := by rw [HL.out]; omega
          clear hcs hls hu
          have hsw : Heap.swap l k u = (l.set k l[u]).set u l[k] := by rw [Heap.swap, Heap.g_get l k hkl, Heap.g_get l u hul]
          have HSW := Lib.hid hsw; clear hsw
          obtain ⟨tk, htk⟩ : ∃ t, t = l[k] := ⟨_, rfl⟩
          obtain ⟨tu, htu⟩ : ∃ t, t = l[u] := ⟨_, rfl⟩
          have HK := Lib.hid (show l[k]? = some tk by rw [htk]; exact List.getElem?_eq_getElem hkl)
          have HN := Lib.hid (show l[u]? = some tu by rw [htu]; exact List.getElem?_eq_getElem hul)
          rw [← htk, ← htu] at HSW
          clear htk htu
          obtain ⟨a0, a1, a2⟩ := tk
          obtain ⟨b0, b1, b2⟩ := tu
          obtain ⟨k0, k1, k2⟩ := hx.pick2.tv_at k _ _ _ HK.out
          obtain ⟨u0, u1, u2⟩ := hx.pick2.tv_at u _ _ _ HN.out
          have HDN := Lib.hid hdn; clear hdn
          have i1 : (0 : Int) ≤ (k : Int) := by omega
          have i2 : (k : Int) < (m : Int) := by omega
          have i3 : (0 : Int) ≤ (u : Int) := by omega
          have i4 : (u : Int) < (m : Int) := by omega
          have i6 : k < m := by omega
          have ne : ((u : Int) == (k : Int)) = false := by simp; omega
          have HLK := Lib.hid hlk; clear hlk
          have hX := (hx.pick2).tv_set k hkl (b0, b1, b2)
          have hY := (hX.tv_set u (by rw [List.length_set]; exact hul) (a0, a1, a2)).drew
          have fz := hx.pick2.row_free
          obtain ⟨y0, y1, y2⟩ := hX.tv_at u b0 b1 b2 (by rw [List.getElem?_set_ne (by omega)]; exact HN.out)
          go_wp2
          go_region
          go_wp2
          go_roundw
          case rel =>
            refine ⟨u, Heap.swap l k u, rfl, .inl (by omega), by rw [Heap.swap_len]; exact HL.out, HDN.out, ?_⟩
            rw [HSW.out]
            exact hY.pick2
          case measure => simp [intOf]; omega
end
end HI
end Go.Proofs.Ytfooejfnlggncaa
