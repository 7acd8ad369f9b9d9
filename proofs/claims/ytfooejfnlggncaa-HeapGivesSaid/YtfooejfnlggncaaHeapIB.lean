/-
  The contract of the heap at int: Put.
-/
import Derived.Test.YtfooejfnlggncaaHeapIA
import Derived.Deep.DeepCutAuto
namespace Go.Proofs.Ytfooejfnlggncaa
open Go.RowKit HP
open Heap (Th)
namespace HI
section
variable {w0 w : World} {L : List HP} {p : Nat} {l : List (Th Int)} {S : List Int} {n : Int}
theorem zero_int : ∀ w, (zeroValue 3).run Try.prog w = .ok (.int .i64 0) w := fun w => by kernel_rfl

/-- behind the append -/
def PutCut (w0 : World) (L : List HP) (p : Nat) (l : List (Th Int)) (mb : Nat) (S : List Int) (n : Int) (wx : World) : Prop :=
  ∃ ao m cap, l.length = m ∧ At w0 wx (HP.one p (.cells #[.slice ao m cap, .map (some mb), .int .i64 n] 62 (0, 0)) :: row 64 3 ao m cap (tvs enc l) :: HP.set mb S :: L)

/-- the loop that sifts up -/
def PutRel (w0 : World) (L : List HP) (p : Nat) (lz : List (Th Int)) (len : Nat) (S : List Int) (n : Int) (i : Value) (wr : World) : Prop :=
  ∃ (k : Nat) (l : List (Th Int)), i = .int .i64 k ∧ k < len ∧ l.length = len ∧ lz = Heap.up l k ∧ At w0 wr (Raw p l S n :: L)

set_option maxHeartbeats 4000000 in
set_option maxRecDepth 100000 in
theorem put_raw (k : Int) (x : Int) (hl : l.length ≤ 1099511627776) (hn0 : 0 ≤ n) (hn : n ≤ 1099511627776) (hS : n + 1 ∉ S) (hA : At w0 w (Raw p l S n :: L)) :
    Calls Try.prog 12 #[.pointer (some ⟨p, 0, none⟩), .int .i64 k, enc x] w fun e w' => e = .returned (.int .i64 (n + 1)) ∧ At w0 w' (Raw p (Heap.up (l ++ [(k, n + 1, x)]) l.length) (S ++ [n + 1]) (n + 1) :: L) := by
  obtain ⟨ao, cap, mb, hO⟩ := Raw.op hA
  have c2 := hO.cell 2
  have f2 := hO.free 2
  have h1 : At w0 (w.setCell ⟨p, 2, none⟩ (.int .i64 (n + 1))).drew (HP.one p (.cells #[.slice ao l.length cap, .map (some mb), .int .i64 (n + 1)] 62 (0, 0)) :: row 64 3 ao l.length cap (tvs enc l) :: HP.set mb S :: L) := (hO.setCell 2 (.int .i64 (n + 1))).drew
  have d1 := h1.cell 1
  have d2 := h1.cell 2
  obtain ⟨w2, hrun, h2⟩ := h1.pick3.set_put Try.underlying59 Try.underlying3 (n + 1) hS
  obtain ⟨lz, hlz⟩ : ∃ lz, lz = Heap.up (l ++ [(k, n + 1, x)]) l.length := ⟨_, rfl⟩
  rw [← hlz]
  have HLZ := Lib.hid hlz; clear hlz
  have h3 := h2.pick2
  have e0 := h3.cell 0
  have e2 := h3.cell 2
  have h4 := (h3.alloc (.cells #[.int .i64 k, .int .i64 (n + 1), enc x] 64)).drew
  have x0 := h4.pick2.cell 0
  have x2 := h4.pick2.cell 2
  have hrd := h4.rdN
  have h5 := h4.pick4
  go_enter Try.func12, Try.ntmps12
  go_wp2
  go_region
  go_wp2
  go_upto_region 5 with (fail)
  go_cut [] (fun wx => PutCut w0 L p (l ++ [(k, n + 1, x)]) mb (S ++ [n + 1]) (n + 1) wx)
  case first =>
    go_region_law (refine step_append_row rfl (.tmp 30) (.tmp 38) 60 rfl (.agg #[.int .i64 0, .int .i64 0, .int .i64 0]) 24 under_ths info_th rfl (by decide) h5 (by simp [Act.eval]) (some ⟨w2.heap.size, 0, none⟩) 1 1 [.int .i64 k, .int .i64 (n + 1), enc x] (by simp [Act.eval]) rfl hrd (one [(k, n + 1, x)]) (by unfold maxLen; omega) (by omega) ?_; intro ao' cap' w3 hF; have hG := hF.pick3; have g0 := hG.cell 0; have g1 := hG.free 0)
    all_goals
      go_wp2
      go_meet
      have hH := hG.setCell 0 (.slice ao' (l.length + 1) cap')
      exact ⟨ao', l.length + 1, cap', by simp, by rw [tvs_append]; exact hH.pick3.drop⟩
  case rest =>
    obtain ⟨ao', m, cap', hm, hH⟩ := hcut
    have z0 := hH.cell 0
    have hm2 : m = l.length + 1 := by rw [← hm]; simp
    clear h1 d1 d2 hrun h2 h3 e0 e2 h4 x0 x2 hrd h5 hO c2 f2 hA
    generalize l ++ [(k, n + 1, x)] = lx at *
    obtain ⟨q, hq⟩ : ∃ q, q = l.length := ⟨_, rfl⟩
    rw [← hq] at HLZ hl hm2
    clear hq
    have hB : At w0 wc (Raw p lx (S ++ [n + 1]) (n + 1) :: L) := Raw.cl hm hH
    have hmb : m ≤ 1099511627777 := by omega
    have hmi : (m : Int) - 1 = (q : Int) := by omega
    have HM := Lib.hid hm; clear hm
    clear hH
    go_wp2
    go_loopw [7] (fun i wr => PutRel w0 L p lz m (S ++ [n + 1]) (n + 1) i wr) (fun i _ => (intOf i).toNat)
    case atStart => exact ⟨q, lx, rfl, by omega, HM.out, HLZ.out, hB⟩
    case round =>
      clear hm2 hmi z0
      obtain ⟨k, l, rfl, hk, hlen, hup, hr⟩ := hrel
      have HUP := Lib.hid hup; clear hup
      obtain ⟨ao, cap, mb, hO⟩ := Raw.op hr
      rw [hlen] at hO
      have c0 := hO.cell 0
      have c2 := hO.cell 2
      by_cases hk0 : k = 0
      · subst hk0
        have HL := Lib.hid hlen; clear hlen
        go_wp2
        go_returns
        refine ⟨rfl, ?_⟩
        have := HUP.out
        rw [Heap.up] at this
        rw [this]
        exact hr
      · have hk1 : (1 : Int) ≤ (k : Int) := by omega
        obtain ⟨u, hu⟩ : ∃ u : Nat, u = (k - 1) / 2 := ⟨_, rfl⟩
        have hu2 : ((k : Int) - 1) / 2 = (u : Int) := by omega
        have huk : u < k := by omega
        have hkl : k < l.length := by omega
        have hul : u < l.length := by omega
        have HU := Lib.hid hu; clear hu
        have hup := HUP.out
        rw [Heap.up, if_neg hk0, ← HU.out, Heap.g_get l k hkl, Heap.g_get l u hul] at hup
        have HUP := Lib.hid hup; clear hup
        obtain ⟨g, off, rfl⟩ := hO.pick2.row_some (by rw [tvs_len]; omega)
        have hsw : Heap.swap l k u = (l.set k l[u]).set u l[k] := by rw [Heap.swap, Heap.g_get l k hkl, Heap.g_get l u hul]
        have HSW := Lib.hid hsw; clear hsw
        obtain ⟨tk, htk⟩ : ∃ t, t = l[k] := ⟨_, rfl⟩
        obtain ⟨tu, htu⟩ : ∃ t, t = l[u] := ⟨_, rfl⟩
        have HK := Lib.hid (show l[k]? = some tk by rw [htk]; exact List.getElem?_eq_getElem hkl)
        have HN := Lib.hid (show l[u]? = some tu by rw [htu]; exact List.getElem?_eq_getElem hul)
        rw [← htk, ← htu] at HUP HSW
        clear htk htu
        obtain ⟨a0, a1, a2⟩ := tk
        obtain ⟨b0, b1, b2⟩ := tu
        obtain ⟨k0, k1, k2⟩ := hO.pick2.tv_at k _ _ _ HK.out
        obtain ⟨u0, u1, u2⟩ := hO.pick2.tv_at u _ _ _ HN.out
        have hah := fun w hA => ahead_any (w := w) (w0 := w0) (L := HP.one p (.cells #[.slice (some ⟨g, off, none⟩) m cap, .map (some mb), .int .i64 (n + 1)] 62 (0, 0)) :: row 64 3 (some ⟨g, off, none⟩) m cap (tvs enc l) :: HP.set mb (S ++ [n + 1]) :: L) (a0, a1, a2) (b0, b1, b2) hA
        have i1 : (0 : Int) ≤ (k : Int) := by omega
        have i2 : (k : Int) < (m : Int) := by omega
        have i3 : (0 : Int) ≤ (u : Int) := by omega
        have i4 : (u : Int) < (m : Int) := by omega
        have HL := Lib.hid hlen; clear hlen
        by_cases hlt : Heap.lt (a0, a1, a2) (b0, b1, b2)
        · have hd : decide (Heap.lt (a0, a1, a2) (b0, b1, b2)) = true := decide_eq_true hlt
          rw [hd] at hah
          have hup := HUP.out
          rw [if_pos hlt] at hup
          have HAH := Lib.hid hah; clear hah hd hlt HUP
          have HUP := Lib.hid hup; clear hup
          go_wp2
          go_region_held3 (fun w' => w'.cell? ⟨p, 0, none⟩ = some (.slice (some ⟨g, off, none⟩) m cap) ∧ w'.cell? ⟨g, off + k * 3, none⟩ = some (.int .i64 a0) ∧ w'.cell? ⟨g, off + k * 3 + 1, none⟩ = some (.int .i64 a1) ∧ w'.cell? ⟨g, off + k * 3 + 2, none⟩ = some (enc a2) ∧ w'.cell? ⟨g, off + u * 3, none⟩ = some (.int .i64 b0) ∧ w'.cell? ⟨g, off + u * 3 + 1, none⟩ = some (.int .i64 b1) ∧ w'.cell? ⟨g, off + u * 3 + 2, none⟩ = some (enc b2))
            (first | exact ⟨c0, k0, k1, k2, u0, u1, u2⟩ | exact ⟨r0, q0, q1, q2, v0, v1, v2⟩)
            ((go_at_call 32; refine (HAH.out _ hO.drew).mono ?_; rintro e w5 ⟨rfl, hP⟩; have r0 := hP.cell 0; obtain ⟨q0, q1, q2⟩ := hP.pick2.tv_at k _ _ _ HK.out; obtain ⟨v0, v1, v2⟩ := hP.pick2.tv_at u _ _ _ HN.out))
          go_wp2
          have hX := (hP.pick2).tv_set k hkl (b0, b1, b2)
          have hY := (hX.tv_set u (by rw [List.length_set]; exact hul) (a0, a1, a2)).drew
          have fz := hP.pick2.row_free
          obtain ⟨y0, y1, y2⟩ := hX.tv_at u b0 b1 b2 (by rw [List.getElem?_set_ne (by omega)]; exact HN.out)
          go_region
          go_wp2
          go_roundw
          case rel =>
            refine ⟨u, Heap.swap l k u, rfl, by omega, by rw [Heap.swap_len]; exact HL.out, HUP.out, Raw.cl (ao := some ⟨g, off, none⟩) (k := m) (cap := cap) (mb := mb) (by rw [Heap.swap_len]; exact HL.out) ?_⟩
            rw [HSW.out]
            exact hY.pick2
          case measure => simp [intOf]; omega
        · have hd : decide (Heap.lt (a0, a1, a2) (b0, b1, b2)) = false := decide_eq_false hlt
          rw [hd] at hah
          have hup := HUP.out
          rw [if_neg hlt] at hup
          have HAH := Lib.hid hah; clear hah hd hlt HUP
          have HUP := Lib.hid hup; clear hup
          go_wp2
          go_region_held3 (fun w' => w'.cell? ⟨p, 0, none⟩ = some (.slice (some ⟨g, off, none⟩) m cap) ∧ w'.cell? ⟨g, off + k * 3, none⟩ = some (.int .i64 a0) ∧ w'.cell? ⟨g, off + k * 3 + 1, none⟩ = some (.int .i64 a1) ∧ w'.cell? ⟨g, off + k * 3 + 2, none⟩ = some (enc a2) ∧ w'.cell? ⟨g, off + u * 3, none⟩ = some (.int .i64 b0) ∧ w'.cell? ⟨g, off + u * 3 + 1, none⟩ = some (.int .i64 b1) ∧ w'.cell? ⟨g, off + u * 3 + 2, none⟩ = some (enc b2))
            (first | exact ⟨c0, k0, k1, k2, u0, u1, u2⟩ | exact ⟨r0, q0, q1, q2, v0, v1, v2⟩)
            ((go_at_call 32; refine (HAH.out _ hO.drew).mono ?_; rintro e w5 ⟨rfl, hP⟩; have r0 := hP.cell 0; have r2 := hP.cell 2; obtain ⟨q0, q1, q2⟩ := hP.pick2.tv_at k _ _ _ HK.out; obtain ⟨v0, v1, v2⟩ := hP.pick2.tv_at u _ _ _ HN.out))
          go_wp2
          go_wp2
          go_returns
          refine ⟨rfl, ?_⟩
          rw [HUP.out]
          exact Raw.cl HL.out hP
end
end HI
end Go.Proofs.Ytfooejfnlggncaa
