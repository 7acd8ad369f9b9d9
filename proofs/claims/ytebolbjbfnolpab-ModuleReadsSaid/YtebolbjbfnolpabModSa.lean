/-
  The reference's sameTables.
-/
import Derived.Test.YtebolbjbfnolpabModV
namespace Go.Proofs.Ytebolbjbfnolpab
open Go.RowKit HP
open Go.Proofs.Ytebolbjbfnolpab.Mod

section
variable {w0 w : World} {L : List HP}

def TkRel {α : Type} (w : World) (l l2 : List α) (n : Nat) (i : Value) (wr : World) : Prop := ∃ k : Nat, i = .int .i64 k ∧ k ≤ n ∧ l.take k = l2.take k ∧ At w wr []

set_option maxRecDepth 100000 in
set_option maxHeartbeats 8000000 in
theorem rsameTabs_any (l l2 : List TabD) (ao ao2 : Option Addr) (n n2 cap cap2 : Nat) (hn : l.length = n) (hn2 : l2.length = n2) (hm : n ≤ maxLen) (hm2 : n2 ≤ maxLen) (h1 : Kn.At_ kTable w ao l) (h2 : Kn.At_ kTable w ao2 l2) (hA : At w0 w L) :
    Calls Try.prog 25 #[.slice ao n cap, .slice ao2 n2 cap2] w fun e w' => e = .returned (.bool (decide (l.map toTab = l2.map toTab))) ∧ At w0 w' L := by
  suffices h : Calls Try.prog 25 #[.slice ao n cap, .slice ao2 n2 cap2] w fun e w' => e = .returned (.bool (decide (l.map toTab = l2.map toTab))) ∧ At w w' [] from
    h.mono fun e w' h => ⟨h.1, hA.join h.2⟩
  clear hA
  unfold maxLen at hm hm2
  by_cases hlen : n = n2
  · subst hlen
    have T : ((n : Int) != (n : Int)) = false := by simp
    have HN := Lib.hid hn; clear hn
    have HN2 := Lib.hid hn2; clear hn2
    clear hm2
    obtain ⟨res, hres⟩ : ∃ res, res = decide (l.map toTab = l2.map toTab) := ⟨_, rfl⟩
    rw [← hres]
    have HRES := Lib.hid hres; clear hres
    go_enter Try.func25, Try.ntmps25
    go_wp2
    go_loopw [5] (fun i wr => TkRel w (l.map toTab) (l2.map toTab) n i wr) (fun i _ => n - (intOf i).toNat)
    case atStart => exact ⟨0, rfl, by omega, rfl, At.start w⟩
    case round =>
      obtain ⟨k, rfl, hk, hx, hW⟩ := hrel
      have HX := Lib.hid hx; clear hx
      by_cases hlt : k < n
      · have hlt1 : k < l.length := by rw [HN.out]; exact hlt
        have hlt2 : k < l2.length := by rw [HN2.out]; exact hlt
        obtain ⟨b, off, rfl⟩ : ∃ b off, ao = some ⟨b, off, none⟩ := by
          rcases h1 with rfl | ⟨b, off, e, _⟩
          · simp at hlt1
          · exact ⟨b, off, e⟩
        obtain ⟨b2, off2, rfl⟩ : ∃ b off, ao2 = some ⟨b, off, none⟩ := by
          rcases h2 with rfl | ⟨b, off, e, _⟩
          · simp at hlt2
          · exact ⟨b, off, e⟩
        have HS := Lib.hid (map_take_succ toTab l k hlt1)
        have HS2 := Lib.hid (map_take_succ toTab l2 k hlt2)
        have HNE := Lib.hid (map_ne toTab l l2 k hlt1 hlt2)
        obtain ⟨a1, c1, d0, d1, r1, m1, _⟩ := table_at h1 k hlt1
        obtain ⟨a2, c2, e0, e1, r2, m2, _⟩ := table_at h2 k hlt2
        unfold maxLen at m1 m2
        generalize l[k] = t1 at *
        generalize l2[k] = t2 at *
        obtain ⟨x, y, _⟩ := t1
        obtain ⟨x2, y2, _⟩ := t2
        simp only at d0 d1 r1 m1 e0 e1 r2 m2
        have D0 := Lib.hid d0; have D1 := Lib.hid d1; have E0 := Lib.hid e0; have E1 := Lib.hid e1
        have d0 := hW.oldCell d0
        have d1 := hW.oldCell d1
        have e0 := hW.oldCell e0
        have e1 := hW.oldCell e1
        have hxl : (x.map toP).length = x.length := by simp
        have hxl2 : (x2.map toP).length = x2.length := by simp
        have HTX := Lib.hid (show toTab (x, y, ()) = (x.map toP, y) from rfl)
        have HTY := Lib.hid (show toTab (x2, y2, ()) = (x2.map toP, y2) from rfl)
        generalize x.map toP = X at *
        generalize x2.map toP = Y at *
        generalize x.length = nx at *
        generalize x2.length = ny at *
        have HXL := Lib.hid hxl; clear hxl
        have HYL := Lib.hid hxl2; clear hxl2
        have hbad : (X, y) ≠ (Y, y2) → false = res := fun h => by
          rw [HRES.out]; exact (decide_eq_false (HNE.out (by rw [HTX.out, HTY.out]; exact h))).symm
        have HBAD := Lib.hid hbad; clear hbad
        by_cases f1 : y = y2
        · subst f1
          by_cases f2 : nx = ny
          · subst f2
            go_wp2
            go_quiet (fail)
            go_wp2
            go_loopw [6] (fun i wr => TkRel w X Y nx i wr) (fun i _ => nx - (intOf i).toNat)
            case atStart => exact ⟨0, rfl, by omega, rfl, hW.drewN _⟩
            case round =>
              clear hW d0 d1 e0 e1
              obtain ⟨j, rfl, hj, hx, hW⟩ := hrel
              have HX2 := Lib.hid hx; clear hx
              have d0 := hW.oldCell D0.out
              have e0 := hW.oldCell E0.out
              by_cases hlt : j < nx
              · have hj1 : j < X.length := by rw [HXL.out]; exact hlt
                have hj2 : j < Y.length := by rw [HYL.out]; exact hlt
                obtain ⟨b3, off3, rfl, hc⟩ := r1.some_ (by rw [pvs_len]; omega)
                obtain ⟨b4, off4, rfl, hc2⟩ := r2.some_ (by rw [pvs_len]; omega)
                obtain ⟨v1, v2⟩ := pvs_get .i64 .i64 X j hj1
                obtain ⟨v3, v4⟩ := pvs_get .i64 .i64 Y j hj2
                have z1 := hW.oldCell (hc _ _ v1)
                have z2 := hW.oldCell (hc _ _ v2)
                have z3 := hW.oldCell (hc2 _ _ v3)
                have z4 := hW.oldCell (hc2 _ _ v4)
                rw [← Nat.add_assoc] at z2 z4
                clear hc hc2 v1 v2 v3 v4
                have HD1 := Lib.hid (List.take_succ_eq_append_getElem hj1)
                have HD2 := Lib.hid (List.take_succ_eq_append_getElem hj2)
                have hne : X[j] ≠ Y[j] → (X, y) ≠ (Y, y) := fun h e => h (by injection e with e; subst e; rfl)
                generalize X[j] = p at *
                generalize Y[j] = q at *
                have HNE2 := Lib.hid hne; clear hne
                obtain ⟨p1, p2⟩ := p
                obtain ⟨q1, q2⟩ := q
                simp only at z1 z2 z3 z4
                clear hj1 hj2
                by_cases g1 : p1 = q1
                · subst g1
                  by_cases g2 : p2 = q2
                  · subst g2
                    go_wp2
                    go_quiet (fail)
                    go_wp2
                    go_roundw
                    case rel => exact ⟨j + 1, by go_num, by omega, by rw [HD1.out, HD2.out, HX2.out], hW.drewN _⟩
                    case measure => simp [intOf]; omega
                  · have T1 : (p2 == q2) = false := by simp [g2]
                    have G := Lib.hid g2; clear g2
                    go_wp2
                    go_quiet (fail)
                    go_wp2
                    go_returns
                    exact ⟨ret_bool (HBAD.out (HNE2.out (fun e => G.out (by injection e)))), hW.drewN _⟩
                · have T1 : (p1 == q1) = false := by simp [g1]
                  have G := Lib.hid g1; clear g1
                  go_wp2
                  go_quiet (fail)
                  go_wp2
                  go_returns
                  exact ⟨ret_bool (HBAD.out (HNE2.out (fun e => G.out (by injection e)))), hW.drewN _⟩
              · have hjx : nx = j := by omega
                have hXY : X = Y := by
                  have := HX2.out
                  rwa [List.take_of_length_le (by rw [HXL.out]; omega), List.take_of_length_le (by rw [HYL.out]; omega)] at this
                have HXY := Lib.hid hXY; clear hXY
                subst hjx
                go_wp2
                go_roundw
                case rel => exact ⟨k + 1, by go_num, by omega, by rw [HS.out, HS2.out, HX.out, HTX.out, HTY.out, HXY.out], hW⟩
                case measure => simp [intOf]; omega
          · have T1 : ((nx : Int) != (ny : Int)) = true := by simp; omega
            have hne : (X, y) ≠ (Y, y) := fun e => f2 (by injection e with e; rw [← HXL.out, ← HYL.out, e])
            have HN3 := Lib.hid hne; clear hne f2
            go_wp2
            go_quiet (fail)
            go_wp2
            go_returns
            exact ⟨ret_bool (HBAD.out HN3.out), hW.drewN _⟩
        · have T1 : (y != y2) = true := by simp [f1]
          have hne : (X, y) ≠ (Y, y2) := fun e => f1 (by injection e)
          have HN3 := Lib.hid hne; clear hne f1
          go_wp2
          go_quiet (fail)
          go_wp2
          go_returns
          exact ⟨ret_bool (HBAD.out HN3.out), hW.drewN _⟩
      · have hkl : n = k := by omega
        have hall : decide (l.map toTab = l2.map toTab) = true := by
          apply decide_eq_true
          have := HX.out
          rwa [List.take_of_length_le (by rw [List.length_map, HN.out]; omega), List.take_of_length_le (by rw [List.length_map, HN2.out]; omega)] at this
        rw [hall] at HRES
        subst hkl
        go_wp2
        go_returns
        exact ⟨ret_bool HRES.out.symm, hW⟩
  · have T : ((n : Int) != (n2 : Int)) = true := by simp; omega
    have hne : decide (l.map toTab = l2.map toTab) = false := by
      apply decide_eq_false
      intro e
      have := congrArg List.length e
      simp only [List.length_map] at this
      omega
    rw [hne]
    clear hlen hne hn hn2
    go_enter Try.func25, Try.ntmps25
    go_wp2
    go_returns
    exact ⟨rfl, At.start w⟩
end
end Go.Proofs.Ytebolbjbfnolpab
