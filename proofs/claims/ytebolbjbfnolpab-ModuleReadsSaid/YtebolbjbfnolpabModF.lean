/-
  The contracts of IndexFunc and ContainsFunc at instructions and tables (printed by wip/genF.py).
-/
import Derived.Test.YtebolbjbfnolpabModE
namespace Go.Proofs.Ytebolbjbfnolpab
open Go.RowKit HP

section
variable {w0 w : World} {L : List HP}

def IdxRel {α : Type} (p : α → Bool) (w : World) (l : List α) (n : Nat) (i : Value) (wr : World) : Prop :=
  ∃ k : Nat, i = .int .i64 k ∧ k ≤ n ∧ Mod.bad p l 0 = Mod.bad p (l.drop k) k ∧ At w wr []

theorem indexI_any (l : List (Int × Int)) (ao : Option Addr) (n cap : Nat) (hn : l.length = n) (hm : n ≤ maxLen) (hrd : Rd w ao (pvs .i64 .i64 l)) :
    Calls Try.prog 79 #[.slice ao n cap, .func (.func 63) #[] #[]] w fun e w' => e = .returned (.int .i64 (Mod.bad Mod.ins l 0)) ∧ At w w' [] := by
  unfold maxLen at hm
  have HN := Lib.hid hn; clear hn
  go_enter Try.func79, Try.ntmps79
  go_wp2
  go_loopw [8] (fun i wr => IdxRel Mod.ins w l n i wr) (fun i _ => n - (intOf i).toNat)
  case atStart => exact ⟨0, rfl, by omega, rfl, At.start w⟩
  case round =>
    obtain ⟨k, rfl, hk, hx, hW⟩ := hrel
    have HX := Lib.hid hx; clear hx
    by_cases hlt : k < n
    · have hlt1 : k < l.length := by rw [HN.out]; exact hlt
      have HD := Lib.hid (show l.drop k = l[k] :: l.drop (k + 1) from List.drop_eq_getElem_cons hlt1)
      have hrd1 := hrd.old hW
      obtain ⟨b, off, rfl, hc⟩ := hrd1.some_ (by rw [pvs_len]; omega)
      have d0 := hc _ _ (pvs_get .i64 .i64 l k hlt1).1
      have d1 := hc _ _ (pvs_get .i64 .i64 l k hlt1).2
      rw [← Nat.add_assoc] at d1
      clear hc hrd1
      obtain ⟨x, y, hxy⟩ : ∃ x y, l[k] = (x, y) := ⟨_, _, rfl⟩
      rw [hxy] at d0 d1 HD
      have hcl := ins1_any x y hW
      cases he : Instr.right x y with
      | false =>
        rw [he] at hcl
        have HC := Lib.hid hcl; clear hcl
        have HE := Lib.hid he; clear he
        go_wp2_with (go_at_call 63; refine HC.out.mono ?_; rintro e w' ⟨rfl, hV⟩)
        go_returns
        exact ⟨ret_int (by rw [HX.out, HD.out, Mod.bad, if_neg (by show ¬ Instr.right x y = true; rw [HE.out]; decide)]), by assumption⟩
      | true =>
        rw [he] at hcl
        have HC := Lib.hid hcl; clear hcl
        have HE := Lib.hid he; clear he
        go_wp2_with (go_at_call 63; refine HC.out.mono ?_; rintro e w' ⟨rfl, hV⟩)
        go_roundw
        case rel => exact ⟨k + 1, by go_num, by omega, by rw [HX.out, HD.out, Mod.bad]; exact if_pos HE.out, by assumption⟩
        case measure => simp [intOf]; omega
    · have hkl : k = n := by omega
      have hnil : l.drop k = [] := List.drop_of_length_le (by rw [HN.out]; omega)
      have HL := Lib.hid hnil; clear hnil
      subst hkl
      go_wp2
      go_returns
      exact ⟨ret_int (by rw [HX.out, HL.out]; simp [Mod.bad]), hW⟩

theorem hasI_any (l : List (Int × Int)) (ao : Option Addr) (n cap : Nat) (hn : l.length = n) (hm : n ≤ maxLen) (hA : At w0 w L) (hrd : Rd w ao (pvs .i64 .i64 l)) :
    Calls Try.prog 62 #[.slice ao n cap, .func (.func 63) #[] #[]] w fun e w' => e = .returned (.bool (!l.all Mod.ins)) ∧ At w0 w' L := by
  suffices h : Calls Try.prog 62 #[.slice ao n cap, .func (.func 63) #[] #[]] w fun e w' => e = .returned (.bool (!l.all Mod.ins)) ∧ At w w' [] from
    h.mono fun e w' h => ⟨h.1, hA.join h.2⟩
  have hI := indexI_any l ao n cap hn hm hrd
  have HI := Lib.hid hI; clear hI
  rw [← Mod.bad_all Mod.ins l 0]
  generalize Mod.bad Mod.ins l 0 = r at *
  go_enter Try.func62, Try.ntmps62
  go_wp2_with (go_at_call 79; refine HI.out.mono ?_; rintro e w' ⟨rfl, hV⟩)
  go_returns
  exact ⟨rfl, by assumption⟩

def tabOk (t : TabD) : Bool := Mod.tab (toTab t)
theorem tabOk_all (l : List TabD) : l.all tabOk = (l.map toTab).all Mod.tab := by
  induction l with
  | nil => rfl
  | cons x r ih => simp [tabOk, ih]

theorem indexT_any (l : List TabD) (ao : Option Addr) (n cap : Nat) (hn : l.length = n) (hm : n ≤ maxLen) (hrd : Kn.At_ kTable w ao l) :
    Calls Try.prog 80 #[.slice ao n cap, .func (.func 66) #[] #[]] w fun e w' => e = .returned (.int .i64 (Mod.bad tabOk l 0)) ∧ At w w' [] := by
  unfold maxLen at hm
  have HN := Lib.hid hn; clear hn
  go_enter Try.func80, Try.ntmps80
  go_wp2
  go_loopw [8] (fun i wr => IdxRel tabOk w l n i wr) (fun i _ => n - (intOf i).toNat)
  case atStart => exact ⟨0, rfl, by omega, rfl, At.start w⟩
  case round =>
    obtain ⟨k, rfl, hk, hx, hW⟩ := hrel
    have HX := Lib.hid hx; clear hx
    by_cases hlt : k < n
    · have hlt1 : k < l.length := by rw [HN.out]; exact hlt
      have HD := Lib.hid (show l.drop k = l[k] :: l.drop (k + 1) from List.drop_eq_getElem_cons hlt1)
      obtain ⟨b, off, rfl⟩ : ∃ b off, ao = some ⟨b, off, none⟩ := by
        rcases hrd with rfl | ⟨b, off, e, _⟩
        · simp at hlt1
        · exact ⟨b, off, e⟩
      obtain ⟨x, y, hxy⟩ : ∃ x y, l[k] = (x, y, ()) := ⟨_, _, rfl⟩
      obtain ⟨ao1, cap1, d0, d1, hr1, hm1, _⟩ := table_at hrd k hlt1
      rw [hxy] at d0 d1 hr1 hm1 HD
      simp only at d0 d1 hr1 hm1
      have d0 := hW.oldCell d0
      have d1 := hW.oldCell d1
      have hcl := tab1_any (x.map toP) y ao1 x.length cap1 (by simp) hm1 hW (hr1.old hW)
      cases he : Mod.tab (x.map toP, y) with
      | false =>
        rw [he] at hcl
        have HC := Lib.hid hcl; clear hcl
        have HE := Lib.hid he; clear he
        go_wp2_with (go_at_call 66; refine HC.out.mono ?_; rintro e w' ⟨rfl, hV⟩)
        go_returns
        exact ⟨ret_int (by rw [HX.out, HD.out, Mod.bad, if_neg (by show ¬ Mod.tab (x.map toP, y) = true; rw [HE.out]; decide)]), by assumption⟩
      | true =>
        rw [he] at hcl
        have HC := Lib.hid hcl; clear hcl
        have HE := Lib.hid he; clear he
        go_wp2_with (go_at_call 66; refine HC.out.mono ?_; rintro e w' ⟨rfl, hV⟩)
        go_roundw
        case rel => exact ⟨k + 1, by go_num, by omega, by rw [HX.out, HD.out, Mod.bad]; exact if_pos HE.out, by assumption⟩
        case measure => simp [intOf]; omega
    · have hkl : k = n := by omega
      have hnil : l.drop k = [] := List.drop_of_length_le (by rw [HN.out]; omega)
      have HL := Lib.hid hnil; clear hnil
      subst hkl
      go_wp2
      go_returns
      exact ⟨ret_int (by rw [HX.out, HL.out]; simp [Mod.bad]), hW⟩

theorem hasT_any (l : List TabD) (ao : Option Addr) (n cap : Nat) (hn : l.length = n) (hm : n ≤ maxLen) (hA : At w0 w L) (hrd : Kn.At_ kTable w ao l) :
    Calls Try.prog 65 #[.slice ao n cap, .func (.func 66) #[] #[]] w fun e w' => e = .returned (.bool (!l.all tabOk)) ∧ At w0 w' L := by
  suffices h : Calls Try.prog 65 #[.slice ao n cap, .func (.func 66) #[] #[]] w fun e w' => e = .returned (.bool (!l.all tabOk)) ∧ At w w' [] from
    h.mono fun e w' h => ⟨h.1, hA.join h.2⟩
  have hI := indexT_any l ao n cap hn hm hrd
  have HI := Lib.hid hI; clear hI
  rw [← Mod.bad_all tabOk l 0]
  generalize Mod.bad tabOk l 0 = r at *
  go_enter Try.func65, Try.ntmps65
  go_wp2_with (go_at_call 80; refine HI.out.mono ?_; rintro e w' ⟨rfl, hV⟩)
  go_returns
  exact ⟨rfl, by assumption⟩
end
end Go.Proofs.Ytebolbjbfnolpab
