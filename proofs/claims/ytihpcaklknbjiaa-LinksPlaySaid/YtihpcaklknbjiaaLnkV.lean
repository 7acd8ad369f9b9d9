/-
  The reference's web: Fall: what can be reached, by passes.
-/
import Derived.Test.YtihpcaklknbjiaaLnkT
import Derived.Test.YtihpcaklknbjiaaLnkQ
namespace Go.Proofs.Ytihpcaklknbjiaa
open Go.RowKit HP
open Go.Proofs.Ytihpcaklknbjiaa.Lnk

namespace Lnk
theorem countP_le {p q : Pr → Bool} (h : ∀ x, p x = true → q x = true) : ∀ l : List Pr, l.countP p ≤ l.countP q
  | [] => by simp
  | y :: l => by
    have := countP_le h l
    rw [List.countP_cons, List.countP_cons]
    cases hp : p y with
    | true => rw [h y hp]; simp; exact this
    | false => simp; omega
theorem countP_lt {p q : Pr → Bool} (h : ∀ x, p x = true → q x = true) {x : Pr} (hp : p x = false) (hq : q x = true) : ∀ {l : List Pr}, x ∈ l → l.countP p < l.countP q
  | y :: l, hx => by
    rw [List.countP_cons, List.countP_cons]
    have h1 := countP_le h l
    rcases List.mem_cons.1 hx with rfl | hx
    · rw [hp, hq]; simp; omega
    · have h2 := countP_lt h hp hq hx
      cases hy : p y with
      | true => rw [h y hy]; simp; exact h2
      | false => simp; omega
theorem insI_split {l : List Int} (h : l.Pairwise (· < ·)) (y : Int) : insI l y = l ∨ ∃ l1 l2, l = l1 ++ l2 ∧ insI l y = l1 ++ y :: l2 := by
  by_cases hy : y ∈ l
  · exact .inl (rising_unique (insI_rising h y) h fun x => by rw [insI_mem]; exact ⟨fun h => h.elim id (fun e => e ▸ hy), .inl⟩)
  · refine .inr ⟨l.filter (fun z => decide (z < y)), l.filter (fun z => decide (y < z)), ?_, ?_⟩
    · refine rising_unique h (List.pairwise_append.2 ⟨h.filter _, h.filter _, fun a ha b hb => ?_⟩) fun x => ?_
      · simp at ha hb; omega
      · rw [List.mem_append, List.mem_filter, List.mem_filter]
        simp only [decide_eq_true_eq]
        constructor
        · intro hx
          have : x ≠ y := fun e => hy (e ▸ hx)
          rcases Int.lt_or_gt_of_ne this with h1 | h1
          · exact .inl ⟨hx, h1⟩
          · exact .inr ⟨hx, h1⟩
        · rintro (h1 | h1) <;> exact h1.1
    · refine rising_unique (insI_rising h y) (List.pairwise_append.2 ⟨h.filter _, List.pairwise_cons.2 ⟨fun b hb => ?_, h.filter _⟩, fun a ha b hb => ?_⟩) fun x => ?_
      · simp at hb; omega
      · simp at ha hb; omega
      · rw [insI_mem, List.mem_append, List.mem_cons, List.mem_filter, List.mem_filter]
        simp only [decide_eq_true_eq]
        constructor
        · rintro (hx | rfl)
          · have : x ≠ y := fun e => hy (e ▸ hx)
            rcases Int.lt_or_gt_of_ne this with h1 | h1
            · exact .inl ⟨hx, h1⟩
            · exact .inr (.inr ⟨hx, h1⟩)
          · exact .inr (.inl rfl)
        · rintro (h1 | rfl | h1)
          · exact .inl h1.1
          · exact .inr rfl
          · exact .inl h1.1
theorem drop_ins {l : List Int} (h : l.Pairwise (· < ·)) (y : Int) {j : Nat} {z : Int} (hz : z ∈ l.drop j) : z ∈ (insI l y).drop j := by
  rcases insI_split h y with e | ⟨l1, l2, e1, e2⟩
  · rw [e]; exact hz
  · rw [e2]
    rw [e1, List.drop_append] at hz
    rw [List.drop_append]
    rcases List.mem_append.1 hz with hz | hz
    · exact List.mem_append.2 (.inl hz)
    · refine List.mem_append.2 (.inr ?_)
      cases hk : j - l1.length with
      | zero => rw [hk] at hz; exact List.mem_cons_of_mem _ hz
      | succ k =>
        rw [hk] at hz
        rw [List.drop_succ_cons]
        have : (l2.drop k).drop 1 = l2.drop (k + 1) := by rw [List.drop_drop]
        rw [← this] at hz
        exact List.mem_of_mem_drop hz

section
variable {N : Int → List Int} {U : List Int} {l : List Pr} {a x y : Int} {all all0 S : List Int} {n i : Nat}
def Cls (N : Int → List Int) (all : List Int) : Prop := ∀ x ∈ all, ∀ y ∈ N x, y ∈ all
def inn (l : List Pr) (all : List Int) : Nat := l.countP fun p => decide (p.1 ∈ all ∧ p.2 ∈ all)
/-- behind n passes -/
structure FlI (N : Int → List Int) (l : List Pr) (a : Int) (U : List Int) (n : Nat) (all : List Int) : Prop where
  ri : all.Pairwise (· < ·)
  ha : a ∈ all
  re : ∀ x ∈ all, Reach N a x
  un : ∀ x ∈ all, x ∈ U
  cl : Cls N all ∨ n ≤ inn l all
/-- inside a pass that began at all0 -/
structure FlP (N : Int → List Int) (all0 : List Int) (i : Nat) (all : List Int) : Prop where
  ri : all.Pairwise (· < ·)
  su : ∀ x ∈ all0, x ∈ all
  cm : ∀ P : Int → Prop, (∀ x ∈ all0, P x) → (∀ y z, P y → z ∈ N y → P z) → ∀ x ∈ all, P x
  pr : ∀ x ∈ all0, (∀ y ∈ N x, y ∈ all) ∨ x ∈ all.drop i
/-- while x is looked at, of whose neighbours those of S are over -/
structure FlS (N : Int → List Int) (all0 : List Int) (i : Nat) (x : Int) (S all : List Int) : Prop where
  ri : all.Pairwise (· < ·)
  su : ∀ x ∈ all0, x ∈ all
  cm : ∀ P : Int → Prop, (∀ x ∈ all0, P x) → (∀ y z, P y → z ∈ N y → P z) → ∀ x ∈ all, P x
  xm : x ∈ all
  pr : ∀ z ∈ all0, (∀ y ∈ N z, y ∈ all) ∨ z = x ∨ z ∈ all.drop (i + 1)
  dn : ∀ y ∈ S, y ∈ all
theorem FlI.start (hU : a ∈ U) : FlI N l a U 0 [a] :=
  ⟨by simp, by simp, fun x hx => by simp at hx; subst hx; exact Reach.refl N x, fun x hx => by simp at hx; subst hx; exact hU, .inr (Nat.zero_le _)⟩
theorem FlI.pass (h : FlI N l a U n all) : FlP N all 0 all := ⟨h.ri, fun _ h => h, fun _ h1 _ => h1, fun x hx => .inr hx⟩
theorem FlP.unU (h : FlP N all0 i all) (h0 : ∀ x ∈ all0, x ∈ U) (hU : ∀ x, ∀ y ∈ N x, y ∈ U) : ∀ z ∈ all, z ∈ U := h.cm (· ∈ U) h0 fun y z _ hz => hU y z hz
theorem FlS.unU (h : FlS N all0 i x S all) (h0 : ∀ x ∈ all0, x ∈ U) (hU : ∀ x, ∀ y ∈ N x, y ∈ U) : ∀ x ∈ all, x ∈ U := h.cm (· ∈ U) h0 fun y z _ hz => hU y z hz
theorem rising_le {l U : List Int} (h : l.Pairwise (· < ·)) (hs : ∀ x ∈ l, x ∈ U) : l.length ≤ U.length := nodup_le (h.imp fun h => Int.ne_of_lt h) hs
theorem FlP.step (h : FlP N all0 i all) (hi : all[i]? = some x) : FlS N all0 i x [] all := by
  obtain ⟨h1, h2⟩ := List.getElem?_eq_some_iff.1 hi
  refine ⟨h.ri, h.su, h.cm, List.mem_of_getElem? hi, fun z hz => ?_, fun y hy => by cases hy⟩
  rcases h.pr z hz with h3 | h3
  · exact .inl h3
  · rw [List.drop_eq_getElem_cons h1, h2] at h3
    exact .inr (List.mem_cons.1 h3)
theorem FlS.ins (h : FlS N all0 i x S all) (hy : y ∈ N x) : FlS N all0 i x (S ++ [y]) (insI all y) := by
  refine ⟨insI_rising h.ri y, fun z hz => insI_mem.2 (.inl (h.su z hz)), fun P h1 h2 z hz => ?_, insI_mem.2 (.inl h.xm), fun z hz => ?_, fun z hz => ?_⟩
  · rcases insI_mem.1 hz with hz | rfl
    · exact h.cm P h1 h2 z hz
    · exact h2 x z (h.cm P h1 h2 x h.xm) hy
  · rcases h.pr z hz with h3 | h3 | h3
    · exact .inl fun u hu => insI_mem.2 (.inl (h3 u hu))
    · exact .inr (.inl h3)
    · exact .inr (.inr (drop_ins h.ri y h3))
  · rcases List.mem_append.1 hz with hz | hz
    · exact insI_mem.2 (.inl (h.dn z hz))
    · simp at hz; exact insI_mem.2 (.inr hz)
theorem FlS.done (h : FlS N all0 i x S all) (hS : ∀ y ∈ N x, y ∈ S) : FlP N all0 (i + 1) all := by
  refine ⟨h.ri, h.su, h.cm, fun z hz => ?_⟩
  rcases h.pr z hz with h3 | h3 | h3
  · exact .inl h3
  · subst h3; exact .inl fun u hu => h.dn u (hS u hu)
  · exact .inr h3
theorem FlP.next (hI : FlI N l a U n all0) (hN : Is N l) (hU : ∀ x, ∀ y ∈ N x, y ∈ U) (h : FlP N all0 i all) (hi : all.length ≤ i) : FlI N l a U (n + 1) all := by
  have hpr : ∀ x ∈ all0, ∀ y ∈ N x, y ∈ all := fun x hx => by
    rcases h.pr x hx with h1 | h1
    · exact h1
    · rw [List.drop_of_length_le hi] at h1; cases h1
  refine ⟨h.ri, h.su a hI.ha, h.cm _ hI.re fun y z hy hz => hy.step hz, h.unU hI.un hU, ?_⟩
  by_cases hc : Cls N all0
  · have hs : ∀ x ∈ all, x ∈ all0 := h.cm (· ∈ all0) (fun _ h => h) fun y z hy hz => hc y hy z hz
    exact .inl fun x hx y hy => hpr x (hs x hx) y hy
  · have hn := hI.cl.resolve_left hc
    unfold Cls at hc
    obtain ⟨x, hx⟩ := Classical.not_forall.1 hc
    obtain ⟨hx, hc⟩ := Classical.not_forall.1 hx
    obtain ⟨y, hy⟩ := Classical.not_forall.1 hc
    obtain ⟨hy, hc⟩ := Classical.not_forall.1 hy
    have hmono : ∀ p : Pr, decide (p.1 ∈ all0 ∧ p.2 ∈ all0) = true → decide (p.1 ∈ all ∧ p.2 ∈ all) = true := fun p hp => by
      simp only [decide_eq_true_eq] at hp ⊢
      exact ⟨h.su _ hp.1, h.su _ hp.2⟩
    have hya := hpr x hx y hy
    refine .inr (Nat.lt_of_le_of_lt hn ?_)
    rcases ((hN x y).1 hy).2 with hm | hm
    · exact countP_lt hmono (x := (x, y)) (by simp [hc]) (by simp [h.su x hx, hya]) hm
    · exact countP_lt hmono (x := (y, x)) (by simp [hc]) (by simp [h.su x hx, hya]) hm
theorem FlI.fall (h : FlI N l a U (l.length + 1) all) : IsFall N a (all.filter (· != a)) := by
  have hc : Cls N all := by
    rcases h.cl with hc | hc
    · exact hc
    · have : inn l all ≤ l.length := List.countP_le_length
      omega
  have hm : ∀ x, x ∈ a :: all.filter (· != a) ↔ x ∈ all := fun x => by
    rw [List.mem_cons, List.mem_filter]
    simp only [bne_iff_ne, ne_eq]
    constructor
    · rintro (rfl | h1)
      · exact h.ha
      · exact h1.1
    · intro hx
      by_cases e : x = a
      · exact .inl e
      · exact .inr ⟨hx, e⟩
  exact fall_of (h.ri.filter _) (by simp) (fun x hx => h.re x (List.mem_filter.1 hx).1) (fun y hy z hz => (hm z).2 (hc y ((hm y).1 hy) z hz))
end
end Lnk

section
variable {w0 w : World} {L : List HP} {m : Nat} {l : List Pr} {N : Int → List Int} {U : List Int}
def RfRel (w0 : World) (L : List HP) (m : Nat) (l : List Pr) (N : Int → List Int) (a : Int) (U : List Int) (nl : Nat) (s i : Value) (wr : World) : Prop :=
  ∃ (n n1 : Nat) (all : List Int) (ao : Option Addr) (cap : Nat), i = .int .i64 n ∧ n ≤ nl + 1 ∧ s = .slice ao n1 cap ∧ all.length = n1 ∧ FlI N l a U n all ∧
    At w0 wr (row 2 1 ao n1 cap (all.map (Value.int .i64)) :: HP.rweb m l :: L)
def RpRel (w0 : World) (L : List HP) (m : Nat) (l : List Pr) (N : Int → List Int) (U all0 : List Int) (s i : Value) (wr : World) : Prop :=
  ∃ (n n1 : Nat) (all : List Int) (ao : Option Addr) (cap : Nat), i = .int .i64 n ∧ n ≤ n1 ∧ s = .slice ao n1 cap ∧ all.length = n1 ∧ FlP N all0 n all ∧ n1 ≤ U.length ∧
    At w0 wr (row 2 1 ao n1 cap (all.map (Value.int .i64)) :: HP.rweb m l :: L)
def RsRel (w0 : World) (L : List HP) (m : Nat) (l : List Pr) (N : Int → List Int) (U all0 : List Int) (i : Nat) (x : Int) (S : List Int) (aoS : Option Addr) (ns capS : Nat) (s k : Value) (wr : World) : Prop :=
  ∃ (n n1 : Nat) (all : List Int) (ao : Option Addr) (cap : Nat), k = .int .i64 n ∧ n ≤ ns ∧ s = .slice ao n1 cap ∧ all.length = n1 ∧ FlS N all0 i x (S.take n) all ∧ n1 ≤ U.length ∧ i < n1 ∧
    At w0 wr (row 2 1 ao n1 cap (all.map (Value.int .i64)) :: row 2 1 aoS ns capS (S.map (Value.int .i64)) :: HP.rweb m l :: L)
set_option maxRecDepth 100000 in
set_option maxHeartbeats 8000000 in
theorem rfall_any (a : Int) (hI : Is N l) (hs : NoSelf l) (hO : Ok N U) (hU : a ∈ U) (hUl : U.length ≤ 10000) (hl : l.length ≤ 1000) (hA : At w0 w (HP.rweb m l :: L)) :
    Calls Try.prog 22 #[.pointer (some ⟨m, 0, none⟩), .int .i64 a] w fun e w' => ∃ ao n cap s, e = .returned (.slice ao n cap) ∧ s.length = n ∧ IsFall N a s ∧
      At w0 w' (row 2 1 ao n cap (s.map (Value.int .i64)) :: HP.rweb m l :: L) := by
  have hC := hA.alloc (.cells #[.int .i64 a] 2)
  have hD : At w0 _ (row 2 1 (some ⟨w.heap.size, 0, none⟩) 1 1 [.int .i64 a] :: _) := hC.row_of_one (size := 1) 1 1 (by decide) (by decide) (by rfl)
  clear hC
  have hof := fun (x : Int) (w : World) (L : List HP) (h : At w0 w (HP.rweb m l :: L)) => rof_any x hl h
  have hof2 : ∀ (x : Int) (w : World) (L : List HP), At w0 w (HP.rweb m l :: L) → Calls Try.prog 20 #[.pointer (some ⟨m, 0, none⟩), .int .i64 x] w fun e w' => ∃ (ao : Option Addr) (n cap : Nat) (S : List Int), e = .returned (.slice ao n cap) ∧ S.length = n ∧ n ≤ 8 ∧ (∀ y, y ∈ S ↔ y ∈ N x) ∧
      At w0 w' (row 2 1 ao n cap (S.map (Value.int .i64)) :: HP.rweb m l :: L) := fun x w L h => (hof x w L h).mono fun _ _ ⟨ao, cap, h1, h2⟩ =>
    ⟨ao, _, cap, rOf l x, h1, rfl, by rw [rOf_eq hI hs (hO.nd x), sortI_len]; exact hO.le x, fun y => by rw [rOf_eq hI hs (hO.nd x), mem_sortI], h2⟩
  clear hof
  obtain ⟨nl, hnl⟩ : ∃ nl, l.length = nl := ⟨_, rfl⟩
  have hfl := fun all (h : FlI N l a U (l.length + 1) all) => h.fall
  have hun := hO.un
  rw [hnl] at hfl hl
  have HNL := Lib.hid hnl; clear hnl
  have HOF := Lib.hid hof2; clear hof2
  have HFL := Lib.hid hfl; clear hfl
  have HI := Lib.hid hI; clear hI
  have HUN := Lib.hid hun; clear hun
  clear hs hO
  go_enter Try.func22, Try.ntmps22
  go_wp2
  go_loopw [5, 6] (fun s i wr => RfRel w0 L m l N a U nl s i wr) (fun _ i _ => nl + 1 - (intOf i).toNat)
  case atStart => exact ⟨0, 1, [a], _, _, rfl, Nat.zero_le _, rfl, rfl, FlI.start hU, hD⟩
  case round =>
    clear hD
    obtain ⟨n, n1, all, ao, cap, rfl, hn, rfl, hn1, hF, hr⟩ := hrel
    obtain ⟨aow, capw, hW⟩ := hr.pick2.rweb_op
    rw [HNL.out] at hW
    have c0 := hW.cell 0
    have hle := rising_le hF.ri hF.un
    rw [hn1] at hle
    by_cases hlt : n ≤ nl
    · have T : (n : Int) ≤ (nl : Int) := by omega
      have HF := Lib.hid hF; clear hF
      have HN1 := Lib.hid hn1; clear hn1
      go_wp2
      go_loopw [5, 7] (fun s i wr => RpRel w0 L m l N U all s i wr) (fun _ i _ => U.length - (intOf i).toNat)
      case atStart => exact ⟨0, n1, all, _, _, rfl, Nat.zero_le _, rfl, HN1.out, HF.out.pass, hle, hr⟩
      case round =>
        clear hr hW
        obtain ⟨i, n2, al2, ao2, cap2, rfl, hi, rfl, hn2, hP, hle2, hr⟩ := hrel
        by_cases hlt2 : i < n2
        · have hil : i < al2.length := by rw [hn2]; exact hlt2
          obtain ⟨g, off, rfl⟩ := hr.row_some (by simp; omega)
          have d0 := hr.rd.at_ i (.int .i64 al2[i]) (by simp [hil])
          have hS := hP.step (List.getElem?_eq_getElem hil)
          generalize al2[i] = x at *
          clear hil
          have hox := HOF.out x
          have HOX := Lib.hid hox; clear hox
          have HS := Lib.hid hS; clear hS hP
          have HN2 := Lib.hid hn2; clear hn2
          go_wp2_with (go_at_call 20; with_reducible refine (HOX.out _ _ hr.pick2).mono ?_; rintro e w5 ⟨a5, n5, c5, S, rfl, hn5, hle5, hS5, h5⟩; have HN5 := Lib.hid hn5; clear hn5; have HS5 := Lib.hid hS5; clear hS5)
          go_loopw [5, 9] (fun s k wr => RsRel w0 L m l N U all i x S a5 n5 c5 s k wr) (fun _ k _ => n5 - (intOf k).toNat)
          case atStart => exact ⟨0, n2, al2, _, _, rfl, Nat.zero_le _, rfl, HN2.out, HS.out, hle2, hlt2, h5.pick3⟩
          case round =>
            clear hr h5
            obtain ⟨k, n3, al3, ao3, cap3, rfl, hk, rfl, hn3, hS3, hle3, hi3, hr⟩ := hrel
            have HN3 := Lib.hid hn3; clear hn3
            by_cases hlt3 : k < n5
            · have hkl : k < S.length := by rw [HN5.out]; exact hlt3
              have hyN := (HS5.out S[k]).1 (List.getElem_mem hkl)
              obtain ⟨g5, off5, rfl⟩ := hr.pick2.row_some (by simp; omega)
              have d1 := hr.pick2.rd.at_ k (.int .i64 S[k]) (by simp [hkl])
              have htk := List.take_succ_eq_append_getElem hkl
              generalize S[k] = y at *
              clear hkl
              have hS4 := hS3.ins hyN
              rw [← htk] at hS4
              have hin := fun (w : World) (L : List HP) (ao : Option Addr) (cap : Nat) (hrd : Rd w ao (al3.map (Value.int .i64))) (h : At w0 w L) => insert_in al3 y ao n3 cap HN3.out (by omega) hrd h
              have hle4 := rising_le hS4.ri (hS4.unU HF.out.un HUN.out)
              have hmon : i < (insI al3 y).length := by
                have h9 := rising_le hS3.ri (fun z hz => insI_mem.2 (.inl hz) : ∀ z ∈ al3, z ∈ insI al3 y)
                rw [HN3.out] at h9
                omega
              have HIN := Lib.hid hin; clear hin
              have HS4 := Lib.hid hS4; clear hS4 hS3 htk hyN
              go_wp2_with (go_at_call 23; with_reducible refine (HIN.out _ _ _ _ hr.rd hr).mono ?_; rintro e w6 ⟨a6, c6, rfl, h6⟩)
              go_roundw
              case rel => exact ⟨k + 1, _, _, _, _, by go_num, by omega, rfl, rfl, HS4.out, hle4, hmon, h6.pick2.drop⟩
              case measure => simp only [intOf]; omega
            · rw [List.take_of_length_le (by rw [HN5.out]; omega)] at hS3
              have hP2 := hS3.done (fun y hy => (HS5.out y).2 hy)
              have HP2 := Lib.hid hP2; clear hP2 hS3
              go_wp2
              go_roundw
              case rel => exact ⟨i + 1, n3, al3, _, _, by go_num, by omega, rfl, HN3.out, HP2.out, hle3, hr.pick2.drop⟩
              case measure => simp only [intOf]; omega
        · have hF2 := hP.next HF.out HI.out HUN.out (by rw [hn2]; omega)
          have HF2 := Lib.hid hF2; clear hF2 hP
          have HN2 := Lib.hid hn2; clear hn2
          go_wp2
          go_roundw
          case rel => exact ⟨n + 1, n2, al2, _, _, by go_num, by omega, rfl, HN2.out, HF2.out, hr⟩
          case measure => simp only [intOf]; omega
    · obtain rfl : n = nl + 1 := by omega
      have T : ¬ ((nl : Int) + 1 ≤ (nl : Int)) := by omega
      have hff := HFL.out all hF
      have HFF := Lib.hid hff; clear hff hF
      have HN1 := Lib.hid hn1; clear hn1
      clear hW
      go_wp2
      go_loopw [10, 11] (fun s i wr => Wk w0 (row 2 1 ao n1 cap (all.map (Value.int .i64)) :: HP.rweb m l :: L) a all n1 s i wr) (fun _ i _ => n1 - (intOf i).toNat)
      case atStart => exact ⟨0, 0, [], none, 0, rfl, Nat.zero_le _, rfl, rfl, Nat.zero_le _, by simp, hr.row_nil _ _⟩
      case round =>
        clear hr
        obtain ⟨q, n2, o, ao2, cap2, rfl, hq, rfl, ho, hn2, hoe, hr⟩ := hrel
        have HO2 := Lib.hid ho; clear ho
        by_cases hlt3 : q < n1
        · have hql : q < all.length := by rw [HN1.out]; exact hlt3
          obtain ⟨g, off, rfl⟩ := hr.pick2.row_some (by simp; omega)
          have hqs : (all.map (Value.int .i64))[q]? = some (.int .i64 all[q]) := by simp [hql]
          have d0 := hr.pick2.rd.at_ q _ hqs
          have htk := List.take_succ_eq_append_getElem hql
          generalize all[q] = y at *
          clear hql
          have hoe2 : (all.take (q + 1)).filter (· != a) = o ++ (if y != a then [y] else []) := by
            rw [htk, List.filter_append, ← hoe]; by_cases h : y = a <;> simp [h]
          clear htk
          by_cases hya : y = a
          · have T2 : (y != a) = false := by simp [hya]
            rw [T2] at hoe2
            simp only [Bool.false_eq_true, if_false, List.append_nil] at hoe2
            have HOE := Lib.hid hoe2; clear hoe2 hoe hya hqs
            go_wp2
            go_roundw
            case rel => exact ⟨q + 1, n2, o, _, _, by go_num, by omega, rfl, HO2.out, by omega, HOE.out.symm, hr⟩
            case measure => simp only [intOf]; omega
          · have T2 : (y != a) = true := by simp [hya]
            rw [T2] at hoe2
            simp only [if_true] at hoe2
            have HOE := Lib.hid hoe2; clear hoe2 hoe hya hqs
            go_wp2_with (at_builtin; refine wpList_append1 hr rfl (.tmp 59) (.tmp 64) 34 rfl (.int .i64 0) 8 under_i64s info_i64 rfl (by decide) rfl rfl rfl rfl (by omega) ?_; intro ao6 cap6 w7 hC)
            go_roundw
            case rel => exact ⟨q + 1, n2 + 1, o ++ [y], _, _, by go_num, by omega, rfl, by simp [HO2.out], by omega, HOE.out.symm, by rw [List.map_append]; exact hC⟩
            case measure => simp only [intOf]; omega
        · rw [List.take_of_length_le (by rw [HN1.out]; omega)] at hoe
          rw [← hoe] at HFF
          clear hoe
          go_wp2
          go_returns
          exact ⟨_, n2, _, o, rfl, HO2.out, HFF.out, hr.pick2.drop⟩
end
end Go.Proofs.Ytihpcaklknbjiaa
