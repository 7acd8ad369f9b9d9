/-
  The web of links: Fall.
-/
import Derived.Test.YtihpcaklknbjiaaLnkC
namespace Go.Proofs.Ytihpcaklknbjiaa
open Go.RowKit HP Go.MapKept Go.Maps
open Go.Proofs.Ytihpcaklknbjiaa.Lnk

namespace Lnk
/-- what can be reached from a -/
def Reach (N : Int → List Int) (a x : Int) : Prop := ∀ P : Int → Prop, P a → (∀ y z, P y → z ∈ N y → P z) → P x
theorem Reach.refl (N : Int → List Int) (a : Int) : Reach N a a := fun _ h _ => h
theorem Reach.step {N : Int → List Int} {a x y : Int} (h : Reach N a x) (hy : y ∈ N x) : Reach N a y := fun P h1 h2 => h2 x y (h P h1 h2) hy
/-- all that falls with a, rising -/
def IsFall (N : Int → List Int) (a : Int) (l : List Int) : Prop := l.Pairwise (· < ·) ∧ ∀ x, x ∈ l ↔ x ≠ a ∧ Reach N a x
/-- the search: what was seen, what is still to be looked at -/
structure Srch (N : Int → List Int) (a : Int) (U seen todo : List Int) : Prop where
  nd : seen.Nodup
  ha : a ∈ seen
  re : ∀ x ∈ seen, Reach N a x ∧ x ∈ U
  td : ∀ x ∈ todo, x ∈ seen
  cl : ∀ x ∈ seen, x ∈ todo ∨ ∀ y ∈ N x, y ∈ seen
/-- .. while x is looked at, of whose neighbours those of l are over -/
structure SrchX (N : Int → List Int) (a : Int) (U : List Int) (x : Int) (l seen todo : List Int) : Prop where
  nd : seen.Nodup
  ha : a ∈ seen
  re : ∀ x ∈ seen, Reach N a x ∧ x ∈ U
  td : ∀ x ∈ todo, x ∈ seen
  cl : ∀ z ∈ seen, z = x ∨ z ∈ todo ∨ ∀ y ∈ N z, y ∈ seen
  hl : ∀ y ∈ l, y ∈ seen
  hx : x ∈ seen
theorem nodup_le {l U : List Int} (h : l.Nodup) (hs : ∀ x ∈ l, x ∈ U) : l.length ≤ U.length := by
  induction l generalizing U with
  | nil => exact Nat.zero_le _
  | cons x l ih =>
    rw [List.nodup_cons] at h
    have hx : x ∈ U := hs x (by simp)
    have := ih h.2 (U := U.erase x) (fun y hy => (List.mem_erase_of_ne (fun e => h.1 (by rw [← e]; exact hy))).2 (hs y (List.mem_cons_of_mem _ hy)))
    rw [List.length_erase_of_mem hx] at this
    have := List.length_pos_of_mem hx
    simp; omega
theorem Srch.len {N : Int → List Int} {a : Int} {U seen todo : List Int} (h : Srch N a U seen todo) : seen.length ≤ U.length := nodup_le h.nd fun x hx => (h.re x hx).2
theorem SrchX.len {N : Int → List Int} {a x : Int} {U l seen todo : List Int} (h : SrchX N a U x l seen todo) : seen.length ≤ U.length := nodup_le h.nd fun x hx => (h.re x hx).2
theorem Srch.start {N : Int → List Int} {a : Int} {U : List Int} (hU : a ∈ U) : Srch N a U [a] [a] :=
  ⟨by simp, by simp, fun x hx => by simp at hx; subst hx; exact ⟨Reach.refl N x, hU⟩, fun x hx => hx, fun x hx => .inl hx⟩
theorem Srch.take {N : Int → List Int} {a x : Int} {U seen todo : List Int} (h : Srch N a U seen (x :: todo)) : SrchX N a U x [] seen todo :=
  ⟨h.nd, h.ha, h.re, fun y hy => h.td y (List.mem_cons_of_mem _ hy), fun z hz => by
    rcases h.cl z hz with h1 | h1
    · rcases List.mem_cons.1 h1 with h1 | h1
      · exact .inl h1
      · exact .inr (.inl h1)
    · exact .inr (.inr h1), fun y hy => by simp at hy, h.td x (by simp)⟩
theorem SrchX.old {N : Int → List Int} {a x y : Int} {U l seen todo : List Int} (h : SrchX N a U x l seen todo) (hy : y ∈ seen) : SrchX N a U x (l ++ [y]) seen todo :=
  ⟨h.nd, h.ha, h.re, h.td, h.cl, fun z hz => by
    rcases List.mem_append.1 hz with hz | hz
    · exact h.hl z hz
    · simp at hz; subst hz; exact hy, h.hx⟩
theorem SrchX.new {N : Int → List Int} {a x y : Int} {U l seen todo : List Int} (h : SrchX N a U x l seen todo) (hy : y ∉ seen) (hN : y ∈ N x) (hU : y ∈ U) : SrchX N a U x (l ++ [y]) (seen ++ [y]) (todo ++ [y]) :=
  ⟨List.nodup_append.2 ⟨h.nd, by simp, fun u hu v hv => by simp at hv; subst hv; exact fun e => hy (e ▸ hu)⟩, List.mem_append.2 (.inl h.ha),
    fun z hz => by
      rcases List.mem_append.1 hz with hz | hz
      · exact h.re z hz
      · simp at hz; subst hz; exact ⟨(h.re x h.hx).1.step hN, hU⟩,
    fun z hz => by
      rcases List.mem_append.1 hz with hz | hz
      · exact List.mem_append.2 (.inl (h.td z hz))
      · exact List.mem_append.2 (.inr hz),
    fun z hz => by
      rcases List.mem_append.1 hz with hz | hz
      · rcases h.cl z hz with h1 | h1 | h1
        · exact .inl h1
        · exact .inr (.inl (List.mem_append.2 (.inl h1)))
        · exact .inr (.inr fun u hu => List.mem_append.2 (.inl (h1 u hu)))
      · exact .inr (.inl (List.mem_append.2 (.inr hz))),
    fun z hz => by
      rcases List.mem_append.1 hz with hz | hz
      · exact List.mem_append.2 (.inl (h.hl z hz))
      · exact List.mem_append.2 (.inr hz),
    List.mem_append.2 (.inl h.hx)⟩
theorem SrchX.done {N : Int → List Int} {a x : Int} {U l seen todo : List Int} (h : SrchX N a U x l seen todo) (hl : ∀ y ∈ N x, y ∈ l) : Srch N a U seen todo :=
  ⟨h.nd, h.ha, h.re, h.td, fun z hz => by
    rcases h.cl z hz with h1 | h1 | h1
    · subst h1; exact .inr fun y hy => h.hl y (hl y hy)
    · exact .inl h1
    · exact .inr h1⟩
theorem sortI_rising {l : List Int} (h : l.Nodup) : (sortI l).Pairwise (· < ·) := by
  have h1 : (sortI l).Pairwise fun a b => (decide (a ≤ b)) = true := List.pairwise_mergeSort (fun a b c h1 h2 => by simp only [decide_eq_true_eq] at *; omega) (fun a b => by simp only [Bool.or_eq_true, decide_eq_true_eq]; omega) l
  exact (h1.and (sortI_nodup h)).imp fun ⟨h1, h2⟩ => by simp only [decide_eq_true_eq] at h1; exact Int.lt_iff_le_and_ne.2 ⟨h1, h2⟩
theorem Srch.fall {N : Int → List Int} {a : Int} {U seen : List Int} (h : Srch N a U seen []) : IsFall N a (sortI (seen.filter (· != a))) := by
  refine ⟨sortI_rising (h.nd.filter _), fun x => ?_⟩
  rw [mem_sortI, List.mem_filter]
  simp only [bne_iff_ne, ne_eq]
  constructor
  · exact fun ⟨h1, h2⟩ => ⟨h2, (h.re x h1).1⟩
  · refine fun ⟨h1, h2⟩ => ⟨h2 (fun x => x ∈ seen) h.ha fun y z hy hz => ?_, h1⟩
    rcases h.cl y hy with h3 | h3
    · simp at h3
    · exact h3 z hz
theorem rising_unique {l l' : List Int} (h : l.Pairwise (· < ·)) (h' : l'.Pairwise (· < ·)) (hm : ∀ x, x ∈ l ↔ x ∈ l') : l = l' := by
  have hn : l.Nodup := h.imp fun h => Int.ne_of_lt h
  have hn' : l'.Nodup := h'.imp fun h => Int.ne_of_lt h
  exact ((List.perm_ext_iff_of_nodup hn hn').2 hm).eq_of_pairwise (le := fun a b => a < b) (fun a b _ _ h1 h2 => absurd h1 (by omega)) h h'
theorem IsFall.unique {N : Int → List Int} {a : Int} {l l' : List Int} (h : IsFall N a l) (h' : IsFall N a l') : l = l' := rising_unique h.1 h'.1 fun x => by rw [h.2, h'.2]
end Lnk

theorem info_i64 : (Try.prog.info? 2).map (fun i => (i.zero, i.size, i.bytes)) = some (some (.int .i64 0), 1, 8) := by kernel_rfl
theorem under_i64s : Try.prog.underlying 34 = some (.slice 2) := by kernel_rfl
/-- how many entries a map in memory has -/
def msz (w : World) (b : Nat) : Nat := match w.heap[b]? with | some (.map es _) => es.size | _ => 0
section
variable {w0 w : World} {L : List HP} {p k : Nat} {N : Int → List Int}
theorem At.msz {b : Nat} {A : List (Int × Value)} (h : At w0 w (HP.mp b A :: L)) : Go.Proofs.Ytihpcaklknbjiaa.msz w b = A.length := by
  obtain ⟨es, clock, q, h⟩ := h.mp_op
  unfold Go.Proofs.Ytihpcaklknbjiaa.msz
  rw [h.blk]
  exact q.len
theorem At.row_tail {g off n cap : Nat} {x : Value} {xs : List Value} {e : TypeId} (h : At w0 w (row e 1 (some ⟨g, off, none⟩) (n + 1) cap (x :: xs) :: L)) : At w0 w (row e 1 (some ⟨g, off + 1, none⟩) n (cap - 1) xs :: L) := by
  refine h.imp fun _ p => ?_
  obtain ⟨h1, h2, h3, h4⟩ := p
  rcases h4 with ⟨hz, _⟩ | ⟨g', o', cur, hg, h5, h6, h7⟩
  · cases hz
  · injection hg with hg; injection hg with e1 e2; subst e1; subst e2
    refine ⟨by simpa using h1, by omega, by omega, .inr ⟨g, off + 1, cur, rfl, h5, by omega, ?_⟩⟩
    have h8 := congrArg (List.drop 1) h7
    rw [List.drop_take, List.drop_drop] at h8
    simp only [List.drop_succ_cons, List.drop_zero, Nat.mul_one] at h8
    rw [show n + 1 - 1 = n by omega] at h8
    rw [Nat.mul_one]; exact h8
def FaRel (w0 : World) (L : List HP) (p k sm : Nat) (N : Int → List Int) (a : Int) (U : List Int) (s : Value) (wr : World) : Prop :=
  ∃ (seen todo : List Int) (n : Nat) (ao : Option Addr) (cap : Nat), todo.length = n ∧ s = .slice ao n cap ∧ Srch N a U seen todo ∧ 2 * (U.length + 1 - seen.length) + n ≤ 2 * U.length + 2 ∧ At w0 wr (row 2 1 ao n cap (todo.map (Value.int .i64)) :: HP.mp sm (ones seen) :: HP.web p N k :: L)
def FbRel (w0 : World) (L : List HP) (p k sm : Nat) (N : Int → List Int) (a : Int) (U : List Int) (x : Int) (ao2 : Option Addr) (nb cap2 Mx : Nat) (i s : Value) (wr : World) : Prop :=
  ∃ (j : Nat) (seen todo : List Int) (n : Nat) (ao : Option Addr) (cap : Nat), i = .int .i64 j ∧ j ≤ nb ∧ todo.length = n ∧ s = .slice ao n cap ∧ SrchX N a U x ((sortI (N x)).take j) seen todo ∧ 2 * (U.length + 1 - seen.length) + n < Mx ∧
    At w0 wr (row 2 1 ao n cap (todo.map (Value.int .i64)) :: row 2 1 ao2 nb cap2 ((sortI (N x)).map (Value.int .i64)) :: HP.mp sm (ones seen) :: HP.web p N k :: L)
def slen : Value → Nat
  | .slice _ n _ => n
  | _ => 0

set_option maxHeartbeats 2000000 in
theorem lfall_any (a : Int) (U : List Int) (hU : a ∈ U) (hUn : ∀ x ∈ U, ∀ y ∈ N x, y ∈ U) (hUf : Fits U) (hUl : U.length ≤ 100000) (hlen : ∀ x, (N x).length ≤ 1000) (hA : At w0 w (HP.web p N k :: L)) :
    Calls Try.prog 21 #[.pointer (some ⟨p, 0, none⟩), .int .i64 a] w fun e w' => ∃ ao cap l, e = .returned (.slice ao l.length cap) ∧ IsFall N a l ∧
      At w0 w' (row 2 1 ao l.length cap (l.map (Value.int .i64)) :: HP.web p N k :: L) := by
  have hmm := @run_makeMap Try.prog
  obtain ⟨w2, hr2, hB⟩ := (hA.mp_new).mp_put Try.underlying49 Try.underlying2 a (.int .i64 1) (by simp)
  have hC := hB.alloc (.cells #[.int .i64 a] 2)
  have hD : At w0 _ (row 2 1 (some ⟨w2.heap.size, 0, none⟩) 1 1 [.int .i64 a] :: _) := hC.row_of_one (size := 1) 1 1 (by decide) (by decide) (by rfl)
  clear hB hC
  go_enter Try.func21, Try.ntmps21
  go_wp2
  obtain ⟨sm, hsm⟩ : ∃ sm, sm = w.heap.size := ⟨_, rfl⟩
  rw [← hsm] at hD ⊢
  clear hsm hr2 hmm
  go_loopw [6] (fun s wr => FaRel w0 L p k sm N a U s wr) (fun s wr => 2 * (U.length + 1 - msz wr sm) + slen s)
  case atStart => exact ⟨[a], [a], 1, _, 1, rfl, rfl, Srch.start hU, by simp, hD⟩
  case round =>
    clear hD
    obtain ⟨seen, todo, n, ao, cap, hn, rfl, hS, hpot, hr⟩ := hrel
    have hsl := hS.len
    have hms := hr.pick2.msz
    rw [show (ones seen).length = seen.length from by simp [ones]] at hms
    have HMS := Lib.hid hms; clear hms
    cases todo with
    | nil =>
      obtain rfl : n = 0 := by simpa using hn.symm
      have hF := hS.fall
      obtain ⟨w3, hr3, hB3⟩ := hr.pick2.mp_del Try.underlying49 Try.underlying2 a 0
      have hr4 : ∀ ty, (Builtin.delete_ #[49, 2] ty #[.map (some sm), .int .i64 a]).run Try.prog wr = .ok (.tuple #[]) w3 := fun ty => hr3
      rw [ones_filter] at hB3
      have hK := keys_any (some sm) w3
      have hfl : (seen.filter (· != a)).length ≤ 1000000 := by
        have := List.length_filter_le (fun x : Int => x != a) seen
        omega
      have hSo := sorted_any w3.heap.size 49 (by rw [ones_keys]; exact fun y hy => hUf y (hS.re y (List.mem_filter.1 hy).1).2) (by simp [ones]; exact hfl) (hB3.alloc (.cells #[.map (some sm)] 49))
      rw [ones_keys, show (ones (seen.filter (· != a))).length = (sortI (seen.filter (· != a))).length from by rw [sortI_len]; simp [ones]] at hSo
      have HF := Lib.hid hF; clear hF
      have HK := Lib.hid hK; clear hK
      have HSO := Lib.hid hSo; clear hSo
      clear hB3 hr3 hfl
      go_wp2_with (first
        | (go_at_call 27; with_reducible refine HK.out.mono ?_; rintro e w4 ⟨rfl, rfl⟩)
        | (go_at_call 26; with_reducible refine HSO.out.mono ?_; rintro e w5 ⟨ao5, cap5, rfl, hC⟩))
      go_returns
      exact ⟨ao5, cap5, _, rfl, HF.out, hC.pick2.drop.pick2.drop.pick2.drop⟩
    | cons x todo =>
      have hX := hS.take
      have hxU := (hS.re x hX.hx).2
      obtain ⟨g, off, rfl⟩ := hr.row_some (by simp)
      have d0 := hr.rd.at_ 0 (.int .i64 x) (by simp)
      rw [Nat.add_zero] at d0
      obtain ⟨m, rfl⟩ : ∃ m, n = m + 1 := ⟨todo.length, by simpa using hn.symm⟩
      have hn : todo.length = m := by simpa using hn
      have HN := Lib.hid hn
      have hmU : m ≤ 300000 := by omega
      have hnb : (N x).length ≤ 1000 := hlen x
      have hnl := sortI_len (N x)
      have hof := fun (w : World) (L : List HP) (h : At w0 w (HP.web p N k :: L)) => lof_any x (fun y hy => hUf y (hUn x hxU y hy)) (by omega) h
      obtain ⟨nb, hnbe⟩ : ∃ nb, nb = (N x).length := ⟨_, rfl⟩
      rw [← hnbe] at hof hnb hnl
      clear hnbe
      have HOF := Lib.hid hof; clear hof
      have HNL := Lib.hid hnl; clear hnl
      have HXU := Lib.hid (fun y (hy : y ∈ N x) => hUn x hxU y hy)
      obtain ⟨ao', cap', hsl', ht⟩ : ∃ ao' cap', ((cap = 1 ∧ ao' = some ⟨g, off, none⟩ ∧ cap' = 0) ∨ (cap ≠ 1 ∧ ao' = some ⟨g, off + 1, none⟩ ∧ cap' = cap - 1)) ∧ At w0 wr (row 2 1 ao' m cap' (todo.map (Value.int .i64)) :: HP.mp sm (ones seen) :: HP.web p N k :: L) := by
        have htl := At.row_tail hr
        by_cases hc : cap = 1
        · have hlen1 := hr.row_len.2.1
          obtain rfl : m = 0 := by omega
          obtain rfl : todo = [] := List.eq_nil_of_length_eq_zero hn
          exact ⟨_, _, .inl ⟨hc, rfl, rfl⟩, htl.imp fun _ q => by
            obtain ⟨q1, q2, q3, q4⟩ := q
            refine ⟨rfl, Nat.le_refl _, by unfold maxLen; omega, ?_⟩
            rcases q4 with ⟨hz, _⟩ | ⟨g', o', cur, hg, h5, h6, h7⟩
            · cases hz
            · injection hg with hg; injection hg with e1 e2; subst e1; subst e2
              exact .inr ⟨g, off, cur, rfl, h5, by omega, by simp⟩⟩
        · exact ⟨_, _, .inr ⟨hc, rfl, rfl⟩, htl⟩
      have hcap := hr.row_len.2.1
      clear hn
      rcases hsl' with ⟨rfl, rfl, rfl⟩ | ⟨hc, rfl, rfl⟩
      all_goals
        go_wp2_with (go_at_call 19; with_reducible refine (HOF.out _ _ ht.pick3).mono ?_; rintro e w1 ⟨ao2, cap2, rfl, hV⟩)
        have hV2 := hV.pick4.pick4.pick3.pick2
        clear hV
        go_loopw [27, 6] (fun i s wr => FbRel w0 L p k sm N a U x ao2 nb cap2 (2 * (U.length + 1 - seen.length) + (m + 1)) i s wr) (fun i _ _ => nb - (intOf i).toNat)
        case atStart =>
          first
            | exact ⟨0, seen, todo, m, _, _, rfl, Nat.zero_le _, HN.out, rfl, hX, by omega, hV2⟩
            | (obtain rfl : m = 0 := by omega
               exact ⟨0, seen, todo, 0, _, _, rfl, Nat.zero_le _, HN.out, rfl, hX, by omega, hV2⟩)
        case round =>
          clear hV2
          obtain ⟨j, seen1, todo1, n1, ao1, cap1, rfl, hj, hn1, rfl, hX1, hp1, hr1⟩ := hrel
          have hsl1 := hX1.len
          have HN1 := Lib.hid hn1; clear hn1
          by_cases hlt : j < nb
          · have hjl : j < (sortI (N x)).length := by rw [HNL.out]; exact hlt
            have hyN : (sortI (N x))[j] ∈ N x := mem_sortI.1 (List.getElem_mem hjl)
            obtain ⟨g2, off2, rfl⟩ := hr1.pick2.row_some (by simp; omega)
            have d1 := hr1.pick2.rd.at_ j (.int .i64 (sortI (N x))[j]) (by simp [hjl])
            have htk := List.take_succ_eq_append_getElem hjl
            generalize (sortI (N x))[j] = y at *
            clear hjl
            have HTK := Lib.hid htk; clear htk
            have hl := hr1.pick3.mp_look Try.underlying49 Try.underlying2 zeroInt y
            rw [mget_ones seen1 hX1.nd] at hl
            by_cases hys : y ∈ seen1
            · rw [if_pos hys] at hl
              have HX1 := Lib.hid (hX1.old hys)
              clear hX1 hys hyN
              go_wp2
              go_roundw
              case rel => exact ⟨j + 1, seen1, todo1, n1, _, _, by go_num, by omega, HN1.out, rfl, by rw [HTK.out]; exact HX1.out, hp1, hr1⟩
              case measure => simp [intOf]; omega
            · rw [if_neg hys] at hl
              obtain ⟨w6, hr6, hB6⟩ := hr1.pick3.mp_put Try.underlying49 Try.underlying2 y (.int .i64 1) (by rw [ones_keys]; exact hys)
              have hX2 := hX1.new hys hyN (HXU.out y hyN)
              have hl2 := hX2.len
              rw [List.length_append, List.length_singleton] at hl2
              have HX2 := Lib.hid hX2; clear hX2
              clear hX1 hys hyN
              have hB7 := hB6.pick2
              go_wp2_with (at_builtin; refine wpList_append1 hB7 rfl (.tmp 37) (.tmp 39) 34 rfl (.int .i64 0) 8 under_i64s info_i64 rfl (by decide) rfl rfl rfl rfl (by omega) ?_; intro ao6 cap6 w7 hC)
              go_roundw
              case rel =>
                refine ⟨j + 1, seen1 ++ [y], todo1 ++ [y], n1 + 1, ao6, cap6, by go_num, by omega, by simp [HN1.out], rfl, by rw [HTK.out]; exact HX2.out, by simp; omega, ?_⟩
                have e1 : ones (seen1 ++ [y]) = ones seen1 ++ [(y, .int .i64 1)] := by simp [ones]
                rw [e1, List.map_append]
                exact hC.pick3.pick2
              case measure => simp [intOf]; omega
          · have hjn : nb = j := by omega
            have htk : (sortI (N x)).take j = sortI (N x) := List.take_of_length_le (by rw [HNL.out]; omega)
            rw [htk] at hX1
            have hS2 := hX1.done (fun y hy => mem_sortI.2 hy)
            have hms2 := hr1.pick3.msz
            rw [show (ones seen1).length = seen1.length from by simp [ones]] at hms2
            have HS2 := Lib.hid hS2; clear hS2 hX1 htk
            have HMS2 := Lib.hid hms2; clear hms2
            subst hjn
            go_wp2
            go_roundw
            case rel => exact ⟨seen1, todo1, n1, ao1, cap1, HN1.out, rfl, HS2.out, by omega, hr1.pick2.drop⟩
            case measure =>
              rw [HMS.out, HMS2.out]
              simp only [slen]
              omega
end
end Go.Proofs.Ytihpcaklknbjiaa
