/-
  The plain law of a module's bytes: what is written is read again, what is read is told as it stood.
-/
import Derived.Test.YtebolbjbfnolpabModU
import Derived.Test.YtebolbjbfnolpabInstrLaw
namespace Go.Proofs.Ytebolbjbfnolpab
namespace Mod

def bt (l : List Int) : List UInt8 := Reel.digits l.length ++ l.map (fun t => UInt8.ofNat t.toNat)
def bins (i : Int × Int) : List UInt8 := UInt8.ofNat i.1.toNat :: (if Instr.has i.1 then Reel.digits (Reel.fold i.2) else [])
def bcode (c : List (Int × Int)) : List UInt8 := Reel.digits c.length ++ (c.map bins).flatten
def bclause (c : Int × Int) : List UInt8 := Reel.digits c.1.toNat ++ Reel.digits c.2.toNat
def btab (t : Tab) : List UInt8 := Reel.digits t.1.length ++ ((t.1.map bclause).flatten ++ Reel.digits (Reel.fold t.2))
def btabs (l : List Tab) : List UInt8 := Reel.digits l.length ++ (l.map btab).flatten
def bact (a : Act) : List UInt8 := bt a.params ++ (bt a.regs ++ (bt a.msgs ++ (bcode a.code ++ btabs a.tabs)))
def bmod (m : List Act) : List UInt8 := [67, 66, 49] ++ (Reel.digits m.length ++ (m.map bact).flatten)

/-! what is written -/
def Adds (f : Reel.W → Reel.W) (b : List UInt8) : Prop := ∀ o r, (b.length : Int) ≤ r → f ⟨o, r, 0⟩ = ⟨o ++ b, r - b.length, 0⟩
theorem Adds.comp {f g : Reel.W → Reel.W} {b c : List UInt8} (h1 : Adds f b) (h2 : Adds g c) : Adds (fun W => g (f W)) (b ++ c) := by
  intro o r hr
  simp only [List.length_append] at hr
  push_cast at hr
  show g (f ⟨o, r, 0⟩) = _
  rw [h1 o r (by omega), h2 _ _ (by omega), List.append_assoc, List.length_append]
  congr 1; push_cast; omega
theorem adds_add (b : List UInt8) : Adds (fun W => W.add b) b := by
  intro o r hr
  show Reel.W.add ⟨o, r, 0⟩ b = _
  unfold Reel.W.add
  rw [if_neg (by simp only; omega)]
theorem adds_num (n : Nat) : Adds (fun W => W.num n) (Reel.digits n) := by
  intro o r hr
  simp only [Reel.W.num, if_true]
  exact adds_add _ o r hr
theorem adds_int (n : Int) : Adds (fun W => W.int n) (Reel.digits (Reel.fold n)) := adds_num _
theorem adds_byte (n : Int) (h0 : 0 ≤ n) (h1 : n ≤ 255) : Adds (fun W => W.byte n) [UInt8.ofNat n.toNat] := by
  intro o r hr
  simp only [Reel.W.byte, if_true]
  rw [if_neg (by omega)]
  exact adds_add _ o r hr
theorem adds_fold {α : Type} {f : Reel.W → α → Reel.W} {b : α → List UInt8} : ∀ (l : List α), (∀ x ∈ l, Adds (fun W => f W x) (b x)) → Adds (fun W => l.foldl f W) (l.map b).flatten
  | [], _ => by intro o r _; simp
  | x :: l, h => by
    have h1 := h x (by simp)
    have h2 := adds_fold l (fun y hy => h y (List.mem_cons_of_mem _ hy))
    have := h1.comp h2
    simpa using this
theorem flat_one {α : Type} (f : α → UInt8) : ∀ l : List α, (l.map (fun x => [f x])).flatten = l.map f
  | [] => rfl
  | x :: l => by simp [flat_one f l]
theorem ty_fits {t n : Int} (h : ty t n = true) : 0 ≤ t ∧ t ≤ 255 := by
  unfold ty at h
  simp only [Bool.or_eq_true, Bool.and_eq_true, decide_eq_true_eq] at h
  omega
theorem tys_fits {l : List Int} {n : Int} (h : tys l n = true) : ∀ t ∈ l, 0 ≤ t ∧ t ≤ 255 := fun t ht => ty_fits (List.all_eq_true.1 h t ht)
theorem adds_types {l : List Int} (h : ∀ t ∈ l, 0 ≤ t ∧ t ≤ 255) : Adds (fun W => wtypes W l) (bt l) := by
  have h1 := (adds_num l.length).comp (adds_fold (f := Reel.W.byte) (b := fun t => [UInt8.ofNat t.toNat]) l (fun t ht => adds_byte t (h t ht).1 (h t ht).2))
  rw [flat_one] at h1
  exact h1
theorem adds_ins {i : Int × Int} (h : ins i = true) : Adds (fun W => wins W i) (bins i) := by
  obtain ⟨h0, h1⟩ := Instr.right_op h
  have hb := adds_byte i.1 h0 (by omega)
  unfold wins Reel.W.instr bins
  cases hh : Instr.has i.1 with
  | true =>
    simp only [if_true]
    exact hb.comp (adds_int i.2)
  | false =>
    simp only [Bool.false_eq_true, if_false]
    exact hb
theorem adds_code {c : List (Int × Int)} (h : c.all ins = true) : Adds (fun W => wcode W c) (bcode c) :=
  (adds_num c.length).comp (adds_fold (f := wins) c (fun i hi => adds_ins (List.all_eq_true.1 h i hi)))
theorem adds_clause (c : Int × Int) : Adds (fun W => wclause W c) (bclause c) := (adds_num _).comp (adds_num _)
theorem adds_tab (t : Tab) : Adds (fun W => wtab W t) (btab t) := by
  have := ((adds_num t.1.length).comp (adds_fold (f := wclause) t.1 (fun c _ => adds_clause c))).comp (adds_int t.2)
  rw [List.append_assoc] at this
  exact this
theorem adds_act {a : Act} {n : Int} (h : right a n = true) : Adds (fun W => wact W a) (bact a) := by
  unfold right at h
  simp only [Bool.and_eq_true] at h
  obtain ⟨⟨⟨⟨⟨⟨⟨h1, h2⟩, h3⟩, _⟩, _⟩, h4⟩, _⟩, _⟩ := h
  have := (((((adds_types (tys_fits h1)).comp (adds_types (tys_fits h2))).comp (adds_types (tys_fits h3))).comp (adds_code h4)).comp (adds_num a.tabs.length)).comp (adds_fold (f := wtab) a.tabs (fun t _ => adds_tab t))
  simp only [List.append_assoc] at this
  exact this

/-! how much it is -/
theorem flat_le {α : Type} {b : α → List UInt8} (k : Nat) : ∀ (l : List α), (∀ x ∈ l, (b x).length ≤ k) → (l.map b).flatten.length ≤ l.length * k
  | [], _ => by simp
  | x :: l, h => by
    have h1 := h x (by simp)
    have h2 := flat_le k l (fun y hy => h y (List.mem_cons_of_mem _ hy))
    simp only [List.map_cons, List.flatten_cons, List.length_append, List.length_cons, Nat.add_mul]
    omega
theorem len1 {n : Nat} (h : n < 128) : (Reel.digits n).length = 1 := by rw [Reel.digits_small h]; rfl
theorem len2 {n : Nat} (h : n < 16384) : (Reel.digits n).length ≤ 2 := Reel.digits_len 1 n (by simpa using h)
/-- what the instructions name fits -/
def Args (m : List Act) : Prop := ∀ a ∈ m, ∀ i ∈ a.code, -9223372036854775808 ≤ i.2 ∧ i.2 ≤ 9223372036854775807
theorem bt_le {l : List Int} (h : l.length ≤ 16) : (bt l).length ≤ 17 := by
  rw [bt, List.length_append, List.length_map, len1 (by omega)]; omega
theorem bins_le {i : Int × Int} (h : -9223372036854775808 ≤ i.2 ∧ i.2 ≤ 9223372036854775807) : (bins i).length ≤ 11 := by
  unfold bins
  have := Reel.digits_len10 (n := Reel.fold i.2) (by have := Instr.fold64 i.2 h.1 h.2; simpa using this)
  split <;> simp <;> omega
theorem bcode_le {c : List (Int × Int)} (hl : c.length ≤ 200) (h : ∀ i ∈ c, -9223372036854775808 ≤ i.2 ∧ i.2 ≤ 9223372036854775807) : (bcode c).length ≤ 2202 := by
  have h1 := flat_le (b := bins) 11 c (fun i hi => bins_le (h i hi))
  have h2 := len2 (n := c.length) (by omega)
  rw [bcode, List.length_append]; omega
theorem place_lt {n e : Int} (h : place n e = true) : 0 ≤ n ∧ n < e := by
  unfold place at h
  simpa using h
theorem bclause_le {c : Int × Int} (h : clause c = true) : (bclause c).length ≤ 3 := by
  unfold clause at h
  rw [Bool.and_eq_true] at h
  have h1 := place_lt h.1
  have h2 := place_lt h.2
  have h3 := len2 (n := c.2.toNat) (by omega)
  rw [bclause, List.length_append, len1 (by omega)]; omega
theorem tab_to {t : Tab} (h : tab t = true) : -1 ≤ t.2 ∧ t.2 < 200 := by
  unfold tab at h
  rw [Bool.and_eq_true, Bool.or_eq_true, decide_eq_true_eq] at h
  rcases h.2 with h | h
  · omega
  · have := place_lt h; omega
theorem btab_le {t : Tab} (hl : t.1.length ≤ 8) (h : tab t = true) : (btab t).length ≤ 27 := by
  have h0 := tab_to h
  unfold tab at h
  rw [Bool.and_eq_true] at h
  have h1 := flat_le (b := bclause) 3 t.1 (fun c hc => bclause_le (List.all_eq_true.1 h.1 c hc))
  have h2 := len2 (n := Reel.fold t.2) (by unfold Reel.fold; split <;> omega)
  rw [btab, List.length_append, List.length_append, len1 (by omega)]; omega
theorem btabs_le {l : List Tab} (hl : l.length ≤ 8) (h8 : ∀ t ∈ l, t.1.length ≤ 8) (h : ∀ t ∈ l, tab t = true) : (btabs l).length ≤ 217 := by
  have h1 := flat_le (b := btab) 27 l (fun t ht => btab_le (h8 t ht) (h t ht))
  rw [btabs, List.length_append, len1 (by omega)]; omega
theorem little_of {a : Act} (h : little a = true) : (∀ t ∈ a.tabs, t.1.length ≤ 8) ∧ a.params.length ≤ 4 ∧ a.regs.length ≤ 16 ∧ a.msgs.length ≤ 8 ∧ a.code.length ≤ 200 ∧ a.tabs.length ≤ 8 := by
  unfold little at h
  simp only [Bool.and_eq_true, decide_eq_true_eq, List.all_eq_true] at h
  obtain ⟨⟨⟨⟨⟨h1, h2⟩, h3⟩, h4⟩, h5⟩, h6⟩ := h
  exact ⟨h1, h2, h3, h4, h5, h6⟩
theorem bact_le {a : Act} {n : Int} (hl : little a = true) (h : right a n = true) (hf : ∀ i ∈ a.code, -9223372036854775808 ≤ i.2 ∧ i.2 ≤ 9223372036854775807) : (bact a).length ≤ 2470 := by
  obtain ⟨l1, l2, l3, l4, l5, l6⟩ := little_of hl
  unfold right at h
  simp only [Bool.and_eq_true] at h
  obtain ⟨⟨_, h4⟩, _⟩ := h
  have e1 := bt_le (l := a.params) (by omega)
  have e2 := bt_le (l := a.regs) (by omega)
  have e3 := bt_le (l := a.msgs) (by omega)
  have e4 := bcode_le l5 hf
  have e5 := btabs_le l6 l1 (fun t ht => List.all_eq_true.1 h4 t ht)
  simp only [bact, List.length_append]; omega
theorem bmod_le {m : List Act} (h : err m = 0) (hf : Args m) : (bmod m).length ≤ 20000 := by
  obtain ⟨h1, h2, _, h3⟩ := err_right h
  have := flat_le (b := bact) 2470 m (fun a ha => bact_le (List.all_eq_true.1 h2 a ha) (List.all_eq_true.1 h3 a ha) (hf a ha))
  rw [bmod, List.length_append, List.length_append, len1 (by omega)]
  simp only [List.length_cons, List.length_nil]; omega
/-- A right module's bytes. -/
theorem bytes_right {m : List Act} (h : err m = 0) (hf : Args m) : bytes m = (bmod m, 0) := by
  have hl := bmod_le h hf
  obtain ⟨_, _, _, h3⟩ := err_right h
  rw [bytes, if_pos h]
  have h0 : whead = ⟨[67, 66, 49], 1048573, 0⟩ := by kernel_rfl
  have := ((adds_num m.length).comp (adds_fold (f := wact) m (fun a ha => adds_act (List.all_eq_true.1 h3 a ha)))) [67, 66, 49] 1048573 (by rw [bmod, List.length_append] at hl; simp only [List.length_cons, List.length_nil] at hl; omega)
  simp only at this
  rw [wmod, h0, this]
  rfl

/-! what is read again -/
def Reads {α : Type} (f : St → α × St) (b : List UInt8) (x : α) : Prop :=
  ∀ (T : List UInt8) (p : Nat) (bad : Bool) (h : List UInt8), T.drop p = b ++ h → f (⟨T, p, 0⟩, bad) = (x, ⟨T, p + b.length, 0⟩, bad)
theorem behind {T b h : List UInt8} {p : Nat} (e : T.drop p = b ++ h) : T.drop (p + b.length) = h := by
  rw [← List.drop_drop, e, List.drop_left]
theorem num_of {T h : List UInt8} {p n : Nat} (hn : n < 18446744073709551616) (e : T.drop p = Reel.digits n ++ h) : (Reel.R.mk T p 0).num = (n, ⟨T, p + (Reel.digits n).length, 0⟩) := by
  unfold Reel.R.num
  simp only [e, if_true]
  rw [Reel.rdNum_of h 0 n (by decide) (by omega) (by simpa using hn)]
  rfl
theorem reads_number {n most : Nat} (h : n ≤ most) (h2 : most ≤ 1000) : Reads (number most) (Reel.digits n) n := by
  intro T p bad r e
  have := num_of (n := n) (by omega) e
  unfold number
  simp only [this]
  rw [if_neg (by omega)]
theorem byte_of {T h : List UInt8} {p : Nat} {x : Int} (h0 : 0 ≤ x) (h1 : x ≤ 255) (e : T.drop p = UInt8.ofNat x.toNat :: h) : (Reel.R.mk T p 0).byte = (x, ⟨T, p + 1, 0⟩) := by
  unfold Reel.R.byte
  simp only [e, if_true]
  refine Prod.ext ?_ rfl
  simp; omega
theorem reads_byte {x : Int} (h0 : 0 ≤ x) (h1 : x ≤ 255) : Reads rbyte [UInt8.ofNat x.toNat] x := by
  intro T p bad r e
  unfold rbyte
  simp only [byte_of h0 h1 e]
  rfl
theorem int_of {T h : List UInt8} {p : Nat} {a : Int} (h0 : -9223372036854775808 ≤ a ∧ a ≤ 9223372036854775807) (e : T.drop p = Reel.digits (Reel.fold a) ++ h) :
    (Reel.R.mk T p 0).int = (a, ⟨T, p + (Reel.digits (Reel.fold a)).length, 0⟩) := by
  unfold Reel.R.int
  rw [num_of (by have := Instr.fold64 a h0.1 h0.2; simpa using this) e, Reel.unfold_fold]
theorem reads_ins {i : PairD} (h : ins (toP i) = true) (hf : -9223372036854775808 ≤ i.2.1 ∧ i.2.1 ≤ 9223372036854775807) : Reads rins (bins (toP i)) i := by
  obtain ⟨op, a, u⟩ := i
  simp only [toP] at h hf ⊢
  obtain ⟨h0, h1⟩ := Instr.right_op h
  intro T p bad r e
  have e1 := byte_of h0 (by omega) e
  unfold bins at e ⊢
  unfold rins
  simp only [e1]
  simp only at e
  cases hh : Instr.has op with
  | true =>
    simp only [hh, if_true] at e ⊢
    have e2 := behind (b := [UInt8.ofNat op.toNat]) e
    have e3 := int_of hf e2
    simp only [List.length_cons, List.length_nil, Nat.zero_add] at e3
    rw [e3]
    simp only [List.length_cons]
    rw [show p + 1 + (Reel.digits (Reel.fold a)).length = p + ((Reel.digits (Reel.fold a)).length + 1) by omega]
  | false =>
    have hz : a = 0 := by
      have := Instr.right_zero h0 h1 hh a
      unfold ins at h
      rw [this] at h
      simpa using h
    subst hz
    simp only [Bool.false_eq_true, if_false]
    rfl
theorem reads_rep {α : Type} {f : St → α × St} {b : α → List UInt8} {l : List α} (h : ∀ x ∈ l, Reads f (b x) x) : Reads (rep f l.length) (l.map b).flatten l := by
  suffices ∀ k, k ≤ l.length → Reads (rep f k) ((l.take k).map b).flatten (l.take k) by
    have := this l.length (Nat.le_refl _)
    rwa [List.take_length] at this
  intro k
  induction k with
  | zero => intro _ T p bad r _; rfl
  | succ k ih =>
    intro hk T p bad r e
    have hx := h l[k] (List.getElem_mem _)
    rw [List.take_succ_eq_append_getElem (by omega), List.map_append, List.flatten_append] at e ⊢
    simp only [List.map_cons, List.map_nil, List.flatten_cons, List.flatten_nil, List.append_nil] at e ⊢
    rw [List.append_assoc] at e
    have e1 := ih (by omega) T p bad _ e
    have e2 := hx T _ bad _ (behind e)
    rw [rep, e1]
    simp only [e2, List.length_append]
    rw [Nat.add_assoc]
def counted {α : Type} (most : Nat) (f : St → α × St) (s : St) : List α × St := rep f (number most s).1 (number most s).2
theorem reads_counted {α : Type} {f : St → α × St} {b : α → List UInt8} {l : List α} {most : Nat} (h1 : l.length ≤ most) (h2 : most ≤ 1000) (h : ∀ x ∈ l, Reads f (b x) x) :
    Reads (counted most f) (Reel.digits l.length ++ (l.map b).flatten) l := by
  intro T p bad r e
  rw [List.append_assoc] at e
  have e1 := reads_number h1 h2 T p bad _ e
  have e2 := reads_rep h T _ bad r (behind e)
  unfold counted
  rw [e1]
  simp only [e2, List.length_append]
  rw [Nat.add_assoc]
theorem reads_types {l : List Int} (h1 : l.length ≤ 16) (h : ∀ t ∈ l, 0 ≤ t ∧ t ≤ 255) : Reads rtypes (bt l) l := by
  have := reads_counted (f := rbyte) (b := fun t => [UInt8.ofNat t.toNat]) h1 (by decide) (fun t ht => reads_byte (h t ht).1 (h t ht).2)
  rw [flat_one] at this
  exact this
theorem flat_map {α β : Type} (g : α → β) (b : β → List UInt8) (l : List α) : (l.map fun x => b (g x)).flatten = ((l.map g).map b).flatten := by rw [List.map_map]; rfl
theorem reads_code {c : List PairD} (h1 : c.length ≤ 200) (h : ∀ i ∈ c, ins (toP i) = true) (hf : ∀ i ∈ c, -9223372036854775808 ≤ i.2.1 ∧ i.2.1 ≤ 9223372036854775807) : Reads rcode (bcode (c.map toP)) c := by
  have := reads_counted (f := rins) (b := fun i => bins (toP i)) h1 (by decide) (fun i hi => reads_ins (h i hi) (hf i hi))
  rw [flat_map, ← List.length_map (f := toP)] at this
  exact this
theorem reads_clause {c : PairD} (h : clause (toP c) = true) : Reads rclause (bclause (toP c)) c := by
  obtain ⟨g, to, u⟩ := c
  unfold clause at h
  rw [Bool.and_eq_true] at h
  have h1 := place_lt h.1
  have h2 := place_lt h.2
  simp only [toP] at h1 h2 ⊢
  intro T p bad r e
  unfold bclause at e ⊢
  simp only [List.append_assoc] at e
  have e1 := reads_number (n := g.toNat) (most := 200) (by omega) (by decide) T p bad _ e
  have e2 := reads_number (n := to.toNat) (most := 200) (by omega) (by decide) T _ bad _ (behind e)
  unfold rclause
  simp only [e1, e2, List.length_append]
  rw [Nat.add_assoc, Int.toNat_of_nonneg h1.1, Int.toNat_of_nonneg h2.1]
theorem reads_tab {t : TabD} (h8 : t.1.length ≤ 8) (h : tab (toTab t) = true) : Reads rtab (btab (toTab t)) t := by
  obtain ⟨cs, to, u⟩ := t
  have h0 := tab_to h
  unfold tab at h
  rw [Bool.and_eq_true] at h
  simp only [toTab] at h0 h h8 ⊢
  have hc : ∀ c ∈ cs, clause (toP c) = true := fun c hc => List.all_eq_true.1 h.1 _ (List.mem_map_of_mem hc)
  have hr := reads_counted (f := rclause) (b := fun c => bclause (toP c)) h8 (by decide) (fun c hx => reads_clause (hc c hx))
  rw [flat_map, ← List.length_map (f := toP)] at hr
  intro T p bad r e
  unfold btab at e ⊢
  simp only at e ⊢
  rw [← List.append_assoc, List.append_assoc] at e
  have e1 := hr T p bad _ e
  have e2 := int_of (a := to) (by omega) (behind e)
  unfold counted at e1
  unfold rtab
  simp only [e1]
  simp only [e2]
  rw [decide_eq_false (show ¬ to < -1 by omega), decide_eq_false (show ¬ 200 < to by omega)]
  simp only [Bool.or_false, List.length_append, Nat.add_assoc]
theorem reads_tabs {l : List TabD} (hl : l.length ≤ 8) (h8 : ∀ t ∈ l, t.1.length ≤ 8) (h : ∀ t ∈ l, tab (toTab t) = true) : Reads rtabs (btabs (l.map toTab)) l := by
  have := reads_counted (f := rtab) (b := fun t => btab (toTab t)) hl (by decide) (fun t ht => reads_tab (h8 t ht) (h t ht))
  rw [flat_map, ← List.length_map (f := toTab)] at this
  exact this
theorem reads_act {a : ActD} {n : Int} (hl : little (toAct a) = true) (h : right (toAct a) n = true) (hf : ∀ i ∈ a.2.2.2.1, -9223372036854775808 ≤ i.2.1 ∧ i.2.1 ≤ 9223372036854775807) : Reads ract (bact (toAct a)) a := by
  obtain ⟨p, r, m, c, ts, u⟩ := a
  obtain ⟨l1, l2, l3, l4, l5, l6⟩ := little_of hl
  unfold right at h
  simp only [Bool.and_eq_true] at h
  obtain ⟨⟨⟨⟨⟨⟨⟨h1, h2⟩, h3⟩, _⟩, _⟩, h4⟩, h5⟩, _⟩ := h
  simp only [toAct, List.length_map] at *
  have q1 := reads_types (by omega) (tys_fits h1)
  have q2 := reads_types (by omega) (tys_fits h2)
  have q3 := reads_types (by omega) (tys_fits h3)
  have q4 := reads_code l5 (fun i hi => List.all_eq_true.1 h4 _ (List.mem_map_of_mem hi)) hf
  have q5 := reads_tabs l6 (fun t ht => by have := l1 _ (List.mem_map_of_mem (f := toTab) ht); simpa [toTab] using this) (fun t ht => List.all_eq_true.1 h5 _ (List.mem_map_of_mem ht))
  intro T o bad b e
  unfold bact at e ⊢
  simp only [List.append_assoc] at e
  have e1 := q1 T o bad _ e
  have d1 := behind e
  have e2 := q2 T _ bad _ d1
  have d2 := behind d1
  have e3 := q3 T _ bad _ d2
  have d3 := behind d2
  have e4 := q4 T _ bad _ d3
  have d4 := behind d3
  have e5 := q5 T _ bad _ d4
  unfold ract
  simp only [e1, e2, e3, e4, e5]
  simp only [List.length_append, Nat.add_assoc]
/-- .. of the data -/
def ArgsD (l : List ActD) : Prop := ∀ a ∈ l, ∀ i ∈ a.2.2.2.1, -9223372036854775808 ≤ i.2.1 ∧ i.2.1 ≤ 9223372036854775807
theorem ArgsD.args {l : List ActD} (h : ArgsD l) : Args (l.map toAct) := by
  intro a ha i hi
  obtain ⟨d, hd, rfl⟩ := List.mem_map.1 ha
  obtain ⟨j, hj, rfl⟩ := List.mem_map.1 hi
  exact h d hd j hj
theorem racts_of {l : List ActD} (h : err (l.map toAct) = 0) (hf : ArgsD l) (b : List UInt8) :
    racts (bmod (l.map toAct) ++ b) = (l, ⟨(bmod (l.map toAct) ++ b).drop 3, (bmod (l.map toAct)).length - 3, 0⟩, false) := by
  obtain ⟨h1, h2, _, h3⟩ := err_right h
  rw [List.length_map] at h1
  have hr := reads_counted (f := ract) (b := fun a => bact (toAct a)) (l := l) h1 (by decide) (fun a ha => reads_act (List.all_eq_true.1 h2 _ (List.mem_map_of_mem ha)) (List.all_eq_true.1 h3 _ (List.mem_map_of_mem ha)) (hf a ha))
  rw [flat_map] at hr
  have e := hr ((bmod (l.map toAct) ++ b).drop 3) 0 false b (by unfold bmod; rw [List.length_map]; rfl)
  have hl : (bmod (l.map toAct)).length - 3 = 0 + (Reel.digits l.length ++ ((l.map toAct).map bact).flatten).length := by
    rw [bmod, List.length_map, List.length_append]
    simp only [List.length_cons, List.length_nil]; omega
  rw [hl]
  exact e
theorem bmod_3 (m : List Act) (b : List UInt8) : (bmod m ++ b).take 3 = [67, 66, 49] ∧ 3 ≤ (bmod m).length := by
  refine ⟨rfl, ?_⟩
  rw [bmod, List.length_append]; simp
theorem fin_zero {T : List UInt8} {p : Nat} (h : T.length ≤ p) : (Reel.R.mk T p 0).fin = 0 := by
  unfold Reel.R.fin Reel.R.left
  rw [if_pos rfl, if_neg (by simp only; omega)]
theorem fin_more {T : List UInt8} {p : Nat} (h : p < T.length) : (Reel.R.mk T p 0).fin = 5 := by
  unfold Reel.R.fin Reel.R.left
  rw [if_pos rfl, if_pos (by simp only; omega)]
/-- What a right module is written as is read as the module. -/
theorem mread_bmod {l : List ActD} (h : err (l.map toAct) = 0) (hf : ArgsD l) : mread (bmod (l.map toAct)) = (l, 0) := by
  have hl := bmod_le h hf.args
  have e := racts_of h hf []
  rw [List.append_nil] at e
  have h3 := bmod_3 (l.map toAct) []
  rw [List.append_nil] at h3
  unfold mread
  rw [if_neg (by omega), if_neg (by rw [h3.1]; simp), e]
  simp only [h]
  rw [fin_zero (by simp), if_neg (by decide)]
/-- .. with more behind it is none. -/
theorem mread_more {l : List ActD} (h : err (l.map toAct) = 0) (hf : ArgsD l) {b : List UInt8} (hb : b ≠ []) : (mread (bmod (l.map toAct) ++ b)).2 ≠ 0 := by
  have e := racts_of h hf b
  have h3 := bmod_3 (l.map toAct) b
  have hb : 0 < b.length := List.length_pos_iff.2 hb
  unfold mread
  split
  · decide
  · rw [if_neg (by rw [h3.1]; simp), e]
    simp only
    rw [fin_more (by simp; omega)]
    simp

/-! what is read is written -/
def rest (s : St) : List UInt8 := s.1.text.drop s.1.pos
def Good (s : St) : Prop := s.1.err = 0 ∧ s.2 = false
def Back {α : Type} (f : St → α × St) (b : α → List UInt8) : Prop := ∀ s : St, Good (f s).2 → Good s ∧ rest s = b (f s).1 ++ rest (f s).2
theorem back_num {R : Reel.R} (h : R.num.2.err = 0) : R.err = 0 ∧ R.text.drop R.pos = Reel.digits R.num.1 ++ R.num.2.text.drop R.num.2.pos := by
  unfold Reel.R.num at h ⊢
  by_cases h1 : R.err = 0
  · rw [if_pos h1] at h ⊢
    by_cases h2 : (Reel.rdNum 0 (R.text.drop R.pos)).1 = 0
    · rw [if_pos h2]
      refine ⟨h1, ?_⟩
      simp only
      rw [Reel.rdNum_digits _ 0 h2, ← List.drop_drop, List.take_append_drop]
    · rw [if_neg h2] at h; exact absurd h h2
  · rw [if_neg h1] at h; exact absurd h h1
theorem back_number (most : Nat) : Back (number most) Reel.digits := by
  intro s h
  unfold number at h ⊢
  split
  · rename_i hc; rw [if_pos hc] at h; exact absurd h.2 (by simp)
  · rename_i hc
    rw [if_neg hc] at h
    have := back_num h.1
    exact ⟨⟨this.1, h.2⟩, this.2⟩
theorem back_byte {R : Reel.R} (h : R.byte.2.err = 0) : R.err = 0 ∧ R.text.drop R.pos = UInt8.ofNat R.byte.1.toNat :: R.byte.2.text.drop R.byte.2.pos := by
  unfold Reel.R.byte at h ⊢
  by_cases h1 : R.err = 0
  · rw [if_pos h1] at h ⊢
    refine ⟨h1, ?_⟩
    split at h
    · simp at h
    · rename_i c r hd
      rw [hd]
      simp only
      rw [← List.drop_drop, hd]
      simp
  · rw [if_neg h1] at h; exact absurd h h1
theorem back_rbyte : Back rbyte (fun x => [UInt8.ofNat x.toNat]) := by
  intro s h
  have := back_byte (R := s.1) h.1
  exact ⟨⟨this.1, h.2⟩, this.2⟩
theorem back_int {R : Reel.R} (h : R.int.2.err = 0) : R.err = 0 ∧ R.text.drop R.pos = Reel.digits (Reel.fold R.int.1) ++ R.int.2.text.drop R.int.2.pos := by
  have := back_num (R := R) h
  unfold Reel.R.int
  rw [Reel.fold_unfold]
  exact this
theorem back_ins : Back rins (fun i => bins (toP i)) := by
  intro s h
  unfold rins at h ⊢
  cases hh : Instr.has s.1.byte.1 with
  | true =>
    simp only [hh, if_true] at h ⊢
    have e1 := back_int h.1
    have e2 := back_byte e1.1
    refine ⟨⟨e2.1, h.2⟩, ?_⟩
    simp only [rest, toP, bins, hh, if_true]
    rw [e2.2, e1.2]
    rfl
  | false =>
    simp only [hh, Bool.false_eq_true, if_false] at h ⊢
    have e2 := back_byte h.1
    refine ⟨⟨e2.1, h.2⟩, ?_⟩
    simp only [rest, toP, bins, hh, Bool.false_eq_true, if_false]
    rw [e2.2]
    rfl
theorem back_rep {α : Type} {f : St → α × St} {b : α → List UInt8} (h : Back f b) (k : Nat) : Back (rep f k) (fun l => (l.map b).flatten) := by
  induction k with
  | zero => intro s hs; exact ⟨hs, rfl⟩
  | succ k ih =>
    intro s hs
    have h1 := h (rep f k s).2 hs
    have h2 := ih s h1.1
    refine ⟨h2.1, ?_⟩
    rw [h2.2, h1.2]
    simp [rep]
theorem back_counted {α : Type} {f : St → α × St} {b : α → List UInt8} (h : Back f b) (most : Nat) : Back (counted most f) (fun l => Reel.digits l.length ++ (l.map b).flatten) := by
  intro s hs
  have h1 := back_rep h _ _ hs
  have h2 := back_number most s h1.1
  refine ⟨h2.1, ?_⟩
  unfold counted
  simp only
  rw [rep_len, h2.2, h1.2, List.append_assoc]
theorem back_types : Back rtypes bt := by
  intro s hs
  have := back_counted back_rbyte 16 s hs
  simp only [flat_one] at this
  exact this
theorem back_code : Back rcode (fun c => bcode (c.map toP)) := by
  intro s hs
  have := back_counted back_ins 200 s hs
  simp only [flat_map, ← List.length_map (f := toP)] at this
  exact this
theorem back_clause : Back rclause (fun c => bclause (toP c)) := by
  intro s hs
  have h1 := back_number 200 _ hs
  have h2 := back_number 200 _ h1.1
  refine ⟨h2.1, ?_⟩
  rw [h2.2, h1.2]
  simp [rclause, toP, bclause]
theorem back_tab : Back rtab (fun t => btab (toTab t)) := by
  intro s hs
  unfold rtab at hs
  obtain ⟨he, hb⟩ := hs
  simp only [Bool.or_eq_false_iff] at hb
  have h1 := back_int he
  have h2 := back_counted back_clause 8 s ⟨h1.1, hb.1.1⟩
  refine ⟨h2.1, ?_⟩
  rw [h2.2]
  unfold rest
  unfold counted
  rw [h1.2]
  simp only [rtab, toTab, btab, flat_map, List.length_map, List.append_assoc]
theorem back_tabs : Back rtabs (fun l => btabs (l.map toTab)) := by
  intro s hs
  have := back_counted back_tab 8 s hs
  simp only [flat_map, ← List.length_map (f := toTab)] at this
  exact this
theorem back_act : Back ract (fun a => bact (toAct a)) := by
  intro s hs
  unfold ract at hs
  dsimp only at hs
  have h5 := back_tabs _ hs
  have h4 := back_code _ h5.1
  have h3 := back_types _ h4.1
  have h2 := back_types _ h3.1
  have h1 := back_types _ h2.1
  refine ⟨h1.1, ?_⟩
  rw [h1.2, h2.2, h3.2, h4.2, h5.2]
  unfold ract
  generalize rtypes s = t1
  generalize rtypes t1.2 = t2
  generalize rtypes t2.2 = t3
  generalize rcode t3.2 = t4
  generalize rtabs t4.2 = t5
  simp only [toAct, bact, List.append_assoc]
/-- What was read as a module stood there as the module is written. -/
theorem mread_ok {t : List UInt8} (h : (mread t).2 = 0) : t = bmod ((mread t).1.map toAct) ∧ err ((mread t).1.map toAct) = 0 := by
  unfold mread at h ⊢
  split at h
  · exact absurd h (by decide)
  · rename_i h1
    rw [if_neg h1]
    split at h
    · exact absurd h (by decide)
    · rename_i h2
      rw [if_neg h2]
      split at h
      · exact absurd h (by decide)
      · rename_i h3
        rw [if_neg h3]
        simp only [Bool.or_eq_true, decide_eq_true_eq, not_or, Bool.not_eq_true, Classical.not_not] at h3
        obtain ⟨⟨hb, hf⟩, he⟩ := h3
        simp only
        refine ⟨?_, he⟩
        have hfin : (racts t).2.1.err = 0 ∧ rest (racts t).2 = [] := by
          unfold Reel.R.fin at hf
          split at hf
          · rename_i h4
            refine ⟨h4, ?_⟩
            split at hf
            · exact absurd hf (by decide)
            · rename_i h5
              unfold Reel.R.left at h5
              unfold rest
              exact List.drop_eq_nil_of_le (by omega)
          · rename_i h4; exact absurd hf h4
        have := (back_counted back_act 8 (start t) ⟨hfin.1, hb⟩).2
        have e2 : rest (counted 8 ract (start t)).2 = [] := hfin.2
        rw [e2, List.append_nil] at this
        have e3 : rest (start t) = t.drop 3 := rfl
        rw [e3] at this
        simp only [flat_map] at this
        have e4 : t = [67, 66, 49] ++ t.drop 3 := by
          have h2 : t.take 3 = [67, 66, 49] := by simpa using h2
          rw [← h2, List.take_append_drop]
        have e5 : racts t = counted 8 ract (start t) := rfl
        rw [e5, bmod, List.length_map, ← this]
        exact e4
/-- Right modules of the same bytes are the same. -/
theorem bmod_inj {l l2 : List ActD} (h : err (l.map toAct) = 0) (hf : ArgsD l) (h2 : err (l2.map toAct) = 0) (hf2 : ArgsD l2) (e : bmod (l.map toAct) = bmod (l2.map toAct)) : l = l2 := by
  have e1 := mread_bmod h hf
  rw [e, mread_bmod h2 hf2] at e1
  exact (congrArg Prod.fst e1).symm
theorem rep_mem {α : Type} {f : St → α × St} {x : α} {s : St} : ∀ {k : Nat}, x ∈ (rep f k s).1 → ∃ s', x = (f s').1
  | 0, h => by simp [rep] at h
  | k + 1, h => by
    rw [rep, List.mem_append, List.mem_singleton] at h
    rcases h with h | h
    · exact rep_mem h
    · exact ⟨_, h⟩
theorem ins_args (s : St) : -9223372036854775808 ≤ (rins s).1.2.1 ∧ (rins s).1.2.1 ≤ 9223372036854775807 := by
  unfold rins
  split
  · exact int_fits _
  · simp
theorem code_args (s : St) : ∀ i ∈ (rcode s).1, -9223372036854775808 ≤ i.2.1 ∧ i.2.1 ≤ 9223372036854775807 := by
  intro i hi
  unfold rcode at hi
  obtain ⟨s2, rfl⟩ := rep_mem hi
  exact ins_args s2
theorem act_args (s : St) : ∀ i ∈ (ract s).1.2.2.2.1, -9223372036854775808 ≤ i.2.1 ∧ i.2.1 ≤ 9223372036854775807 := by
  unfold ract
  simp only
  exact code_args _
theorem mread_args (t : List UInt8) : ArgsD (mread t).1 := by
  unfold mread
  split
  · intro a ha; simp at ha
  · split
    · intro a ha; simp at ha
    · split
      · intro a ha; simp at ha
      · intro a ha i hi
        obtain ⟨s, rfl⟩ := rep_mem (f := ract) ha
        exact act_args s i hi
/-- No beginning of a right module's bytes is a module's. -/
theorem mread_cut {l : List ActD} (h : err (l.map toAct) = 0) (hf : ArgsD l) {k : Nat} (hk : k < (bmod (l.map toAct)).length) : (mread ((bmod (l.map toAct)).take k)).2 = 5 := by
  have hl := bmod_le h hf.args
  have hne : (mread ((bmod (l.map toAct)).take k)).2 ≠ 0 := by
    intro h0
    obtain ⟨e, he⟩ := mread_ok h0
    have hfa := mread_args ((bmod (l.map toAct)).take k)
    generalize (mread ((bmod (l.map toAct)).take k)).1 = n at *
    have e1 := racts_of he hfa ((bmod (l.map toAct)).drop k)
    have e2 := racts_of h hf []
    rw [List.append_nil] at e2
    have hlen := congrArg List.length e
    rw [List.length_take] at hlen
    rw [← e, List.take_append_drop, e2] at e1
    have e3 := congrArg (fun p => p.2.1.pos) e1
    simp only [List.length_take] at e3
    have h3 := (bmod_3 (n.map toAct) []).2
    have h4 := (bmod_3 (l.map toAct) []).2
    have h5 := congrArg List.length e
    rw [List.length_take] at h5
    omega
  unfold mread at hne ⊢
  rw [if_neg (by rw [List.length_take]; omega)] at hne ⊢
  split
  · rfl
  · rename_i h1
    rw [if_neg h1] at hne
    split
    · rfl
    · rename_i h2
      rw [if_neg h2] at hne
      exact absurd rfl hne
end Mod
end Go.Proofs.Ytebolbjbfnolpab
