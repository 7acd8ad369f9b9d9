/-
  The law ReelNil; how items are opened.
-/
import Derived.Test.YtohlphclhjmcaaaLawsB
import Derived.Test.YtohlphclhjmcaaaOpen
namespace Go.Proofs.Ytohlphclhjmcaaa
open Go.RowKit HP

noncomputable def fsItem : Array Field := match Try.prog.underlying 34 with | some (.struct fs) => fs | _ => #[]
abbrev ItemD := Int × Int × Int × List UInt8 × Unit
noncomputable def kfItem : Kf Try.prog [(3, 0, 1), (22, 1, 1), (2, 2, 1), (9, 3, 1)] 0 ItemD :=
  .cons (Kn.int Try.underlying3) (.cons (off := 1) (Kn.int Try.underlying22) (.cons (off := 2) (Kn.int Try.underlying2) (.cons (off := 3) (Kn.string Try.underlying9) (.nil (off := 4)))))
noncomputable def kItem : Kn Try.prog 34 ItemD := .st (fs := fsItem) kfItem (by kernel_rfl) (by kernel_rfl) (by kernel_rfl)
noncomputable def kItems : Kn Try.prog 29 (List ItemD) := .slice kItem (by decide) (by kernel_rfl) (by kernel_rfl)

def toItem (l : ItemD) : Item := ⟨l.1, l.2.1.toNat, l.2.2.1, l.2.2.2.1⟩
def Item.vs (x : Item) : List Value := [.int .i64 x.k, .int .u64 x.u, .int .i64 x.n, .string (str x.s)]
theorem item_open {w : World} {l : ItemD} {cs : List Value} (h : kItem.R w l cs) : cs = (toItem l).vs ∧ (toItem l).Fits := by
  obtain ⟨c1, _, rfl, ⟨rfl, h1⟩, c2, _, rfl, ⟨rfl, h2⟩, c3, _, rfl, ⟨rfl, h3⟩, c4, _, rfl, ⟨rfl, h4⟩, rfl⟩ := h
  obtain ⟨n, hn, hu⟩ := wf_u64 h2
  obtain ⟨h5, h6⟩ := wf_i64 h3
  refine ⟨?_, ?_⟩
  · simp only [toItem, Item.vs, hn, Int.toNat_natCast, List.cons_append, List.nil_append]
  · exact ⟨by simp only [toItem, hn, Int.toNat_natCast]; exact hu, h5, h6, by simpa [toItem, maxLen] using h4⟩

section
variable {w0 w : World} {L : List HP} {a : Nat} {W : Reel.W}

set_option maxRecDepth 100000 in
theorem reelNil_any (x : Item) (w : World) :
    Calls Try.prog 9 #[.agg #[.int .i64 x.k, .int .u64 x.u, .int .i64 x.n, .string (str x.s)]] w fun e w' => e = .returned (.bool true) ∧ Below w.heap.size w w' := by
  obtain ⟨W0, hW⟩ : ∃ W0, W0 = w := ⟨_, rfl⟩
  have hA : At W0 w [] := hW ▸ At.start w
  have HW := Lib.hid hW; clear hW
  have hstr : (str []).toList = [] := by decide +kernel
  go_enter Try.func9, Try.ntmps9
  go_wp2_with (first
    | (go_at_call 10; refine (lives_any (hA.alloc _)).mono ?_; rintro e w' ⟨rfl, hA1⟩; have c0 := hA1.cell 0; have c1 := hA1.cell 1; have c2 := hA1.cell 2; have c3 := hA1.cell 3)
    | (go_at_call 15; refine (write_nil x hA1).mono ?_; rintro e w' ⟨rfl, hA2⟩)
    | (go_at_call 30; refine (wbyte_nil _ _).mono ?_; rintro e w' ⟨rfl, rfl⟩)
    | (go_at_call 17; refine (wdone_nil _).mono ?_; rintro e w' ⟨rfl, rfl⟩)
    | (go_at_call 13; refine (wlen_nil _).mono ?_; rintro e w' ⟨rfl, rfl⟩)
    | (go_at_call 25; refine (rnum_nil _).mono ?_; rintro e w' ⟨rfl, rfl⟩)
    | (go_at_call 26; refine (rint_nil _).mono ?_; rintro e w' ⟨rfl, rfl⟩)
    | (go_at_call 27; refine (rbyte_nil _).mono ?_; rintro e w' ⟨rfl, rfl⟩)
    | (go_at_call 28; refine (rtext_nil _).mono ?_; rintro e w' ⟨rfl, rfl⟩)
    | (go_at_call 21; refine (rleft_nil _).mono ?_; rintro e w' ⟨rfl, rfl⟩)
    | (go_at_call 22; refine (rend_nil _).mono ?_; rintro e w' ⟨rfl, rfl⟩))
  go_returns
  exact ⟨rfl, HW.out ▸ hA2.below⟩
end
namespace reelNil
theorem reelNil_walk (W : World) (l : ItemD) (cs : Array Value) (hR : kItem.R W l cs.toList) :
    Calls Try.prog 9 #[.agg cs] W fun e w' => e = .returned (.bool true) ∧ Below W.heap.size W w' := by
  obtain ⟨h, _⟩ := item_open hR
  obtain rfl : cs = #[.int .i64 (toItem l).k, .int .u64 (toItem l).u, .int .i64 (toItem l).n, .string (str (toItem l).s)] := Array.toList_inj.1 h
  exact reelNil_any _ W
end reelNil
end Go.Proofs.Ytohlphclhjmcaaa
