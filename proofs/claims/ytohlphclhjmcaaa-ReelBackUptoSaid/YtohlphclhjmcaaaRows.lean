/-
  No cell of these rows narrows 'for every input' (looked for: loops, veiled, ifaces, maps, wideKeys, modest, calm, conditions, laid).
  DERIVED. THE GIVEN ROWS OF THIS SEAT. 7 by the template 'for every input the law returns true; each argument reads behind the call as it read before'; 0 by the template 'total and deterministic' (their statements: YtohlphclhjmcaaaTotals.lean).
  GIVEN WITH THE SEED: the statements are not yours to turn. If you find one false, say at which input.
  Laid BY PROGRAM, IN A SANDBOX (cutbox-rows.mjs): the forced cells as the released guide's own fill.sh prints them over the translation 3810df550e1413c8… (all of the seat's roots in one cut). By AI agents, Wed Nov 11 2026. No macro, syntax, notation, axiom, sorry.
-/
import Derived.Test.YtohlphclhjmcaaaChecked
import GoSem.Claim
import GoSem.ClaimJoined
import GoSem.ClaimMapViews
import Derived.JoinedTies
import Derived.KernelRfl
namespace Go.Proofs.Ytohlphclhjmcaaa
/- THE CELL 'sum', in the pinned program and in every row, IS THE sha256 OF THE DUMP (.gsa) THAT YtohlphclhjmcaaaProg.lean LOADS. Nothing in Lean hashes anything: it is a label: what it is worth is what the hold of that sum in a sandbox is worth. -/
noncomputable def Try.pinned : Pinned := { name := "ytohlphclhjmcaaa", sum := "3810df550e1413c80ca9f5ed3fd2ceda0bce733d78196182f83622b26aa42ba3", checked := Try.checked }
namespace Rows
def none {H : Type} : Left H := { results := [], args := [] }

/-- 'callboylaw01.ReelShort': WHATEVER THE INPUT: true; the input reads as it did. -/
def reelShortSpec : ChangeSpec := { name := "reelShort", fn := fun _ => fun
  | [d1, d2] => { results := [.lit (.bool true)], args := [d1, d2] }
  | _ => none }
def reelShortRow : OpenClaim := { program := "ytohlphclhjmcaaa", sum := "3810df550e1413c80ca9f5ed3fd2ceda0bce733d78196182f83622b26aa42ba3", func := "callboy/callboylaw01.ReelShort", spec := "reelShort", apart := false }
def ReelShortSaid : Prop := reelShortRow.holds Try.pinned (OpenSpec.ofChange reelShortSpec)

/-- ITS FALSE NEIGHBOUR: 'it returns false'. Refute it at one input. -/
def reelShortWrong : ChangeSpec := { name := "reelShort", fn := fun _ => fun
  | [d1, d2] => { results := [.lit (.bool false)], args := [d1, d2] }
  | _ => none }
def ReelShortWrongFalsely : Prop := reelShortRow.holds Try.pinned (OpenSpec.ofChange reelShortWrong)

/-- 'callboylaw01.ReelWrites': WHATEVER THE INPUT: true; the input reads as it did. -/
def reelWritesSpec : ChangeSpec := { name := "reelWrites", fn := fun _ => fun
  | [d1, d2] => { results := [.lit (.bool true)], args := [d1, d2] }
  | _ => none }
def reelWritesRow : OpenClaim := { program := "ytohlphclhjmcaaa", sum := "3810df550e1413c80ca9f5ed3fd2ceda0bce733d78196182f83622b26aa42ba3", func := "callboy/callboylaw01.ReelWrites", spec := "reelWrites", apart := false }
def ReelWritesSaid : Prop := reelWritesRow.holds Try.pinned (OpenSpec.ofChange reelWritesSpec)

/-- ITS FALSE NEIGHBOUR: 'it returns false'. Refute it at one input. -/
def reelWritesWrong : ChangeSpec := { name := "reelWrites", fn := fun _ => fun
  | [d1, d2] => { results := [.lit (.bool false)], args := [d1, d2] }
  | _ => none }
def ReelWritesWrongFalsely : Prop := reelWritesRow.holds Try.pinned (OpenSpec.ofChange reelWritesWrong)

/-- 'callboylaw01.ReelJoins': WHATEVER THE INPUT: true; the input reads as it did. -/
def reelJoinsSpec : ChangeSpec := { name := "reelJoins", fn := fun _ => fun
  | [d1, d2] => { results := [.lit (.bool true)], args := [d1, d2] }
  | _ => none }
def reelJoinsRow : OpenClaim := { program := "ytohlphclhjmcaaa", sum := "3810df550e1413c80ca9f5ed3fd2ceda0bce733d78196182f83622b26aa42ba3", func := "callboy/callboylaw01.ReelJoins", spec := "reelJoins", apart := false }
def ReelJoinsSaid : Prop := reelJoinsRow.holds Try.pinned (OpenSpec.ofChange reelJoinsSpec)

/-- ITS FALSE NEIGHBOUR: 'it returns false'. Refute it at one input. -/
def reelJoinsWrong : ChangeSpec := { name := "reelJoins", fn := fun _ => fun
  | [d1, d2] => { results := [.lit (.bool false)], args := [d1, d2] }
  | _ => none }
def ReelJoinsWrongFalsely : Prop := reelJoinsRow.holds Try.pinned (OpenSpec.ofChange reelJoinsWrong)

/-- 'callboylaw01.ReelReads': WHATEVER THE INPUT: true; the input reads as it did. -/
def reelReadsSpec : ChangeSpec := { name := "reelReads", fn := fun _ => fun
  | [d1, d2] => { results := [.lit (.bool true)], args := [d1, d2] }
  | _ => none }
def reelReadsRow : OpenClaim := { program := "ytohlphclhjmcaaa", sum := "3810df550e1413c80ca9f5ed3fd2ceda0bce733d78196182f83622b26aa42ba3", func := "callboy/callboylaw01.ReelReads", spec := "reelReads", apart := false }
def ReelReadsSaid : Prop := reelReadsRow.holds Try.pinned (OpenSpec.ofChange reelReadsSpec)

/-- ITS FALSE NEIGHBOUR: 'it returns false'. Refute it at one input. -/
def reelReadsWrong : ChangeSpec := { name := "reelReads", fn := fun _ => fun
  | [d1, d2] => { results := [.lit (.bool false)], args := [d1, d2] }
  | _ => none }
def ReelReadsWrongFalsely : Prop := reelReadsRow.holds Try.pinned (OpenSpec.ofChange reelReadsWrong)

/-- 'callboylaw01.ReelBack': WHATEVER THE INPUT: true; the input reads as it did. -/
def reelBackSpec : ChangeSpec := { name := "reelBack", fn := fun _ => fun
  | [d1, d2] => { results := [.lit (.bool true)], args := [d1, d2] }
  | _ => none }
def reelBackRow : OpenClaim := { program := "ytohlphclhjmcaaa", sum := "3810df550e1413c80ca9f5ed3fd2ceda0bce733d78196182f83622b26aa42ba3", func := "callboy/callboylaw01.ReelBack", spec := "reelBack", apart := false }
def ReelBackSaid : Prop := reelBackRow.holds Try.pinned (OpenSpec.ofChange reelBackSpec)

/-- ITS FALSE NEIGHBOUR: 'it returns false'. Refute it at one input. -/
def reelBackWrong : ChangeSpec := { name := "reelBack", fn := fun _ => fun
  | [d1, d2] => { results := [.lit (.bool false)], args := [d1, d2] }
  | _ => none }
def ReelBackWrongFalsely : Prop := reelBackRow.holds Try.pinned (OpenSpec.ofChange reelBackWrong)

/-- 'callboylaw01.ReelOnly': WHATEVER THE INPUT: true; the input reads as it did. -/
def reelOnlySpec : ChangeSpec := { name := "reelOnly", fn := fun _ => fun
  | [d1, d2] => { results := [.lit (.bool true)], args := [d1, d2] }
  | _ => none }
def reelOnlyRow : OpenClaim := { program := "ytohlphclhjmcaaa", sum := "3810df550e1413c80ca9f5ed3fd2ceda0bce733d78196182f83622b26aa42ba3", func := "callboy/callboylaw01.ReelOnly", spec := "reelOnly", apart := false }
def ReelOnlySaid : Prop := reelOnlyRow.holds Try.pinned (OpenSpec.ofChange reelOnlySpec)

/-- ITS FALSE NEIGHBOUR: 'it returns false'. Refute it at one input. -/
def reelOnlyWrong : ChangeSpec := { name := "reelOnly", fn := fun _ => fun
  | [d1, d2] => { results := [.lit (.bool false)], args := [d1, d2] }
  | _ => none }
def ReelOnlyWrongFalsely : Prop := reelOnlyRow.holds Try.pinned (OpenSpec.ofChange reelOnlyWrong)

/-- 'callboylaw01.ReelNil': WHATEVER THE INPUT: true; the input reads as it did. -/
def reelNilSpec : ChangeSpec := { name := "reelNil", fn := fun _ => fun
  | [d] => { results := [.lit (.bool true)], args := [d] }
  | _ => none }
def reelNilRow : OpenClaim := { program := "ytohlphclhjmcaaa", sum := "3810df550e1413c80ca9f5ed3fd2ceda0bce733d78196182f83622b26aa42ba3", func := "callboy/callboylaw01.ReelNil", spec := "reelNil", apart := false }
def ReelNilSaid : Prop := reelNilRow.holds Try.pinned (OpenSpec.ofChange reelNilSpec)

/-- ITS FALSE NEIGHBOUR: 'it returns false'. Refute it at one input. -/
def reelNilWrong : ChangeSpec := { name := "reelNil", fn := fun _ => fun
  | [d] => { results := [.lit (.bool false)], args := [d] }
  | _ => none }
def ReelNilWrongFalsely : Prop := reelNilRow.holds Try.pinned (OpenSpec.ofChange reelNilWrong)

/- THE SECOND FORM. 'bulk': how many values and letters a reading holds, each counted each time it is reached (what is shared counts as often as it is met; a slice's spare places count too). A statement '..UptoSaid' is the law's where the arguments, and the package variables that the reading takes, are together of bulk at most 1048576: NARROWER than '..Said'. Prove '..Said' where nothing that the law and all that it calls make is longer than what came in: it says more and counts as full. Else prove '..UptoSaid'. A law counts once. -/
mutual
def uptoBulk {H : Type} : DataW H → Nat
  | .lit (.string bytes) => bytes.length + 1
  | .lit _ => 1
  | .nil => 1
  | .ptr d => uptoBulk d + 1
  | .slice elems spare => uptoBulkAll elems + uptoBulkAll spare + 1
  | .agg parts => uptoBulkAll parts + 1
  | .iface _ d => uptoBulk d + 1
  | .map entries => uptoBulkEntries entries + 1
  | .held _ => 1
def uptoBulkAll {H : Type} : List (DataW H) → Nat
  | [] => 0
  | d :: r => uptoBulk d + uptoBulkAll r
def uptoBulkEntries {H : Type} : List (Lit × DataW H) → Nat
  | [] => 0
  | x :: r => uptoBulkEntry x + uptoBulkEntries r
def uptoBulkEntry {H : Type} : Lit × DataW H → Nat
  | (.string bytes, d) => bytes.length + uptoBulk d + 1
  | (_, d) => uptoBulk d + 1
 end
def uptoSmall : (H : Type) → List (DataW H) → Bool := fun _ ds => decide (uptoBulkAll ds ≤ 1048576)
def OpenSpec.upto (s : _root_.Go.ChangeSpec) : _root_.Go.OpenSpec := { _root_.Go.OpenSpec.ofChange s with cond := some uptoSmall }

/-- 'callboylaw01.ReelShort', WHERE WHAT IT READS IS OF BULK AT MOST 1048576: true; the input reads as it did. -/
def reelShortUptoRow : OpenClaim := { program := "ytohlphclhjmcaaa", sum := "3810df550e1413c80ca9f5ed3fd2ceda0bce733d78196182f83622b26aa42ba3", func := "callboy/callboylaw01.ReelShort", spec := "reelShort", apart := false, narrowed := true }
def ReelShortUptoSaid : Prop := reelShortUptoRow.holds Try.pinned (OpenSpec.upto reelShortSpec)

/-- 'callboylaw01.ReelWrites', WHERE WHAT IT READS IS OF BULK AT MOST 1048576: true; the input reads as it did. -/
def reelWritesUptoRow : OpenClaim := { program := "ytohlphclhjmcaaa", sum := "3810df550e1413c80ca9f5ed3fd2ceda0bce733d78196182f83622b26aa42ba3", func := "callboy/callboylaw01.ReelWrites", spec := "reelWrites", apart := false, narrowed := true }
def ReelWritesUptoSaid : Prop := reelWritesUptoRow.holds Try.pinned (OpenSpec.upto reelWritesSpec)

/-- 'callboylaw01.ReelJoins', WHERE WHAT IT READS IS OF BULK AT MOST 1048576: true; the input reads as it did. -/
def reelJoinsUptoRow : OpenClaim := { program := "ytohlphclhjmcaaa", sum := "3810df550e1413c80ca9f5ed3fd2ceda0bce733d78196182f83622b26aa42ba3", func := "callboy/callboylaw01.ReelJoins", spec := "reelJoins", apart := false, narrowed := true }
def ReelJoinsUptoSaid : Prop := reelJoinsUptoRow.holds Try.pinned (OpenSpec.upto reelJoinsSpec)

/-- 'callboylaw01.ReelReads', WHERE WHAT IT READS IS OF BULK AT MOST 1048576: true; the input reads as it did. -/
def reelReadsUptoRow : OpenClaim := { program := "ytohlphclhjmcaaa", sum := "3810df550e1413c80ca9f5ed3fd2ceda0bce733d78196182f83622b26aa42ba3", func := "callboy/callboylaw01.ReelReads", spec := "reelReads", apart := false, narrowed := true }
def ReelReadsUptoSaid : Prop := reelReadsUptoRow.holds Try.pinned (OpenSpec.upto reelReadsSpec)

/-- 'callboylaw01.ReelBack', WHERE WHAT IT READS IS OF BULK AT MOST 1048576: true; the input reads as it did. -/
def reelBackUptoRow : OpenClaim := { program := "ytohlphclhjmcaaa", sum := "3810df550e1413c80ca9f5ed3fd2ceda0bce733d78196182f83622b26aa42ba3", func := "callboy/callboylaw01.ReelBack", spec := "reelBack", apart := false, narrowed := true }
def ReelBackUptoSaid : Prop := reelBackUptoRow.holds Try.pinned (OpenSpec.upto reelBackSpec)

/-- 'callboylaw01.ReelOnly', WHERE WHAT IT READS IS OF BULK AT MOST 1048576: true; the input reads as it did. -/
def reelOnlyUptoRow : OpenClaim := { program := "ytohlphclhjmcaaa", sum := "3810df550e1413c80ca9f5ed3fd2ceda0bce733d78196182f83622b26aa42ba3", func := "callboy/callboylaw01.ReelOnly", spec := "reelOnly", apart := false, narrowed := true }
def ReelOnlyUptoSaid : Prop := reelOnlyUptoRow.holds Try.pinned (OpenSpec.upto reelOnlySpec)

/-- 'callboylaw01.ReelNil', WHERE WHAT IT READS IS OF BULK AT MOST 1048576: true; the input reads as it did. -/
def reelNilUptoRow : OpenClaim := { program := "ytohlphclhjmcaaa", sum := "3810df550e1413c80ca9f5ed3fd2ceda0bce733d78196182f83622b26aa42ba3", func := "callboy/callboylaw01.ReelNil", spec := "reelNil", apart := false, narrowed := true }
def ReelNilUptoSaid : Prop := reelNilUptoRow.holds Try.pinned (OpenSpec.upto reelNilSpec)

end Rows
end Go.Proofs.Ytohlphclhjmcaaa
