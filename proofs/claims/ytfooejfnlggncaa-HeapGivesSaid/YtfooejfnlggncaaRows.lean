/-
  No cell of these rows narrows 'for every input' (looked for: loops, veiled, ifaces, maps, wideKeys, modest, calm, conditions, laid).
  DERIVED. THE GIVEN ROWS OF THIS SEAT. 7 by the template 'for every input the law returns true; each argument reads behind the call as it read before'; 0 by the template 'total and deterministic' (their statements: YtfooejfnlggncaaTotals.lean).
  GIVEN WITH THE SEED: the statements are not yours to turn. If you find one false, say at which input.
  Laid BY PROGRAM, IN A SANDBOX (cutbox-rows.mjs): the forced cells as the released guide's own fill.sh prints them over the translation bd99e9fd41ba432e… (all of the seat's roots in one cut). By AI agents, Wed Nov 11 2026. No macro, syntax, notation, axiom, sorry.
-/
import Derived.Test.YtfooejfnlggncaaChecked
import GoSem.Claim
import GoSem.ClaimJoined
import GoSem.ClaimMapViews
import Derived.JoinedTies
import Derived.KernelRfl
namespace Go.Proofs.Ytfooejfnlggncaa
/- THE CELL 'sum', in the pinned program and in every row, IS THE sha256 OF THE DUMP (.gsa) THAT YtfooejfnlggncaaProg.lean LOADS. Nothing in Lean hashes anything: it is a label: what it is worth is what the hold of that sum in a sandbox is worth. -/
noncomputable def Try.pinned : Pinned := { name := "ytfooejfnlggncaa", sum := "bd99e9fd41ba432e5297e1e5c307f09398b65646242ae72b022832a77886f1cb", checked := Try.checked }
namespace Rows
def none {H : Type} : Left H := { results := [], args := [] }

/-- 'callboylaw08.HeapOrder': WHATEVER THE INPUT: true; the input reads as it did. -/
def heapOrderSpec : ChangeSpec := { name := "heapOrder", fn := fun _ => fun
  | [d1, d2] => { results := [.lit (.bool true)], args := [d1, d2] }
  | _ => none }
def heapOrderRow : OpenClaim := { program := "ytfooejfnlggncaa", sum := "bd99e9fd41ba432e5297e1e5c307f09398b65646242ae72b022832a77886f1cb", func := "callboy/callboylaw08.HeapOrder", spec := "heapOrder", apart := false }
def HeapOrderSaid : Prop := heapOrderRow.holds Try.pinned (OpenSpec.ofChange heapOrderSpec)

/-- ITS FALSE NEIGHBOUR: 'it returns false'. Refute it at one input. -/
def heapOrderWrong : ChangeSpec := { name := "heapOrder", fn := fun _ => fun
  | [d1, d2] => { results := [.lit (.bool false)], args := [d1, d2] }
  | _ => none }
def HeapOrderWrongFalsely : Prop := heapOrderRow.holds Try.pinned (OpenSpec.ofChange heapOrderWrong)

/-- 'callboylaw08.HeapDue': WHATEVER THE INPUT: true; the input reads as it did. -/
def heapDueSpec : ChangeSpec := { name := "heapDue", fn := fun _ => fun
  | [d1, d2] => { results := [.lit (.bool true)], args := [d1, d2] }
  | _ => none }
def heapDueRow : OpenClaim := { program := "ytfooejfnlggncaa", sum := "bd99e9fd41ba432e5297e1e5c307f09398b65646242ae72b022832a77886f1cb", func := "callboy/callboylaw08.HeapDue", spec := "heapDue", apart := false }
def HeapDueSaid : Prop := heapDueRow.holds Try.pinned (OpenSpec.ofChange heapDueSpec)

/-- ITS FALSE NEIGHBOUR: 'it returns false'. Refute it at one input. -/
def heapDueWrong : ChangeSpec := { name := "heapDue", fn := fun _ => fun
  | [d1, d2] => { results := [.lit (.bool false)], args := [d1, d2] }
  | _ => none }
def HeapDueWrongFalsely : Prop := heapDueRow.holds Try.pinned (OpenSpec.ofChange heapDueWrong)

/-- 'callboylaw08.HeapKinds': WHATEVER THE INPUT: true; the input reads as it did. -/
def heapKindsSpec : ChangeSpec := { name := "heapKinds", fn := fun _ => fun
  | [d] => { results := [.lit (.bool true)], args := [d] }
  | _ => none }
def heapKindsRow : OpenClaim := { program := "ytfooejfnlggncaa", sum := "bd99e9fd41ba432e5297e1e5c307f09398b65646242ae72b022832a77886f1cb", func := "callboy/callboylaw08.HeapKinds", spec := "heapKinds", apart := false }
def HeapKindsSaid : Prop := heapKindsRow.holds Try.pinned (OpenSpec.ofChange heapKindsSpec)

/-- ITS FALSE NEIGHBOUR: 'it returns false'. Refute it at one input. -/
def heapKindsWrong : ChangeSpec := { name := "heapKinds", fn := fun _ => fun
  | [d] => { results := [.lit (.bool false)], args := [d] }
  | _ => none }
def HeapKindsWrongFalsely : Prop := heapKindsRow.holds Try.pinned (OpenSpec.ofChange heapKindsWrong)

/-- 'callboylaw08.HeapTickets': WHATEVER THE INPUT: true; the input reads as it did. -/
def heapTicketsSpec : ChangeSpec := { name := "heapTickets", fn := fun _ => fun
  | [d] => { results := [.lit (.bool true)], args := [d] }
  | _ => none }
def heapTicketsRow : OpenClaim := { program := "ytfooejfnlggncaa", sum := "bd99e9fd41ba432e5297e1e5c307f09398b65646242ae72b022832a77886f1cb", func := "callboy/callboylaw08.HeapTickets", spec := "heapTickets", apart := false }
def HeapTicketsSaid : Prop := heapTicketsRow.holds Try.pinned (OpenSpec.ofChange heapTicketsSpec)

/-- ITS FALSE NEIGHBOUR: 'it returns false'. Refute it at one input. -/
def heapTicketsWrong : ChangeSpec := { name := "heapTickets", fn := fun _ => fun
  | [d] => { results := [.lit (.bool false)], args := [d] }
  | _ => none }
def HeapTicketsWrongFalsely : Prop := heapTicketsRow.holds Try.pinned (OpenSpec.ofChange heapTicketsWrong)

/-- 'callboylaw08.HeapPlays': WHATEVER THE INPUT: true; the input reads as it did. -/
def heapPlaysSpec : ChangeSpec := { name := "heapPlays", fn := fun _ => fun
  | [d] => { results := [.lit (.bool true)], args := [d] }
  | _ => none }
def heapPlaysRow : OpenClaim := { program := "ytfooejfnlggncaa", sum := "bd99e9fd41ba432e5297e1e5c307f09398b65646242ae72b022832a77886f1cb", func := "callboy/callboylaw08.HeapPlays", spec := "heapPlays", unfollowed := true, recurses := true, apart := false }
def HeapPlaysSaid : Prop := heapPlaysRow.holds Try.pinned (OpenSpec.ofChange heapPlaysSpec)

/-- ITS FALSE NEIGHBOUR: 'it returns false'. Refute it at one input. -/
def heapPlaysWrong : ChangeSpec := { name := "heapPlays", fn := fun _ => fun
  | [d] => { results := [.lit (.bool false)], args := [d] }
  | _ => none }
def HeapPlaysWrongFalsely : Prop := heapPlaysRow.holds Try.pinned (OpenSpec.ofChange heapPlaysWrong)

/-- 'callboylaw08.HeapGives': WHATEVER THE INPUT: true; the input reads as it did. -/
def heapGivesSpec : ChangeSpec := { name := "heapGives", fn := fun _ => fun
  | [d1, d2] => { results := [.lit (.bool true)], args := [d1, d2] }
  | _ => none }
def heapGivesRow : OpenClaim := { program := "ytfooejfnlggncaa", sum := "bd99e9fd41ba432e5297e1e5c307f09398b65646242ae72b022832a77886f1cb", func := "callboy/callboylaw08.HeapGives", spec := "heapGives", unfollowed := true, recurses := true, apart := false }
def HeapGivesSaid : Prop := heapGivesRow.holds Try.pinned (OpenSpec.ofChange heapGivesSpec)

/-- ITS FALSE NEIGHBOUR: 'it returns false'. Refute it at one input. -/
def heapGivesWrong : ChangeSpec := { name := "heapGives", fn := fun _ => fun
  | [d1, d2] => { results := [.lit (.bool false)], args := [d1, d2] }
  | _ => none }
def HeapGivesWrongFalsely : Prop := heapGivesRow.holds Try.pinned (OpenSpec.ofChange heapGivesWrong)

/-- 'callboylaw08.HeapNil': WHATEVER THE INPUT: true; the input reads as it did. -/
def heapNilSpec : ChangeSpec := { name := "heapNil", fn := fun _ => fun
  | [d] => { results := [.lit (.bool true)], args := [d] }
  | _ => none }
def heapNilRow : OpenClaim := { program := "ytfooejfnlggncaa", sum := "bd99e9fd41ba432e5297e1e5c307f09398b65646242ae72b022832a77886f1cb", func := "callboy/callboylaw08.HeapNil", spec := "heapNil", unfollowed := true, recurses := true, apart := false }
def HeapNilSaid : Prop := heapNilRow.holds Try.pinned (OpenSpec.ofChange heapNilSpec)

/-- ITS FALSE NEIGHBOUR: 'it returns false'. Refute it at one input. -/
def heapNilWrong : ChangeSpec := { name := "heapNil", fn := fun _ => fun
  | [d] => { results := [.lit (.bool false)], args := [d] }
  | _ => none }
def HeapNilWrongFalsely : Prop := heapNilRow.holds Try.pinned (OpenSpec.ofChange heapNilWrong)

/- THE SECOND FORM. 'bulk': how many values and letters a reading holds, each counted each time it is reached (what is shared counts as often as it is met; a slice's spare places count too). A statement '..UptoSaid' is the law's where the arguments, and the package variables that the reading takes, are together of bulk at most 1048576: NARROWER than '..Said'. Prove '..Said' where nothing that the law and all that it calls make is longer than what came in: it says more and counts as full. Else prove '..UptoSaid'. A law counts once. -/
mutual
def uptoBulk {H : Type} : DataW H → Nat
  | .lit (.string bytes) => bytes.length + 1
  | .lit _ => 1
  | .nil => 1
  | .ptr d => uptoBulk d + 1
  | .slice elems spare => uptoBulkAll elems + uptoBulkAll spare + 1
  | .agg parts => uptoBulkAll parts + 1
  | .iface _ d => uptoBulk d + 1
  | .map entries => uptoBulkEntries entries + 1
  | .held _ => 1
def uptoBulkAll {H : Type} : List (DataW H) → Nat
  | [] => 0
  | d :: r => uptoBulk d + uptoBulkAll r
def uptoBulkEntries {H : Type} : List (Lit × DataW H) → Nat
  | [] => 0
  | x :: r => uptoBulkEntry x + uptoBulkEntries r
def uptoBulkEntry {H : Type} : Lit × DataW H → Nat
  | (.string bytes, d) => bytes.length + uptoBulk d + 1
  | (_, d) => uptoBulk d + 1
 end
def uptoSmall : (H : Type) → List (DataW H) → Bool := fun _ ds => decide (uptoBulkAll ds ≤ 1048576)
def OpenSpec.upto (s : _root_.Go.ChangeSpec) : _root_.Go.OpenSpec := { _root_.Go.OpenSpec.ofChange s with cond := some uptoSmall }

/-- 'callboylaw08.HeapOrder', WHERE WHAT IT READS IS OF BULK AT MOST 1048576: true; the input reads as it did. -/
def heapOrderUptoRow : OpenClaim := { program := "ytfooejfnlggncaa", sum := "bd99e9fd41ba432e5297e1e5c307f09398b65646242ae72b022832a77886f1cb", func := "callboy/callboylaw08.HeapOrder", spec := "heapOrder", apart := false, narrowed := true }
def HeapOrderUptoSaid : Prop := heapOrderUptoRow.holds Try.pinned (OpenSpec.upto heapOrderSpec)

/-- 'callboylaw08.HeapDue', WHERE WHAT IT READS IS OF BULK AT MOST 1048576: true; the input reads as it did. -/
def heapDueUptoRow : OpenClaim := { program := "ytfooejfnlggncaa", sum := "bd99e9fd41ba432e5297e1e5c307f09398b65646242ae72b022832a77886f1cb", func := "callboy/callboylaw08.HeapDue", spec := "heapDue", apart := false, narrowed := true }
def HeapDueUptoSaid : Prop := heapDueUptoRow.holds Try.pinned (OpenSpec.upto heapDueSpec)

/-- 'callboylaw08.HeapKinds', WHERE WHAT IT READS IS OF BULK AT MOST 1048576: true; the input reads as it did. -/
def heapKindsUptoRow : OpenClaim := { program := "ytfooejfnlggncaa", sum := "bd99e9fd41ba432e5297e1e5c307f09398b65646242ae72b022832a77886f1cb", func := "callboy/callboylaw08.HeapKinds", spec := "heapKinds", apart := false, narrowed := true }
def HeapKindsUptoSaid : Prop := heapKindsUptoRow.holds Try.pinned (OpenSpec.upto heapKindsSpec)

/-- 'callboylaw08.HeapTickets', WHERE WHAT IT READS IS OF BULK AT MOST 1048576: true; the input reads as it did. -/
def heapTicketsUptoRow : OpenClaim := { program := "ytfooejfnlggncaa", sum := "bd99e9fd41ba432e5297e1e5c307f09398b65646242ae72b022832a77886f1cb", func := "callboy/callboylaw08.HeapTickets", spec := "heapTickets", apart := false, narrowed := true }
def HeapTicketsUptoSaid : Prop := heapTicketsUptoRow.holds Try.pinned (OpenSpec.upto heapTicketsSpec)

/-- 'callboylaw08.HeapPlays', WHERE WHAT IT READS IS OF BULK AT MOST 1048576: true; the input reads as it did. -/
def heapPlaysUptoRow : OpenClaim := { program := "ytfooejfnlggncaa", sum := "bd99e9fd41ba432e5297e1e5c307f09398b65646242ae72b022832a77886f1cb", func := "callboy/callboylaw08.HeapPlays", spec := "heapPlays", unfollowed := true, recurses := true, apart := false, narrowed := true }
def HeapPlaysUptoSaid : Prop := heapPlaysUptoRow.holds Try.pinned (OpenSpec.upto heapPlaysSpec)

/-- 'callboylaw08.HeapGives', WHERE WHAT IT READS IS OF BULK AT MOST 1048576: true; the input reads as it did. -/
def heapGivesUptoRow : OpenClaim := { program := "ytfooejfnlggncaa", sum := "bd99e9fd41ba432e5297e1e5c307f09398b65646242ae72b022832a77886f1cb", func := "callboy/callboylaw08.HeapGives", spec := "heapGives", unfollowed := true, recurses := true, apart := false, narrowed := true }
def HeapGivesUptoSaid : Prop := heapGivesUptoRow.holds Try.pinned (OpenSpec.upto heapGivesSpec)

/-- 'callboylaw08.HeapNil', WHERE WHAT IT READS IS OF BULK AT MOST 1048576: true; the input reads as it did. -/
def heapNilUptoRow : OpenClaim := { program := "ytfooejfnlggncaa", sum := "bd99e9fd41ba432e5297e1e5c307f09398b65646242ae72b022832a77886f1cb", func := "callboy/callboylaw08.HeapNil", spec := "heapNil", unfollowed := true, recurses := true, apart := false, narrowed := true }
def HeapNilUptoSaid : Prop := heapNilUptoRow.holds Try.pinned (OpenSpec.upto heapNilSpec)

end Rows
end Go.Proofs.Ytfooejfnlggncaa
