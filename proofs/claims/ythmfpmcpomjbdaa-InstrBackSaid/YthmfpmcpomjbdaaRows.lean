/-
  No cell of these rows narrows 'for every input' (looked for: loops, veiled, ifaces, maps, wideKeys, modest, calm, conditions, laid).
  DERIVED. THE GIVEN ROWS OF THIS SEAT. 6 by the template 'for every input the law returns true; each argument reads behind the call as it read before'; 0 by the template 'total and deterministic' (their statements: YthmfpmcpomjbdaaTotals.lean).
  GIVEN WITH THE SEED: the statements are not yours to turn. If you find one false, say at which input.
  Laid BY PROGRAM, IN A SANDBOX (cutbox-rows.mjs): the forced cells as the released guide's own fill.sh prints them over the translation cd57b04a94c1bfe2… (all of the seat's roots in one cut). By AI agents, Wed Nov 11 2026. No macro, syntax, notation, axiom, sorry.
-/
import Derived.Test.YthmfpmcpomjbdaaChecked
import GoSem.Claim
import GoSem.ClaimJoined
import GoSem.ClaimMapViews
import Derived.JoinedTies
import Derived.KernelRfl
namespace Go.Proofs.Ythmfpmcpomjbdaa
/- THE CELL 'sum', in the pinned program and in every row, IS THE sha256 OF THE DUMP (.gsa) THAT YthmfpmcpomjbdaaProg.lean LOADS. Nothing in Lean hashes anything: it is a label: what it is worth is what the hold of that sum in a sandbox is worth. -/
noncomputable def Try.pinned : Pinned := { name := "ythmfpmcpomjbdaa", sum := "cd57b04a94c1bfe25b0412434afeebe9a77e3444f7d09889ad052e89c0bbeb12", checked := Try.checked }
namespace Rows
def none {H : Type} : Left H := { results := [], args := [] }

/-- 'callboylaw04.InstrBytes': WHATEVER THE INPUT: true; the input reads as it did. -/
def instrBytesSpec : ChangeSpec := { name := "instrBytes", fn := fun _ => fun
  | [d] => { results := [.lit (.bool true)], args := [d] }
  | _ => none }
def instrBytesRow : OpenClaim := { program := "ythmfpmcpomjbdaa", sum := "cd57b04a94c1bfe25b0412434afeebe9a77e3444f7d09889ad052e89c0bbeb12", func := "callboy/callboylaw04.InstrBytes", spec := "instrBytes", apart := false }
def InstrBytesSaid : Prop := instrBytesRow.holds Try.pinned (OpenSpec.ofChange instrBytesSpec)

/-- ITS FALSE NEIGHBOUR: 'it returns false'. Refute it at one input. -/
def instrBytesWrong : ChangeSpec := { name := "instrBytes", fn := fun _ => fun
  | [d] => { results := [.lit (.bool false)], args := [d] }
  | _ => none }
def InstrBytesWrongFalsely : Prop := instrBytesRow.holds Try.pinned (OpenSpec.ofChange instrBytesWrong)

/-- 'callboylaw04.InstrReads': WHATEVER THE INPUT: true; the input reads as it did. -/
def instrReadsSpec : ChangeSpec := { name := "instrReads", fn := fun _ => fun
  | [d] => { results := [.lit (.bool true)], args := [d] }
  | _ => none }
def instrReadsRow : OpenClaim := { program := "ythmfpmcpomjbdaa", sum := "cd57b04a94c1bfe25b0412434afeebe9a77e3444f7d09889ad052e89c0bbeb12", func := "callboy/callboylaw04.InstrReads", spec := "instrReads", apart := false }
def InstrReadsSaid : Prop := instrReadsRow.holds Try.pinned (OpenSpec.ofChange instrReadsSpec)

/-- ITS FALSE NEIGHBOUR: 'it returns false'. Refute it at one input. -/
def instrReadsWrong : ChangeSpec := { name := "instrReads", fn := fun _ => fun
  | [d] => { results := [.lit (.bool false)], args := [d] }
  | _ => none }
def InstrReadsWrongFalsely : Prop := instrReadsRow.holds Try.pinned (OpenSpec.ofChange instrReadsWrong)

/-- 'callboylaw04.InstrBack': WHATEVER THE INPUT: true; the input reads as it did. -/
def instrBackSpec : ChangeSpec := { name := "instrBack", fn := fun _ => fun
  | [d1, d2, d3] => { results := [.lit (.bool true)], args := [d1, d2, d3] }
  | _ => none }
def instrBackRow : OpenClaim := { program := "ythmfpmcpomjbdaa", sum := "cd57b04a94c1bfe25b0412434afeebe9a77e3444f7d09889ad052e89c0bbeb12", func := "callboy/callboylaw04.InstrBack", spec := "instrBack", apart := false }
def InstrBackSaid : Prop := instrBackRow.holds Try.pinned (OpenSpec.ofChange instrBackSpec)

/-- ITS FALSE NEIGHBOUR: 'it returns false'. Refute it at one input. -/
def instrBackWrong : ChangeSpec := { name := "instrBack", fn := fun _ => fun
  | [d1, d2, d3] => { results := [.lit (.bool false)], args := [d1, d2, d3] }
  | _ => none }
def InstrBackWrongFalsely : Prop := instrBackRow.holds Try.pinned (OpenSpec.ofChange instrBackWrong)

/-- 'callboylaw04.InstrSize': WHATEVER THE INPUT: true; the input reads as it did. -/
def instrSizeSpec : ChangeSpec := { name := "instrSize", fn := fun _ => fun
  | [d] => { results := [.lit (.bool true)], args := [d] }
  | _ => none }
def instrSizeRow : OpenClaim := { program := "ythmfpmcpomjbdaa", sum := "cd57b04a94c1bfe25b0412434afeebe9a77e3444f7d09889ad052e89c0bbeb12", func := "callboy/callboylaw04.InstrSize", spec := "instrSize", apart := false }
def InstrSizeSaid : Prop := instrSizeRow.holds Try.pinned (OpenSpec.ofChange instrSizeSpec)

/-- ITS FALSE NEIGHBOUR: 'it returns false'. Refute it at one input. -/
def instrSizeWrong : ChangeSpec := { name := "instrSize", fn := fun _ => fun
  | [d] => { results := [.lit (.bool false)], args := [d] }
  | _ => none }
def InstrSizeWrongFalsely : Prop := instrSizeRow.holds Try.pinned (OpenSpec.ofChange instrSizeWrong)

/-- 'callboylaw04.InstrRight': WHATEVER THE INPUT: true; the input reads as it did. -/
def instrRightSpec : ChangeSpec := { name := "instrRight", fn := fun _ => fun
  | [d1, d2, d3] => { results := [.lit (.bool true)], args := [d1, d2, d3] }
  | _ => none }
def instrRightRow : OpenClaim := { program := "ythmfpmcpomjbdaa", sum := "cd57b04a94c1bfe25b0412434afeebe9a77e3444f7d09889ad052e89c0bbeb12", func := "callboy/callboylaw04.InstrRight", spec := "instrRight", apart := false }
def InstrRightSaid : Prop := instrRightRow.holds Try.pinned (OpenSpec.ofChange instrRightSpec)

/-- ITS FALSE NEIGHBOUR: 'it returns false'. Refute it at one input. -/
def instrRightWrong : ChangeSpec := { name := "instrRight", fn := fun _ => fun
  | [d1, d2, d3] => { results := [.lit (.bool false)], args := [d1, d2, d3] }
  | _ => none }
def InstrRightWrongFalsely : Prop := instrRightRow.holds Try.pinned (OpenSpec.ofChange instrRightWrong)

/-- 'callboylaw04.InstrNames': WHATEVER THE INPUT: true; the input reads as it did. -/
def instrNamesSpec : ChangeSpec := { name := "instrNames", fn := fun _ => fun
  | [d1, d2, d3] => { results := [.lit (.bool true)], args := [d1, d2, d3] }
  | _ => none }
def instrNamesRow : OpenClaim := { program := "ythmfpmcpomjbdaa", sum := "cd57b04a94c1bfe25b0412434afeebe9a77e3444f7d09889ad052e89c0bbeb12", func := "callboy/callboylaw04.InstrNames", spec := "instrNames", apart := false }
def InstrNamesSaid : Prop := instrNamesRow.holds Try.pinned (OpenSpec.ofChange instrNamesSpec)

/-- ITS FALSE NEIGHBOUR: 'it returns false'. Refute it at one input. -/
def instrNamesWrong : ChangeSpec := { name := "instrNames", fn := fun _ => fun
  | [d1, d2, d3] => { results := [.lit (.bool false)], args := [d1, d2, d3] }
  | _ => none }
def InstrNamesWrongFalsely : Prop := instrNamesRow.holds Try.pinned (OpenSpec.ofChange instrNamesWrong)

/- THE SECOND FORM. 'bulk': how many values and letters a reading holds, each counted each time it is reached (what is shared counts as often as it is met; a slice's spare places count too). A statement '..UptoSaid' is the law's where the arguments, and the package variables that the reading takes, are together of bulk at most 1048576: NARROWER than '..Said'. Prove '..Said' where nothing that the law and all that it calls make is longer than what came in: it says more and counts as full. Else prove '..UptoSaid'. A law counts once. -/
mutual
def uptoBulk {H : Type} : DataW H → Nat
  | .lit (.string bytes) => bytes.length + 1
  | .lit _ => 1
  | .nil => 1
  | .ptr d => uptoBulk d + 1
  | .slice elems spare => uptoBulkAll elems + uptoBulkAll spare + 1
  | .agg parts => uptoBulkAll parts + 1
  | .iface _ d => uptoBulk d + 1
  | .map entries => uptoBulkEntries entries + 1
  | .held _ => 1
def uptoBulkAll {H : Type} : List (DataW H) → Nat
  | [] => 0
  | d :: r => uptoBulk d + uptoBulkAll r
def uptoBulkEntries {H : Type} : List (Lit × DataW H) → Nat
  | [] => 0
  | x :: r => uptoBulkEntry x + uptoBulkEntries r
def uptoBulkEntry {H : Type} : Lit × DataW H → Nat
  | (.string bytes, d) => bytes.length + uptoBulk d + 1
  | (_, d) => uptoBulk d + 1
 end
def uptoSmall : (H : Type) → List (DataW H) → Bool := fun _ ds => decide (uptoBulkAll ds ≤ 1048576)
def OpenSpec.upto (s : _root_.Go.ChangeSpec) : _root_.Go.OpenSpec := { _root_.Go.OpenSpec.ofChange s with cond := some uptoSmall }

/-- 'callboylaw04.InstrBytes', WHERE WHAT IT READS IS OF BULK AT MOST 1048576: true; the input reads as it did. -/
def instrBytesUptoRow : OpenClaim := { program := "ythmfpmcpomjbdaa", sum := "cd57b04a94c1bfe25b0412434afeebe9a77e3444f7d09889ad052e89c0bbeb12", func := "callboy/callboylaw04.InstrBytes", spec := "instrBytes", apart := false, narrowed := true }
def InstrBytesUptoSaid : Prop := instrBytesUptoRow.holds Try.pinned (OpenSpec.upto instrBytesSpec)

/-- 'callboylaw04.InstrReads', WHERE WHAT IT READS IS OF BULK AT MOST 1048576: true; the input reads as it did. -/
def instrReadsUptoRow : OpenClaim := { program := "ythmfpmcpomjbdaa", sum := "cd57b04a94c1bfe25b0412434afeebe9a77e3444f7d09889ad052e89c0bbeb12", func := "callboy/callboylaw04.InstrReads", spec := "instrReads", apart := false, narrowed := true }
def InstrReadsUptoSaid : Prop := instrReadsUptoRow.holds Try.pinned (OpenSpec.upto instrReadsSpec)

/-- 'callboylaw04.InstrBack', WHERE WHAT IT READS IS OF BULK AT MOST 1048576: true; the input reads as it did. -/
def instrBackUptoRow : OpenClaim := { program := "ythmfpmcpomjbdaa", sum := "cd57b04a94c1bfe25b0412434afeebe9a77e3444f7d09889ad052e89c0bbeb12", func := "callboy/callboylaw04.InstrBack", spec := "instrBack", apart := false, narrowed := true }
def InstrBackUptoSaid : Prop := instrBackUptoRow.holds Try.pinned (OpenSpec.upto instrBackSpec)

/-- 'callboylaw04.InstrSize', WHERE WHAT IT READS IS OF BULK AT MOST 1048576: true; the input reads as it did. -/
def instrSizeUptoRow : OpenClaim := { program := "ythmfpmcpomjbdaa", sum := "cd57b04a94c1bfe25b0412434afeebe9a77e3444f7d09889ad052e89c0bbeb12", func := "callboy/callboylaw04.InstrSize", spec := "instrSize", apart := false, narrowed := true }
def InstrSizeUptoSaid : Prop := instrSizeUptoRow.holds Try.pinned (OpenSpec.upto instrSizeSpec)

/-- 'callboylaw04.InstrRight', WHERE WHAT IT READS IS OF BULK AT MOST 1048576: true; the input reads as it did. -/
def instrRightUptoRow : OpenClaim := { program := "ythmfpmcpomjbdaa", sum := "cd57b04a94c1bfe25b0412434afeebe9a77e3444f7d09889ad052e89c0bbeb12", func := "callboy/callboylaw04.InstrRight", spec := "instrRight", apart := false, narrowed := true }
def InstrRightUptoSaid : Prop := instrRightUptoRow.holds Try.pinned (OpenSpec.upto instrRightSpec)

/-- 'callboylaw04.InstrNames', WHERE WHAT IT READS IS OF BULK AT MOST 1048576: true; the input reads as it did. -/
def instrNamesUptoRow : OpenClaim := { program := "ythmfpmcpomjbdaa", sum := "cd57b04a94c1bfe25b0412434afeebe9a77e3444f7d09889ad052e89c0bbeb12", func := "callboy/callboylaw04.InstrNames", spec := "instrNames", apart := false, narrowed := true }
def InstrNamesUptoSaid : Prop := instrNamesUptoRow.holds Try.pinned (OpenSpec.upto instrNamesSpec)

end Rows
end Go.Proofs.Ythmfpmcpomjbdaa
