/-
  No cell of these rows narrows 'for every input' (looked for: loops, veiled, ifaces, maps, wideKeys, modest, calm, conditions, laid).
  DERIVED. THE GIVEN ROWS OF THIS SEAT. 6 by the template 'for every input the law returns true; each argument reads behind the call as it read before'; 0 by the template 'total and deterministic' (their statements: YtihpcaklknbjiaaTotals.lean).
  GIVEN WITH THE SEED: the statements are not yours to turn. If you find one false, say at which input.
  Laid BY PROGRAM, IN A SANDBOX (cutbox-rows.mjs): the forced cells as the released guide's own fill.sh prints them over the translation c5559ce9d14c7230… (all of the seat's roots in one cut). By AI agents, Wed Nov 11 2026. No macro, syntax, notation, axiom, sorry.
-/
import Derived.Test.YtihpcaklknbjiaaChecked
import GoSem.Claim
import GoSem.ClaimJoined
import GoSem.ClaimMapViews
import Derived.JoinedTies
import Derived.KernelRfl
namespace Go.Proofs.Ytihpcaklknbjiaa
/- THE CELL 'sum', in the pinned program and in every row, IS THE sha256 OF THE DUMP (.gsa) THAT YtihpcaklknbjiaaProg.lean LOADS. Nothing in Lean hashes anything: it is a label: what it is worth is what the hold of that sum in a sandbox is worth. -/
noncomputable def Try.pinned : Pinned := { name := "ytihpcaklknbjiaa", sum := "c5559ce9d14c7230e3b7da8872786eaa78ad28bb44b5aafb5e7664db68c0426d", checked := Try.checked }
namespace Rows
def none {H : Type} : Left H := { results := [], args := [] }

/-- 'callboylaw14.LinksPlay': WHATEVER THE INPUT: true; the input reads as it did. -/
def linksPlaySpec : ChangeSpec := { name := "linksPlay", fn := fun _ => fun
  | [d1, d2, d3] => { results := [.lit (.bool true)], args := [d1, d2, d3] }
  | _ => none }
def linksPlayRow : OpenClaim := { program := "ytihpcaklknbjiaa", sum := "c5559ce9d14c7230e3b7da8872786eaa78ad28bb44b5aafb5e7664db68c0426d", func := "callboy/callboylaw14.LinksPlay", spec := "linksPlay", unfollowed := true, recurses := true, apart := false }
def LinksPlaySaid : Prop := linksPlayRow.holds Try.pinned (OpenSpec.ofChange linksPlaySpec)

/-- ITS FALSE NEIGHBOUR: 'it returns false'. Refute it at one input. -/
def linksPlayWrong : ChangeSpec := { name := "linksPlay", fn := fun _ => fun
  | [d1, d2, d3] => { results := [.lit (.bool false)], args := [d1, d2, d3] }
  | _ => none }
def LinksPlayWrongFalsely : Prop := linksPlayRow.holds Try.pinned (OpenSpec.ofChange linksPlayWrong)

/-- 'callboylaw14.LinksBoth': WHATEVER THE INPUT: true; the input reads as it did. -/
def linksBothSpec : ChangeSpec := { name := "linksBoth", fn := fun _ => fun
  | [d] => { results := [.lit (.bool true)], args := [d] }
  | _ => none }
def linksBothRow : OpenClaim := { program := "ytihpcaklknbjiaa", sum := "c5559ce9d14c7230e3b7da8872786eaa78ad28bb44b5aafb5e7664db68c0426d", func := "callboy/callboylaw14.LinksBoth", spec := "linksBoth", unfollowed := true, recurses := true, apart := false }
def LinksBothSaid : Prop := linksBothRow.holds Try.pinned (OpenSpec.ofChange linksBothSpec)

/-- ITS FALSE NEIGHBOUR: 'it returns false'. Refute it at one input. -/
def linksBothWrong : ChangeSpec := { name := "linksBoth", fn := fun _ => fun
  | [d] => { results := [.lit (.bool false)], args := [d] }
  | _ => none }
def LinksBothWrongFalsely : Prop := linksBothRow.holds Try.pinned (OpenSpec.ofChange linksBothWrong)

/-- 'callboylaw14.LinksCut': WHATEVER THE INPUT: true; the input reads as it did. -/
def linksCutSpec : ChangeSpec := { name := "linksCut", fn := fun _ => fun
  | [d1, d2] => { results := [.lit (.bool true)], args := [d1, d2] }
  | _ => none }
def linksCutRow : OpenClaim := { program := "ytihpcaklknbjiaa", sum := "c5559ce9d14c7230e3b7da8872786eaa78ad28bb44b5aafb5e7664db68c0426d", func := "callboy/callboylaw14.LinksCut", spec := "linksCut", unfollowed := true, recurses := true, apart := false }
def LinksCutSaid : Prop := linksCutRow.holds Try.pinned (OpenSpec.ofChange linksCutSpec)

/-- ITS FALSE NEIGHBOUR: 'it returns false'. Refute it at one input. -/
def linksCutWrong : ChangeSpec := { name := "linksCut", fn := fun _ => fun
  | [d1, d2] => { results := [.lit (.bool false)], args := [d1, d2] }
  | _ => none }
def LinksCutWrongFalsely : Prop := linksCutRow.holds Try.pinned (OpenSpec.ofChange linksCutWrong)

/-- 'callboylaw14.LinksFull': WHATEVER THE INPUT: true; the input reads as it did. -/
def linksFullSpec : ChangeSpec := { name := "linksFull", fn := fun _ => fun
  | [d1, d2] => { results := [.lit (.bool true)], args := [d1, d2] }
  | _ => none }
def linksFullRow : OpenClaim := { program := "ytihpcaklknbjiaa", sum := "c5559ce9d14c7230e3b7da8872786eaa78ad28bb44b5aafb5e7664db68c0426d", func := "callboy/callboylaw14.LinksFull", spec := "linksFull", unfollowed := true, recurses := true, apart := false }
def LinksFullSaid : Prop := linksFullRow.holds Try.pinned (OpenSpec.ofChange linksFullSpec)

/-- ITS FALSE NEIGHBOUR: 'it returns false'. Refute it at one input. -/
def linksFullWrong : ChangeSpec := { name := "linksFull", fn := fun _ => fun
  | [d1, d2] => { results := [.lit (.bool false)], args := [d1, d2] }
  | _ => none }
def LinksFullWrongFalsely : Prop := linksFullRow.holds Try.pinned (OpenSpec.ofChange linksFullWrong)

/-- 'callboylaw14.LinksNil': WHATEVER THE INPUT: true; the input reads as it did. -/
def linksNilSpec : ChangeSpec := { name := "linksNil", fn := fun _ => fun
  | [d1, d2] => { results := [.lit (.bool true)], args := [d1, d2] }
  | _ => none }
def linksNilRow : OpenClaim := { program := "ytihpcaklknbjiaa", sum := "c5559ce9d14c7230e3b7da8872786eaa78ad28bb44b5aafb5e7664db68c0426d", func := "callboy/callboylaw14.LinksNil", spec := "linksNil", unfollowed := true, recurses := true, apart := false }
def LinksNilSaid : Prop := linksNilRow.holds Try.pinned (OpenSpec.ofChange linksNilSpec)

/-- ITS FALSE NEIGHBOUR: 'it returns false'. Refute it at one input. -/
def linksNilWrong : ChangeSpec := { name := "linksNil", fn := fun _ => fun
  | [d1, d2] => { results := [.lit (.bool false)], args := [d1, d2] }
  | _ => none }
def LinksNilWrongFalsely : Prop := linksNilRow.holds Try.pinned (OpenSpec.ofChange linksNilWrong)

/-- 'callboylaw14.LinksOrder': WHATEVER THE INPUT: true; the input reads as it did. -/
def linksOrderSpec : ChangeSpec := { name := "linksOrder", fn := fun _ => fun
  | [d1, d2] => { results := [.lit (.bool true)], args := [d1, d2] }
  | _ => none }
def linksOrderRow : OpenClaim := { program := "ytihpcaklknbjiaa", sum := "c5559ce9d14c7230e3b7da8872786eaa78ad28bb44b5aafb5e7664db68c0426d", func := "callboy/callboylaw14.LinksOrder", spec := "linksOrder", unfollowed := true, recurses := true, apart := false }
def LinksOrderSaid : Prop := linksOrderRow.holds Try.pinned (OpenSpec.ofChange linksOrderSpec)

/-- ITS FALSE NEIGHBOUR: 'it returns false'. Refute it at one input. -/
def linksOrderWrong : ChangeSpec := { name := "linksOrder", fn := fun _ => fun
  | [d1, d2] => { results := [.lit (.bool false)], args := [d1, d2] }
  | _ => none }
def LinksOrderWrongFalsely : Prop := linksOrderRow.holds Try.pinned (OpenSpec.ofChange linksOrderWrong)

/- THE SECOND FORM. 'bulk': how many values and letters a reading holds, each counted each time it is reached (what is shared counts as often as it is met; a slice's spare places count too). A statement '..UptoSaid' is the law's where the arguments, and the package variables that the reading takes, are together of bulk at most 1048576: NARROWER than '..Said'. Prove '..Said' where nothing that the law and all that it calls make is longer than what came in: it says more and counts as full. Else prove '..UptoSaid'. A law counts once. -/
mutual
def uptoBulk {H : Type} : DataW H → Nat
  | .lit (.string bytes) => bytes.length + 1
  | .lit _ => 1
  | .nil => 1
  | .ptr d => uptoBulk d + 1
  | .slice elems spare => uptoBulkAll elems + uptoBulkAll spare + 1
  | .agg parts => uptoBulkAll parts + 1
  | .iface _ d => uptoBulk d + 1
  | .map entries => uptoBulkEntries entries + 1
  | .held _ => 1
def uptoBulkAll {H : Type} : List (DataW H) → Nat
  | [] => 0
  | d :: r => uptoBulk d + uptoBulkAll r
def uptoBulkEntries {H : Type} : List (Lit × DataW H) → Nat
  | [] => 0
  | x :: r => uptoBulkEntry x + uptoBulkEntries r
def uptoBulkEntry {H : Type} : Lit × DataW H → Nat
  | (.string bytes, d) => bytes.length + uptoBulk d + 1
  | (_, d) => uptoBulk d + 1
 end
def uptoSmall : (H : Type) → List (DataW H) → Bool := fun _ ds => decide (uptoBulkAll ds ≤ 1048576)
def OpenSpec.upto (s : _root_.Go.ChangeSpec) : _root_.Go.OpenSpec := { _root_.Go.OpenSpec.ofChange s with cond := some uptoSmall }

/-- 'callboylaw14.LinksPlay', WHERE WHAT IT READS IS OF BULK AT MOST 1048576: true; the input reads as it did. -/
def linksPlayUptoRow : OpenClaim := { program := "ytihpcaklknbjiaa", sum := "c5559ce9d14c7230e3b7da8872786eaa78ad28bb44b5aafb5e7664db68c0426d", func := "callboy/callboylaw14.LinksPlay", spec := "linksPlay", unfollowed := true, recurses := true, apart := false, narrowed := true }
def LinksPlayUptoSaid : Prop := linksPlayUptoRow.holds Try.pinned (OpenSpec.upto linksPlaySpec)

/-- 'callboylaw14.LinksBoth', WHERE WHAT IT READS IS OF BULK AT MOST 1048576: true; the input reads as it did. -/
def linksBothUptoRow : OpenClaim := { program := "ytihpcaklknbjiaa", sum := "c5559ce9d14c7230e3b7da8872786eaa78ad28bb44b5aafb5e7664db68c0426d", func := "callboy/callboylaw14.LinksBoth", spec := "linksBoth", unfollowed := true, recurses := true, apart := false, narrowed := true }
def LinksBothUptoSaid : Prop := linksBothUptoRow.holds Try.pinned (OpenSpec.upto linksBothSpec)

/-- 'callboylaw14.LinksCut', WHERE WHAT IT READS IS OF BULK AT MOST 1048576: true; the input reads as it did. -/
def linksCutUptoRow : OpenClaim := { program := "ytihpcaklknbjiaa", sum := "c5559ce9d14c7230e3b7da8872786eaa78ad28bb44b5aafb5e7664db68c0426d", func := "callboy/callboylaw14.LinksCut", spec := "linksCut", unfollowed := true, recurses := true, apart := false, narrowed := true }
def LinksCutUptoSaid : Prop := linksCutUptoRow.holds Try.pinned (OpenSpec.upto linksCutSpec)

/-- 'callboylaw14.LinksFull', WHERE WHAT IT READS IS OF BULK AT MOST 1048576: true; the input reads as it did. -/
def linksFullUptoRow : OpenClaim := { program := "ytihpcaklknbjiaa", sum := "c5559ce9d14c7230e3b7da8872786eaa78ad28bb44b5aafb5e7664db68c0426d", func := "callboy/callboylaw14.LinksFull", spec := "linksFull", unfollowed := true, recurses := true, apart := false, narrowed := true }
def LinksFullUptoSaid : Prop := linksFullUptoRow.holds Try.pinned (OpenSpec.upto linksFullSpec)

/-- 'callboylaw14.LinksNil', WHERE WHAT IT READS IS OF BULK AT MOST 1048576: true; the input reads as it did. -/
def linksNilUptoRow : OpenClaim := { program := "ytihpcaklknbjiaa", sum := "c5559ce9d14c7230e3b7da8872786eaa78ad28bb44b5aafb5e7664db68c0426d", func := "callboy/callboylaw14.LinksNil", spec := "linksNil", unfollowed := true, recurses := true, apart := false, narrowed := true }
def LinksNilUptoSaid : Prop := linksNilUptoRow.holds Try.pinned (OpenSpec.upto linksNilSpec)

/-- 'callboylaw14.LinksOrder', WHERE WHAT IT READS IS OF BULK AT MOST 1048576: true; the input reads as it did. -/
def linksOrderUptoRow : OpenClaim := { program := "ytihpcaklknbjiaa", sum := "c5559ce9d14c7230e3b7da8872786eaa78ad28bb44b5aafb5e7664db68c0426d", func := "callboy/callboylaw14.LinksOrder", spec := "linksOrder", unfollowed := true, recurses := true, apart := false, narrowed := true }
def LinksOrderUptoSaid : Prop := linksOrderUptoRow.holds Try.pinned (OpenSpec.upto linksOrderSpec)

end Rows
end Go.Proofs.Ytihpcaklknbjiaa
