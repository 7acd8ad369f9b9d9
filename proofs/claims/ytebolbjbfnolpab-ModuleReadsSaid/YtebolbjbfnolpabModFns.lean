/-
  What a module is and which are right, as plain functions.
-/
import Derived.Test.YtebolbjbfnolpabInstrFns
namespace Go.Proofs.Ytebolbjbfnolpab
namespace Mod
/-- an actor's table: what it takes (tag, where to go on), the place of its timeout -/
abbrev Tab := List (Int × Int) × Int
structure Act where
  params : List Int
  regs : List Int
  msgs : List Int
  code : List (Int × Int)
  tabs : List Tab
/-- is a type right, among n actors? -/
def ty (t n : Int) : Bool := decide (t = 1) || decide (t = 2) || (decide (16 ≤ t) && decide (t < 16 + min (max n 0) 8))
def tys (l : List Int) (n : Int) : Bool := l.all fun t => ty t n
def place (n e : Int) : Bool := decide (0 ≤ n) && decide (n < e)
def clause (c : Int × Int) : Bool := place c.1 8 && place c.2 200
def tab (t : Tab) : Bool := t.1.all clause && (decide (t.2 = -1) || place t.2 200)
def little (a : Act) : Bool := (a.tabs.all fun t => decide (t.1.length ≤ 8)) && decide (a.params.length ≤ 4) && decide (a.regs.length ≤ 16) && decide (a.msgs.length ≤ 8) && decide (a.code.length ≤ 200) && decide (a.tabs.length ≤ 8)
def ins (i : Int × Int) : Bool := Instr.right i.1 i.2
def right (a : Act) (n : Int) : Bool := tys a.params n && tys a.regs n && tys a.msgs n && decide (a.code ≠ []) && decide (a.params.length ≤ a.regs.length) && a.code.all ins && a.tabs.all tab && decide (a.params = a.regs.take a.params.length)
/-- why a module is wrong; 0: it is right -/
def err (m : List Act) : Int :=
  if 8 < m.length ∨ m.all little = false then 3
  else if m.length = 0 ∨ 0 < (m.head?.map (fun a => a.params.length)).getD 0 ∨ (m.all fun a => right a m.length) = false then 4 else 0
end Mod
end Go.Proofs.Ytebolbjbfnolpab
