/-
  What the instructions are, as plain functions.
-/
import Derived.Test.YtebolbjbfnolpabReelLaw0
namespace Go.Proofs.Ytebolbjbfnolpab
namespace Instr
def cnt (op : Int) : Int := if op = 4 then 16 else if op = 5 then 16 else if op = 16 then 200 else if op = 17 then 200 else if op = 19 then 8 else if op = 20 then 8 else if op = 21 then 8 else 0
def has (op : Int) : Bool := decide (op = 1) || decide (0 < cnt op)
def right (op a : Int) : Bool := if op < 0 ∨ 26 < op then false else if op = 1 then true else if has op then decide (0 ≤ a) && decide (a < cnt op) else decide (a = 0)
/-- the ops' names -/
def names : List (List UInt8) := [
  [104, 97, 108, 116],
  [112, 117, 115, 104],
  [116, 114, 117, 101],
  [102, 97, 108, 115, 101],
  [108, 111, 97, 100],
  [115, 116, 111, 114, 101],
  [97, 100, 100],
  [115, 117, 98],
  [109, 117, 108],
  [100, 105, 118],
  [114, 101, 109],
  [108, 101, 115, 115],
  [101, 113],
  [110, 111, 116],
  [97, 110, 100],
  [111, 114],
  [106, 117, 109, 112],
  [117, 110, 108, 101, 115, 115],
  [115, 101, 108, 102],
  [115, 112, 97, 119, 110],
  [115, 101, 110, 100],
  [114, 101, 99, 118],
  [108, 105, 110, 107],
  [101, 120, 105, 116],
  [111, 117, 116],
  [100, 114, 111, 112],
  [100, 117, 112]]
def name (op : Int) : List UInt8 := if 0 ≤ op then names.getD op.toNat [] else []
def idx (s : List UInt8) : List (List UInt8) → Nat → Int
  | [], _ => -1
  | z :: r, i => if z = s then i else idx s r (i + 1)
def bytes (op a : Int) : List UInt8 × Int := if right op a then (UInt8.ofNat op.toNat :: (if has op then Reel.digits (Reel.fold a) else []), 0) else ([], 4)
/-- what a text begins with: op, a, how many bytes, the error -/
def read : List UInt8 → Int × Int × Int × Int
  | [] => (0, 0, 0, 2)
  | c :: r =>
    if 26 < (c.toNat : Int) then (0, 0, 0, 9)
    else if has c.toNat then
      (if (Reel.rdNum 0 r).1 = 0 then
        (if right c.toNat (Reel.unfold_ (Reel.rdNum 0 r).2.1) then (c.toNat, Reel.unfold_ (Reel.rdNum 0 r).2.1, 1 + (Reel.rdNum 0 r).2.2, 0) else (0, 0, 0, 4))
       else (0, 0, 0, (Reel.rdNum 0 r).1))
    else (c.toNat, 0, 1, 0)

theorem has_op {op : Int} (h : has op = true) : 0 ≤ op ∧ op ≤ 26 := by
  unfold has cnt at h
  simp only [Bool.or_eq_true, decide_eq_true_eq] at h
  rcases h with h | h
  · omega
  · repeat' split at h
    all_goals omega
theorem right_op {op a : Int} (h : right op a = true) : 0 ≤ op ∧ op ≤ 26 := by
  unfold right at h
  split at h
  · simp at h
  · omega
end Instr
end Go.Proofs.Ytebolbjbfnolpab
