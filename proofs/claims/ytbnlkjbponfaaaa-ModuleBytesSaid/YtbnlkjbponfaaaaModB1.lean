/-
  The law ModuleBytes.
-/
import Derived.Test.YtbnlkjbponfaaaaModZ
import Derived.Deep.RegionHeld3
namespace Go.Proofs.Ytbnlkjbponfaaaa
open Go.RowKit HP
open Go.Proofs.Ytbnlkjbponfaaaa.Mod

section
set_option maxRecDepth 100000 in
set_option maxHeartbeats 8000000 in
theorem moduleBytes_any (l : List ActD) (ao : Option Addr) (n cap : Nat) (hn : l.length = n) (hm : n ≤ maxLen) (W : World) (hrd : Kn.At_ kActor W ao l) :
    Calls Try.prog 3 #[.agg #[.slice ao n cap]] W fun e w' => e = .returned (.bool true) ∧ Below W.heap.size W w' := by
  have hB := (At.start W).alloc (.cells #[.slice ao n cap] 24)
  have b0 := hB.cell 0
  have k1 := fun (w1 : World) (L : List HP) (h : At W w1 L) => mbytes_any l ao n cap hn hm (Kn.At_.mv h.below hrd) h
  have k2 := fun (w1 : World) (L : List HP) (h : At W w1 L) => refBytes_any l ao n cap hn hm (Kn.At_.mv h.below hrd) h
  have k3 := fun (w1 : World) (L : List HP) (h : At W w1 L) => modRight_any l ao n cap hn hm (Kn.At_.mv h.below hrd) h
  have k4 := fun (w1 : World) (L : List HP) (h : At W w1 L) => refRight_any l ao n cap hn hm (Kn.At_.mv h.below hrd) h
  generalize Mod.bytes (l.map toAct) = bb at *
  generalize Mod.err (l.map toAct) = ee at *
  obtain ⟨s, e1⟩ := bb
  simp only at k1 k2
  have K1 := Lib.hid k1; clear k1
  have K2 := Lib.hid k2; clear k2
  have K3 := Lib.hid k3; clear k3
  have K4 := Lib.hid k4; clear k4
  go_enter Try.func3, Try.ntmps3
  go_wp2_with (first
    | (go_at_call 9; with_reducible refine (lives_any hB).mono ?_; rintro e w1 ⟨rfl, hV1⟩; have c1 := hV1.cell 0)
    | (go_at_call 10; with_reducible refine (K1.out _ _ hV1).mono ?_; rintro e w2 ⟨rfl, hV2⟩; have c2 := hV2.cell 0)
    | (go_at_call 11; with_reducible refine (K2.out _ _ hV2).mono ?_; rintro e w3 ⟨rfl, hV3⟩; have c3 := hV3.drew.cell 0))
  go_region_held3 (fun w' => At W w' [HP.one W.heap.size (.cells #[.slice ao n cap] 24 (0, 0))] ∧ w'.cell? ⟨W.heap.size, 0, none⟩ = some (.slice ao n cap)) (first | exact ⟨hV3.drew, c3⟩ | assumption | exact ⟨by assumption, At.cell (by assumption) 0⟩)
    (first
      | (go_at_call 12; refine (K3.out _ _ (And.left (by assumption))).mono ?_; rintro e w4 ⟨rfl, hV4⟩)
      | (go_at_call 13; refine (K4.out _ _ (And.left (by assumption))).mono ?_; rintro e w5 ⟨rfl, hV5⟩))
  all_goals
    go_wp2
    go_returns
  all_goals exact ⟨by simp, (At.drop (And.left (by assumption))).below⟩
end
namespace moduleBytes
theorem moduleBytes_walk (W : World) (l : List ActD × Unit) (cs : Array Value) (hR : kModule.R W l cs.toList) :
    Calls Try.prog 3 #[.agg cs] W fun e w' => e = .returned (.bool true) ∧ Below W.heap.size W w' := by
  obtain ⟨c1, c2, hc, ⟨ao, cap, rfl, h1, h2, h3, h4⟩, rfl⟩ := hR
  obtain rfl : cs = #[.slice ao l.1.length cap] := Array.toList_inj.1 hc
  exact moduleBytes_any l.1 ao l.1.length cap rfl (by omega) W h4
end moduleBytes
end Go.Proofs.Ytbnlkjbponfaaaa
