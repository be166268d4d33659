/- Lean functions with the answers of Go functions. Written by a program of this session. -/
import Derived.Test.YtfnaahkgegfbnaaGreatDoorSC
set_option linter.unusedVariables false
set_option linter.unusedSimpArgs false
set_option maxRecDepth 10000
namespace Go.Proofs.YtfnaahkgegfbnaaGreatDoor

mutual
def l36_smallPred_j1 : Nat → GPred → Int → Bool → Option Bool
  | 0, _, _, _ => none
  | k + 1, a0, a1, x8 =>
    (if x8 = true then some false else (l36_smallPred_l2 k a0 a1 0))
def l36_smallPred : Nat → GPred → Int → Option Bool
  | 0, _, _ => none
  | k + 1, a0, a1 =>
    (if (a1 == 0) = true then (l36_smallPred_j1 k a0 a1 true) else (if (decide (((a0.Args).length : Int) > 4)) = true then (l36_smallPred_j1 k a0 a1 true) else (l36_smallPred_j1 k a0 a1 (decide ((w64 ((w64 (((a0.Field).length : Int) + ((a0.Key).length : Int))) + ((a0.Value.Text).length : Int))) > 80)))))
def l36_smallPred_l2 : Nat → GPred → Int → Int → Option Bool
  | 0, _, _, _ => none
  | k + 1, a0, a1, x31 =>
    (if (decide (x31 < ((a0.Args).length : Int))) = true then chk (decide ((0 : Int) ≤ x31)) ((a0.Args[Int.toNat (x31)]?).bind fun x57 => (l36_smallPred k x57 (w64 (a1 - 1))).bind fun r69 => (if (!r69) = true then some false else (l36_smallPred_l2 k a0 a1 (w64 (x31 + 1))))) else some true)
end

end Go.Proofs.YtfnaahkgegfbnaaGreatDoor
