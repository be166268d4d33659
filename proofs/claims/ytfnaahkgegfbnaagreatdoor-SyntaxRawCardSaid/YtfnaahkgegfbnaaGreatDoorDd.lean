/- Lean functions with the answers of Go functions. Written by a program of this session. -/
import Derived.Test.YtfnaahkgegfbnaaGreatDoorSC
set_option linter.unusedVariables false
set_option linter.unusedSimpArgs false
set_option maxRecDepth 10000
namespace Go.Proofs.YtfnaahkgegfbnaaGreatDoor

mutual
def l36_samePred_j1 : Nat → GPred → GPred → Bool → Option Bool
  | 0, _, _, _ => none
  | k + 1, a0, a1, x15 =>
    (if x15 = true then some false else (l36_samePred_l2 k a0 a1 0))
def l36_samePred : Nat → GPred → GPred → Option Bool
  | 0, _, _ => none
  | k + 1, a0, a1 =>
    (if (a0.Op != a1.Op) = true then (l36_samePred_j1 k a0 a1 true) else (if (!(a0.Field == a1.Field)) = true then (l36_samePred_j1 k a0 a1 true) else (if (!(a0.Key == a1.Key)) = true then (l36_samePred_j1 k a0 a1 true) else (if (!((a0.Value.Kind == a1.Value.Kind) && ((a0.Value.Text == a1.Value.Text) && ((a0.Value.Int == a1.Value.Int) && true)))) = true then (l36_samePred_j1 k a0 a1 true) else (l36_samePred_j1 k a0 a1 (((a0.Args).length : Int) != ((a1.Args).length : Int)))))))
def l36_samePred_l2 : Nat → GPred → GPred → Int → Option Bool
  | 0, _, _, _ => none
  | k + 1, a0, a1, x78 =>
    (if (decide (x78 < ((a0.Args).length : Int))) = true then chk (decide ((0 : Int) ≤ x78)) ((a0.Args[Int.toNat (x78)]?).bind fun x173 => chk (decide ((0 : Int) ≤ x78)) ((a1.Args[Int.toNat (x78)]?).bind fun x186 => (l36_samePred k x173 x186).bind fun r197 => (if (!r197) = true then some false else (l36_samePred_l2 k a0 a1 (w64 (x78 + 1)))))) else some true)
end

end Go.Proofs.YtfnaahkgegfbnaaGreatDoor
