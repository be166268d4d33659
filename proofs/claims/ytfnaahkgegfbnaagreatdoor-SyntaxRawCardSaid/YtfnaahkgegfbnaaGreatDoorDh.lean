/- Lean functions with the answers of Go functions. Written by a program of this session. -/
import Derived.Test.YtfnaahkgegfbnaaGreatDoorSC
set_option linter.unusedVariables false
set_option linter.unusedSimpArgs false
set_option maxRecDepth 10000
namespace Go.Proofs.YtfnaahkgegfbnaaGreatDoor

mutual
def slices_EqualFunc_api_Pred_l1 : Nat → (List GPred) → (List GPred) → Int → Option Bool
  | 0, _, _, _ => none
  | k + 1, a0, a1, x40 =>
    (if (decide (x40 < ((a0).length : Int))) = true then chk (decide ((0 : Int) ≤ x40)) ((a0[Int.toNat (x40)]?).bind fun x84 => chk (decide ((0 : Int) ≤ x40)) ((a1[Int.toNat (x40)]?).bind fun x99 => (syntax_EqualPred k x84 x99).bind fun r113 => (if (!r113) = true then some false else (slices_EqualFunc_api_Pred_l1 k a0 a1 (w64 (x40 + 1)))))) else some true)
def slices_EqualFunc_api_Pred : Nat → (List GPred) → (List GPred) → Option Bool
  | 0, _, _ => none
  | k + 1, a0, a1 =>
    (if (((a0).length : Int) != ((a1).length : Int)) = true then some false else (slices_EqualFunc_api_Pred_l1 k a0 a1 0))
def syntax_EqualPred : Nat → GPred → GPred → Option Bool
  | 0, _, _ => none
  | k + 1, a0, a1 =>
    (if (a0.Op == a1.Op) = true then (if (a0.Field == a1.Field) = true then (if (a0.Key == a1.Key) = true then (if ((a0.Value.Kind == a1.Value.Kind) && ((a0.Value.Text == a1.Value.Text) && ((a0.Value.Int == a1.Value.Int) && true))) = true then (slices_EqualFunc_api_Pred k a0.Args a1.Args).bind fun r11 => some r11 else some false) else some false) else some false) else some false)
end

end Go.Proofs.YtfnaahkgegfbnaaGreatDoor
