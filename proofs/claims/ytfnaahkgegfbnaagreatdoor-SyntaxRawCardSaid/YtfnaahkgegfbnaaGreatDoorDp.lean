/- Lean functions with the answers of Go functions. Written by a program of this session. -/
import Derived.Test.YtfnaahkgegfbnaaGreatDoorSC
import Derived.Test.YtfnaahkgegfbnaaGreatDoorDa
import Derived.Test.YtfnaahkgegfbnaaGreatDoorDc
import Derived.Test.YtfnaahkgegfbnaaGreatDoorDf
set_option linter.unusedVariables false
set_option linter.unusedSimpArgs false
set_option maxRecDepth 10000
namespace Go.Proofs.YtfnaahkgegfbnaaGreatDoor

def l36_SyntaxNames (k : Nat) (a0 : Str) (a1 : Int) : Option Bool :=
  chk (decide ((0 : Int) ≤ (mn ((a0).length : Int) 80)) && decide (((mn ((a0).length : Int) 80) : Int) ≤ ((a0).length : Int))) ((l36_reserved).bind fun r2 => (l36_reserved).bind fun r9 => chk (!(((r9).length : Int) == 0)) (chk (decide ((0 : Int) ≤ ((w64 a1).tmod ((r9).length : Int)))) ((r2[Int.toNat ((w64 a1).tmod ((r9).length : Int))]?).bind fun x18 => (l36_known k).bind fun r26 => (if r26 = true then (syntax_IsVariable k (List.take (Int.toNat (mn ((a0).length : Int) 80)) a0)).bind fun r32 => (l36_variable k (List.take (Int.toNat (mn ((a0).length : Int) 80)) a0)).bind fun r37 => (if (r32 == r37) = true then (syntax_IsField k (List.take (Int.toNat (mn ((a0).length : Int) 80)) a0)).bind fun r42 => (l36_field k (List.take (Int.toNat (mn ((a0).length : Int) 80)) a0)).bind fun r46 => (if (r42 == r46) = true then (syntax_IsVariable k x18).bind fun r51 => (if (!r51) = true then (syntax_IsField k x18).bind fun r57 => (l36_field k x18).bind fun r61 => some (r57 == r61) else some false) else some false) else some false) else some false))))

end Go.Proofs.YtfnaahkgegfbnaaGreatDoor
