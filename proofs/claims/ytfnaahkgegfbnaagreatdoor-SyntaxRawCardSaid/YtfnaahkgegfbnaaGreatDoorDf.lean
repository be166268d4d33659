/- Lean functions with the answers of Go functions. Written by a program of this session. -/
import Derived.Test.YtfnaahkgegfbnaaGreatDoorSC
import Derived.Test.YtfnaahkgegfbnaaGreatDoorDc
set_option linter.unusedVariables false
set_option linter.unusedSimpArgs false
set_option maxRecDepth 10000
namespace Go.Proofs.YtfnaahkgegfbnaaGreatDoor

def l36_variable (k : Nat) (a0 : Str) : Option Bool :=
  (l36_word k a0).bind fun r1 => (if r1 = true then (if (decide (((a0).length : Int) ≤ 64)) = true then (l36_reserved).bind fun r7 => (l36_among k a0 ((r7).length : Int)).bind fun r14 => some (!r14) else some false) else some false)

end Go.Proofs.YtfnaahkgegfbnaaGreatDoor
