/- Lean functions with the answers of Go functions. Written by a program of this session. -/
import Derived.Test.YtfnaahkgegfbnaaGreatDoorSC
set_option linter.unusedVariables false
set_option linter.unusedSimpArgs false
set_option maxRecDepth 10000
namespace Go.Proofs.YtfnaahkgegfbnaaGreatDoor

def l36_begins (a0 : Int) : Option Bool :=
  (if (decide (a0 ≥ 65)) = true then (if (decide (a0 ≤ 90)) = true then some true else (if (decide (a0 ≥ 97)) = true then (if (decide (a0 ≤ 122)) = true then some true else some (a0 == 95)) else some (a0 == 95))) else (if (decide (a0 ≥ 97)) = true then (if (decide (a0 ≤ 122)) = true then some true else some (a0 == 95)) else some (a0 == 95)))

def l36_digit (a0 : Int) : Option Bool :=
  (if (decide (a0 ≥ 48)) = true then some (decide (a0 ≤ 57)) else some false)

end Go.Proofs.YtfnaahkgegfbnaaGreatDoor
