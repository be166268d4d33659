/- Lean functions with the answers of Go functions. Written by a program of this session. -/
import Derived.Test.YtfnaahkgegfbnaaGreatDoorSC
import Derived.Test.YtfnaahkgegfbnaaGreatDoorDa
import Derived.Test.YtfnaahkgegfbnaaGreatDoorDd
import Derived.Test.YtfnaahkgegfbnaaGreatDoorDe
import Derived.Test.YtfnaahkgegfbnaaGreatDoorDh
import Derived.Test.YtfnaahkgegfbnaaGreatDoorDn
set_option linter.unusedVariables false
set_option linter.unusedSimpArgs false
set_option maxRecDepth 10000
namespace Go.Proofs.YtfnaahkgegfbnaaGreatDoor

def l36_SyntaxRaw_j2 (k : Nat) (a0 : GPred) (r61 : Str × Int) (x181 : Bool) : Option Bool :=
  (if x181 = true then some false else (if (r61.2 != 0) = true then (if (r61.1 == w_0) = true then some true else (if (r61.2 == 0) = true then (l36_pred k a0).bind fun r192 => some (r61.1 == r192) else some false)) else (if (r61.2 == 0) = true then (l36_pred k a0).bind fun r200 => some (r61.1 == r200) else some false)))
def l36_SyntaxRaw_j1 (k : Nat) (a0 : GPred) (a1 : GPred) (x51 : Bool) : Option Bool :=
  (if x51 = true then (l36_known k).bind fun r56 => some r56 else (syntax_PrintPred k a0).bind fun r61 => (l36_checkPred k a0).bind fun r236 => (if (r61.2 != r236) = true then (l36_SyntaxRaw_j2 k a0 r61 true) else (syntax_CheckPred k a0).bind fun r242 => (if (r242 != r61.2) = true then (l36_SyntaxRaw_j2 k a0 r61 true) else (syntax_EqualPred k a0 a1).bind fun r249 => (l36_samePred k a0 a1).bind fun r254 => (if (!(r249 == r254)) = true then (l36_SyntaxRaw_j2 k a0 r61 true) else (syntax_EqualPred k a0 a0).bind fun r262 => (l36_SyntaxRaw_j2 k a0 r61 (!r262))))))
def l36_SyntaxRaw (k : Nat) (a0 : GPred) (a1 : GPred) : Option Bool :=
  (l36_known k).bind fun r267 => (if (!r267) = true then (l36_SyntaxRaw_j1 k a0 a1 true) else (l36_smallPred k a0 2).bind fun r272 => (if (!r272) = true then (l36_SyntaxRaw_j1 k a0 a1 true) else (l36_smallPred k a1 2).bind fun r279 => (l36_SyntaxRaw_j1 k a0 a1 (!r279))))

end Go.Proofs.YtfnaahkgegfbnaaGreatDoor
