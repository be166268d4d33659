/- Lean functions with the answers of Go functions. Written by a program of this session. -/
import Derived.Test.YtfnaahkgegfbnaaGreatDoorSC
import Derived.Test.YtfnaahkgegfbnaaGreatDoorDb
set_option linter.unusedVariables false
set_option linter.unusedSimpArgs false
set_option maxRecDepth 10000
namespace Go.Proofs.YtfnaahkgegfbnaaGreatDoor

def l36_reserved : Option (List Str) :=
  some [w_and, w_attr, w_false, w_has, w_not, w_or, w_prefix, w_true, w_ancestor, w_before, w_by, w_compute, w_desc, w_distinct, w_estimate, w_find, w_greatest, w_group, w_least, w_limit, w_link, w_matches, w_order, w_parent, w_quantile, w_sibling, w_slots, w_sum, w_traces, w_where]

def l36_word_l1 : Nat → Str → Int → Option Bool
  | 0, _, _ => none
  | k + 1, a0, x22 =>
    (if (decide (x22 < ((a0).length : Int))) = true then chk (decide ((0 : Int) ≤ x22)) ((a0[Int.toNat (x22)]?).bind fun c52 => (l36_begins (c52.toNat : Int)).bind fun r54 => (if (!r54) = true then (if (x22 == 0) = true then some false else chk (decide ((0 : Int) ≤ x22)) ((a0[Int.toNat (x22)]?).bind fun c62 => (l36_digit (c62.toNat : Int)).bind fun r64 => (if (!r64) = true then chk (decide ((0 : Int) ≤ x22)) ((a0[Int.toNat (x22)]?).bind fun c70 => (if ((c70.toNat : Int) != 45) = true then some false else (l36_word_l1 k a0 (w64 (x22 + 1))))) else (l36_word_l1 k a0 (w64 (x22 + 1)))))) else (l36_word_l1 k a0 (w64 (x22 + 1))))) else some (!(a0 == w_0)))
def l36_word (k : Nat) (a0 : Str) : Option Bool :=
  (l36_word_l1 k a0 0)

def l36_among_l1 : Nat → Str → Int → Int → Option Bool
  | 0, _, _, _ => none
  | k + 1, a0, a1, x18 =>
    (if (decide (x18 < a1)) = true then (l36_reserved).bind fun r43 => chk (decide ((0 : Int) ≤ x18)) ((r43[Int.toNat (x18)]?).bind fun x51 => (if (x51 == a0) = true then some true else (l36_among_l1 k a0 a1 (w64 (x18 + 1))))) else some false)
def l36_among (k : Nat) (a0 : Str) (a1 : Int) : Option Bool :=
  (l36_among_l1 k a0 a1 0)

def l36_field (k : Nat) (a0 : Str) : Option Bool :=
  (l36_word k a0).bind fun r1 => (if r1 = true then (if (decide (((a0).length : Int) ≤ 64)) = true then (l36_among k a0 8).bind fun r7 => some (!r7) else some false) else some false)

end Go.Proofs.YtfnaahkgegfbnaaGreatDoor
