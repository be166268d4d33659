/- Lean functions with the answers of Go functions. Written by a program of this session. -/
import Derived.Test.YtfnaahkgegfbnaaGreatDoorSC
import Derived.Test.YtfnaahkgegfbnaaGreatDoorDa
import Derived.Test.YtfnaahkgegfbnaaGreatDoorDc
set_option linter.unusedVariables false
set_option linter.unusedSimpArgs false
set_option maxRecDepth 10000
namespace Go.Proofs.YtfnaahkgegfbnaaGreatDoor

mutual
def l36_fits_j1 : Nat → GPred → Bool → Option Bool
  | 0, _, _ => none
  | k + 1, a0, x14 =>
    (l36_fits_l2 k a0 x14 0)
def l36_fits : Nat → GPred → Bool → Option Bool
  | 0, _, _ => none
  | k + 1, a0, a1 =>
    (if a1 = true then (if (decide (a0.Op ≥ 5)) = true then (l36_field k a0.Field).bind fun r84 => (if (!r84) = true then (if (!(a0.Field == w_attr)) = true then some false else (l36_fits_j1 k a0 true)) else (l36_fits_j1 k a0 true)) else (l36_fits_j1 k a0 true)) else (if (a0.Op == 1) = true then (if (decide (((a0.Args).length : Int) < 2)) = true then some false else (l36_fits_j1 k a0 false)) else (if (a0.Op == 2) = true then (if (decide (((a0.Args).length : Int) < 2)) = true then some false else (l36_fits_j1 k a0 false)) else (l36_fits_j1 k a0 false))))
def l36_fits_l2 : Nat → GPred → Bool → Int → Option Bool
  | 0, _, _, _ => none
  | k + 1, a0, x14, x37 =>
    (if (decide (x37 < ((a0.Args).length : Int))) = true then chk (decide ((0 : Int) ≤ x37)) ((a0.Args[Int.toNat (x37)]?).bind fun x63 => (l36_fits k x63 x14).bind fun r75 => (if (!r75) = true then some false else (l36_fits_l2 k a0 x14 (w64 (x37 + 1))))) else some true)
end

def l36_checkPred (k : Nat) (a0 : GPred) : Option Int :=
  (attribute_Check k a0).bind fun r8 => (if (r8 != 0) = true then some r8 else (l36_fits k a0 false).bind fun r12 => (if (!r12) = true then some 3 else (l36_fits k a0 true).bind fun r18 => (if (!r18) = true then some 11 else some 0)))

mutual
def l36_quoted_l3 : Nat → Str → (List Int) → Int → Option Str
  | 0, _, _, _ => none
  | k + 1, a0, x70, x75 =>
    (if (decide (x75 < ((a0).length : Int))) = true then chk (decide ((0 : Int) ≤ x75)) ((a0[Int.toNat (x75)]?).bind fun c193 => (if ((c193.toNat : Int) == 34) = true then chk (decide ((x70 ++ [92]).length * 1 ≤ 140737488355328)) ((l36_quoted_j4 k a0 x75 (x70 ++ [92]))) else chk (decide ((0 : Int) ≤ x75)) ((a0[Int.toNat (x75)]?).bind fun c203 => (if ((c203.toNat : Int) == 92) = true then chk (decide ((x70 ++ [92]).length * 1 ≤ 140737488355328)) ((l36_quoted_j4 k a0 x75 (x70 ++ [92]))) else (l36_quoted_j4 k a0 x75 x70))))) else chk (decide ((x70 ++ [34]).length * 1 ≤ 140737488355328)) (some (List.map (fun q : Int => UInt8.ofNat q.toNat) (x70 ++ [34]))))
def l36_quoted_j4 : Nat → Str → Int → (List Int) → Option Str
  | 0, _, _, _ => none
  | k + 1, a0, x75, x168 =>
    chk (decide ((0 : Int) ≤ x75)) ((a0[Int.toNat (x75)]?).bind fun c183 => chk (decide ((x168 ++ [(c183.toNat : Int)]).length * 1 ≤ 140737488355328)) ((l36_quoted_l3 k a0 (x168 ++ [(c183.toNat : Int)]) (w64 (x75 + 1)))))
end
def l36_quoted (k : Nat) (a0 : Str) : Option Str :=
  (l36_quoted_l3 k a0 [34] 0)

def l36_label (k : Nat) (a0 : Str) : Option Str :=
  (l36_word k a0).bind fun r1 => (if r1 = true then some a0 else (l36_quoted k a0).bind fun r5 => some r5)

def l36_decimal : Nat → Int → Option Str
  | 0, _ => none
  | k + 1, a0 =>
    (if (decide (a0 < 0)) = true then (l36_decimal k (w64 (0 - a0))).bind fun r6 => chk (decide ((wx2d ++ r6).length ≤ 9223372036854775807)) (some (wx2d ++ r6)) else (if (decide (a0 < 10)) = true then some (List.map (fun q : Int => UInt8.ofNat q.toNat) [IntKind.u8.wrap (w64 (48 + a0))]) else (l36_decimal k (w64 (a0.tdiv 10))).bind fun r14 => (l36_decimal k (a0.tmod 10)).bind fun r18 => chk (decide ((r14 ++ r18).length ≤ 9223372036854775807)) (some (r14 ++ r18))))

def l36_value (k : Nat) (a0 : GValue) : Option Str :=
  (if (a0.Kind == 1) = true then (l36_quoted k a0.Text).bind fun r2 => some r2 else (if (a0.Kind == 2) = true then (l36_decimal k a0.Int).bind fun r6 => some r6 else (if (a0.Int == 1) = true then some w_true else some w_false)))

mutual
def l36_pred_j3 : Nat → GPred → Str → Option Str
  | 0, _, _ => none
  | k + 1, a0, x21 =>
    chk (decide ((0 : Int) ≤ 0)) ((a0.Args[Int.toNat (0)]?).bind fun x28 => (l36_part k x28).bind fun r40 => (l36_pred_l4 k a0 x21 r40 1))
def l36_pred_j2 : Nat → GPred → Str → Bool → Option Str
  | 0, _, _, _ => none
  | k + 1, a0, x9, x15 =>
    (if x15 = true then (if (a0.Op == 2) = true then (l36_pred_j3 k a0 wx206f7220) else (l36_pred_j3 k a0 wx20616e6420)) else (if (a0.Op == 3) = true then chk (decide ((0 : Int) ≤ 0)) ((a0.Args[Int.toNat (0)]?).bind fun x117 => (l36_part k x117).bind fun r129 => chk (decide ((wx6e6f7420 ++ r129).length ≤ 9223372036854775807)) (some (wx6e6f7420 ++ r129))) else (if (a0.Op == 4) = true then (l36_label k a0.Key).bind fun r135 => chk (decide ((wx68617320 ++ r135).length ≤ 9223372036854775807)) (some (wx68617320 ++ r135)) else (if (a0.Op == 5) = true then chk (decide ((x9 ++ wx203d20).length ≤ 9223372036854775807)) ((l36_value k a0.Value).bind fun r142 => chk (decide (((x9 ++ wx203d20) ++ r142).length ≤ 9223372036854775807)) (some ((x9 ++ wx203d20) ++ r142))) else (if (a0.Op == 6) = true then chk (decide ((x9 ++ wx203c20).length ≤ 9223372036854775807)) ((l36_value k a0.Value).bind fun r149 => chk (decide (((x9 ++ wx203c20) ++ r149).length ≤ 9223372036854775807)) (some ((x9 ++ wx203c20) ++ r149))) else (if (a0.Op == 7) = true then chk (decide ((x9 ++ wx2070726566697820).length ≤ 9223372036854775807)) ((l36_value k a0.Value).bind fun r156 => chk (decide (((x9 ++ wx2070726566697820) ++ r156).length ≤ 9223372036854775807)) (some ((x9 ++ wx2070726566697820) ++ r156))) else some w_true))))))
def l36_pred_j1 : Nat → GPred → Str → Option Str
  | 0, _, _ => none
  | k + 1, a0, x9 =>
    (if (a0.Op == 1) = true then (l36_pred_j2 k a0 x9 (a0.Op == 1)) else (l36_pred_j2 k a0 x9 (a0.Op == 2)))
def l36_pred : Nat → GPred → Option Str
  | 0, _ => none
  | k + 1, a0 =>
    (if (a0.Field == w_attr) = true then (l36_label k a0.Key).bind fun r163 => chk (decide ((wx617474722e ++ r163).length ≤ 9223372036854775807)) ((l36_pred_j1 k a0 (wx617474722e ++ r163))) else (l36_pred_j1 k a0 a0.Field))
def l36_part : Nat → GPred → Option Str
  | 0, _ => none
  | k + 1, a0 =>
    (if (a0.Op == 1) = true then (l36_pred k a0).bind fun r5 => chk (decide ((wx28 ++ r5).length ≤ 9223372036854775807)) (chk (decide (((wx28 ++ r5) ++ wx29).length ≤ 9223372036854775807)) (some ((wx28 ++ r5) ++ wx29))) else (if (a0.Op == 2) = true then (l36_pred k a0).bind fun r11 => chk (decide ((wx28 ++ r11).length ≤ 9223372036854775807)) (chk (decide (((wx28 ++ r11) ++ wx29).length ≤ 9223372036854775807)) (some ((wx28 ++ r11) ++ wx29))) else (l36_pred k a0).bind fun r17 => some r17))
def l36_pred_l4 : Nat → GPred → Str → Str → Int → Option Str
  | 0, _, _, _, _ => none
  | k + 1, a0, x21, x65, x66 =>
    (if (decide (x66 < ((a0.Args).length : Int))) = true then chk (decide ((x65 ++ x21).length ≤ 9223372036854775807)) (chk (decide ((0 : Int) ≤ x66)) ((a0.Args[Int.toNat (x66)]?).bind fun x97 => (l36_part k x97).bind fun r109 => chk (decide (((x65 ++ x21) ++ r109).length ≤ 9223372036854775807)) ((l36_pred_l4 k a0 x21 ((x65 ++ x21) ++ r109) (w64 (x66 + 1)))))) else some x65)
end

end Go.Proofs.YtfnaahkgegfbnaaGreatDoor
