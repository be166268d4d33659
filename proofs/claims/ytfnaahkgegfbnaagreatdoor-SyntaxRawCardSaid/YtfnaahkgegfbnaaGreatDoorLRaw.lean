/- For any two predicates with at most 4 arguments, strings of at most 80 bytes and at most two levels, CheckPred returns the first error and EqualPred compares all fields: the statement SyntaxRaw is true at every input. Conditions: those of the row alone (the listed package-level variables hold what the program's text lays; the card ties them). -/
import Derived.Test.YtfnaahkgegfbnaaGreatDoorGu0
import Derived.Test.YtfnaahkgegfbnaaGreatDoorPr
import Derived.Test.YtfnaahkgegfbnaaGreatDoorB17
import Derived.ProofKit
import Derived.OpenShut
set_option linter.unusedVariables false
set_option linter.unusedSimpArgs false
set_option maxRecDepth 100000
namespace Go.Proofs.YtfnaahkgegfbnaaGreatDoor
open Go.ChangeShapes Go.WideShapes Go.ChangeAt Go.WideMaps Go.WideElems Go.ChangeMaps Go.RowKit

theorem raw_lifted (os : Os) (started : os.Started) (H : Type) (enc : TypeId × Value → H) :
    ReturnsInHanded {} Tryz.checked os 9 .any (fun w args => (Rows.syntaxRawSpec.pre enc Tryz.prog Tryz.f9 [] false w args ∧ laidMetH Tryz.prog Rows.syntaxRawRow.laid w) ∧ sizedMet enc Tryz.prog Tryz.f9 (OpenSpec.ofChange Rows.syntaxRawSpec) false w args)
      (Rows.syntaxRawSpec.post enc Tryz.prog Tryz.f9 false true false false) := by
  refine returnsInHanded_of_change_and (C := Tryz.checked) (X := fun w _ => laidMetH Tryz.prog Rows.syntaxRawRow.laid w) (fun _ _ _ hh h => h.of_heap hh) own started (by kernel_rfl) Tryz.func9
    (ChangeSpec.witness_shaped (enc := enc) (C := Tryz.checked) (os := os) (X := fun w _ => laidMetH Tryz.prog Rows.syntaxRawRow.laid w) false (World.doorLaid Tryz.prog 106 os) #[.agg #[.int .i64 0, .string ⟨#[]⟩, .string ⟨#[]⟩, .int .i64 0, .string ⟨#[]⟩, .int .i64 0, .slice none 0 0], .agg #[.int .i64 0, .string ⟨#[]⟩, .string ⟨#[]⟩, .int .i64 0, .string ⟨#[]⟩, .int .i64 0, .slice none 0 0]] 8 rfl (World.shaped_of_RefB (by kernel_rfl) (by kernel_rfl)) (by kernel_rfl) (by kernel_rfl) (by kernel_rfl) (door_met os _)) ?_
  intro W base args ds gs before hval0 hW _ hwt hL _
  have hval : ∀ (j : Nat) t v, Tryz.f9.params[j]? = some t → args[j]? = some v → Value.okWide Tryz.prog W .any base t v := hval0
  have hW' := hW
  obtain ⟨p, q, hA0, hV, rfl, hfz, hnd⟩ := hW
  have hA : DataW.TrodAll enc Tryz.prog W 0 (fun _ => true) true Tryz.f9.params.toList args.toList ds p := hA0
  rw [Tryz.params9] at hA hval hwt
  obtain ⟨v0, vs0, d0, ds0, p0, q0, hargs, rfl, rfl, h0, r0⟩ := trodAll_cons hA
  obtain ⟨v1, vs1, d1, ds1, p1, q1, rfl, rfl, rfl, h1, r1⟩ := trodAll_cons r0
  obtain ⟨rfl, rfl, rfl⟩ := trodAll_nil r1
  obtain rfl : args = #[v0, v1] := by cases args; simp_all
  obtain ⟨rfl, rfl⟩ := trodVars_none hV
  obtain ⟨cs0, rfl, _⟩ := okWide_struct Tryz.underlying44 (hval 0 44 v0 rfl rfl)
  obtain ⟨cs1, rfl, _⟩ := okWide_struct Tryz.underlying44 (hval 1 44 v1 rfl rfl)
  obtain ⟨y0, r0', o0⟩ := opn_arg opn_GPred h0 (weights_each hwt 0 44 d0 rfl rfl)
  obtain ⟨y1, r1', o1⟩ := opn_arg opn_GPred h1 (weights_each hwt 1 44 d1 rfl rfl)
  obtain ⟨u0, e0, hu0⟩ := TGPred.open_ r0'
  obtain ⟨u1, e1, hu1⟩ := TGPred.open_ r1'
  obtain rfl : cs0 = ⟨cGPred y0 u0⟩ := Array.ext' e0
  obtain rfl : cs1 = ⟨cGPred y1 u1⟩ := Array.ext' e1
  clear hA0 hval0
  have h := c_l36_SyntaxRaw (g := W) (m := mOf W) (F := []) (raw_true y0 y1 o0 o1) (St.of W) hu0 hu1 (Glob.of hL)
  refine h.mono fun e W' he => ?_
  obtain ⟨v, rfl, m', rfl, hl, hst⟩ := he
  exact ⟨_, rfl, law_post rfl rfl rfl (by kernel_rfl) hW' (Below.of hl hst)⟩
theorem raw_said : Rows.SyntaxRawSaid :=
  OpenClaim.holds_of_wide 9 Tryz.f9 rfl rfl rfl rfl rfl rfl rfl ⟨rfl, rfl, rfl, rfl, rfl⟩ rfl rfl rfl rfl rfl (by kernel_rfl) Tryz.func9 (by kernel_rfl)
    (of_decide_eq_true (by kernel_rfl)) (by unfold Func.isWrapper; first | (rw [if_pos (by decide +kernel)]; kernel_rfl) | (rw [if_neg (by decide +kernel)]; exact ⟨rfl, rfl⟩))
    (fun os started H enc _ => raw_lifted os started H enc)
theorem raw_plain (f : FuncId) (fn : Func) (hf : Tryz.pinned.checked.prog.funcNamed "sleuth/sleuthlaw36.SyntaxRaw" = some f) (hfn : Tryz.pinned.checked.prog.funcs[f]? = some fn) :
    true = Tryz.pinned.checked.prog.looks [] ∧ ∀ (j : Nat) t, fn.params[j]? = some t → Tryz.pinned.checked.prog.wantsStandIn t = false := by
  obtain rfl : f = 9 := Option.some.inj ((show Tryz.prog.funcNamed "sleuth/sleuthlaw36.SyntaxRaw" = some 9 by kernel_rfl).symm.trans hf) |>.symm
  obtain rfl : fn = Tryz.f9 := (Option.some.inj (Tryz.func9.symm.trans hfn)).symm
  refine ⟨by kernel_rfl, fun j t ht => ?_⟩
  rw [Tryz.params9] at ht
  have hm : t ∈ [44, 44] := by simpa using Array.mem_of_getElem? ht
  have hall : ([44, 44].all fun u => !Tryz.prog.wantsStandIn u) = true := by kernel_rfl
  exact (show Tryz.prog.wantsStandIn t = false by simpa using List.all_eq_true.1 hall t hm)
/-- THE TIED CARD -/
theorem raw_holds : Rows.SyntaxRawCardSaid :=
  Claim7.holds_tied_plain_at .later [] _ _ _ _ raw_said (fun _ h => by cases h) (by kernel_rfl) (fun _ h => by cases h) syntaxRaw_row_tie rfl ⟨rfl, rfl⟩ (by kernel_rfl) rfl raw_plain (by kernel_rfl)
#print axioms raw_holds
end Go.Proofs.YtfnaahkgegfbnaaGreatDoor
