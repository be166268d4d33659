/- The card. -/
import Derived.Test.YtfnaahkgegfbnaaGreatDoorZ4
import Derived.Test.YtfnaahkgegfbnaaGreatDoorZ6
import Derived.Test.YtfnaahkgegfbnaaGreatDoorZ5
import Derived.ProofKit
import Derived.OpenShut
set_option linter.unusedVariables false
set_option linter.unusedSimpArgs false
set_option maxRecDepth 100000
namespace Go.Proofs.YtfnaahkgegfbnaaGreatDoor
open Go.ChangeShapes Go.WideShapes Go.ChangeAt Go.WideMaps Go.WideElems Go.ChangeMaps Go.RowKit
theorem checks_lifted (os : Os) (started : os.Started) (H : Type) (enc : TypeId × Value → H) :
    ReturnsInHanded {} Tryz.checked os 12 .any (fun w args => (Rows.syntaxChecksSpec.pre enc Tryz.prog Tryz.f12 [] false w args ∧ laidMetH Tryz.prog Rows.syntaxChecksRow.laid w) ∧ sizedMet enc Tryz.prog Tryz.f12 (OpenSpec.ofChange Rows.syntaxChecksSpec) false w args)
      (Rows.syntaxChecksSpec.post enc Tryz.prog Tryz.f12 false true false false) := by
  refine returnsInHanded_of_change_and (C := Tryz.checked) (X := fun w _ => laidMetH Tryz.prog Rows.syntaxChecksRow.laid w) (fun _ _ _ hh h => h.of_heap hh) own started (by kernel_rfl) Tryz.func12
    (ChangeSpec.witness_shaped (enc := enc) (C := Tryz.checked) (os := os) (X := fun w _ => laidMetH Tryz.prog Rows.syntaxChecksRow.laid w) false (World.doorLaid Tryz.prog 106 os) #[.agg #[.slice none 0 0, .slice none 0 0, .slice none 0 0, .int .i64 0, .int .i64 0, .slice none 0 0, .slice none 0 0, .slice none 0 0, .int .i64 0], .agg #[.slice none 0 0, .slice none 0 0, .slice none 0 0, .int .i64 0, .int .i64 0, .slice none 0 0, .slice none 0 0, .slice none 0 0, .int .i64 0]] 8 rfl (World.shaped_of_RefB (by kernel_rfl) (by kernel_rfl)) (by kernel_rfl) (by kernel_rfl) (by kernel_rfl) (door_met os _)) ?_
  intro W base args ds gs before hval0 hW _ hwt hL _
  have hval : ∀ (j : Nat) t v, Tryz.f12.params[j]? = some t → args[j]? = some v → Value.okWide Tryz.prog W .any base t v := hval0
  have hW' := hW
  obtain ⟨p, q, hA0, hV, rfl, hfz, hnd⟩ := hW
  have hA : DataW.TrodAll enc Tryz.prog W 0 (fun _ => true) true Tryz.f12.params.toList args.toList ds p := hA0
  rw [Tryz.params12] at hA hval hwt
  obtain ⟨v0, vs0, d0, ds0, p0, q0, hargs, rfl, rfl, h0, r0⟩ := trodAll_cons hA
  obtain ⟨v1, vs1, d1, ds1, p1, q1, rfl, rfl, rfl, h1, r1⟩ := trodAll_cons r0
  obtain ⟨rfl, rfl, rfl⟩ := trodAll_nil r1
  obtain rfl : args = #[v0, v1] := by cases args; simp_all
  obtain ⟨rfl, rfl⟩ := trodVars_none hV
  obtain ⟨cs0, rfl, _⟩ := okWide_struct Tryz.underlying36 (hval 0 36 v0 rfl rfl)
  obtain ⟨cs1, rfl, _⟩ := okWide_struct Tryz.underlying36 (hval 1 36 v1 rfl rfl)
  obtain ⟨y0, r0', o0⟩ := opn_arg opn_GQuery h0 (weights_each hwt 0 36 d0 rfl rfl)
  obtain ⟨y1, r1', o1⟩ := opn_arg opn_GQuery h1 (weights_each hwt 1 36 d1 rfl rfl)
  obtain ⟨A0_0, c0_0, A0_1, c0_1, A0_2, c0_2, A0_3, c0_3, A0_4, c0_4, A0_5, c0_5, e0, hu0_0, hu0_1, hu0_2, hu0_3, hu0_4, hu0_5⟩ := TGQuery.opn r0'
  obtain ⟨A1_0, c1_0, A1_1, c1_1, A1_2, c1_2, A1_3, c1_3, A1_4, c1_4, A1_5, c1_5, e1, hu1_0, hu1_1, hu1_2, hu1_3, hu1_4, hu1_5⟩ := TGQuery.opn r1'
  obtain rfl : cs0 = ⟨cGQuery y0 (vs A0_0 y0.Variables c0_0) (vs A0_1 y0.Relations c0_1) (vs A0_2 y0.Absences c0_2) (vs A0_3 y0.Group c0_3) (vs A0_4 y0.Compute c0_4) (vs A0_5 y0.Order c0_5)⟩ := Array.ext' e0
  obtain rfl : cs1 = ⟨cGQuery y1 (vs A1_0 y1.Variables c1_0) (vs A1_1 y1.Relations c1_1) (vs A1_2 y1.Absences c1_2) (vs A1_3 y1.Group c1_3) (vs A1_4 y1.Compute c1_4) (vs A1_5 y1.Order c1_5)⟩ := Array.ext' e1
  clear hA0 hval0
  have h := c_l36_SyntaxChecks (g := W) (m := mOf W) (F := []) (checks_true y0 y1 (okQ.of_ o0) (okQ.of_ o1)) (St.of W) hu0_0 hu0_1 hu0_2 hu0_3 hu0_4 hu0_5 hu1_0 hu1_1 hu1_2 hu1_3 hu1_4 hu1_5 (Glob.of hL)
  refine h.mono fun e W' he => ?_
  obtain ⟨v, rfl, m', rfl, hl, hst⟩ := he
  exact ⟨_, rfl, law_post rfl rfl rfl (by kernel_rfl) hW' (Below.of hl hst)⟩
theorem checks_f1 : ((Rows.syntaxChecksRow.wf (OpenSpec.ofChange Rows.syntaxChecksSpec) && laidOutB Tryz.prog) && mapsRowed Tryz.prog) = true := by kernel_rfl
theorem checks_f2 : (Rows.syntaxChecksRow.inPlace == Tryz.prog.inPlace 12) = true := by kernel_rfl
theorem checks_f3 : (Rows.syntaxChecksRow.unfollowed == Tryz.prog.unfollowed 12) = true := by kernel_rfl
theorem checks_f4 : (Rows.syntaxChecksRow.recurses == Tryz.prog.recurses 12) = true := by kernel_rfl
theorem checks_f5 : (Rows.syntaxChecksRow.named == Tryz.prog.varsNamed 12) = true := by kernel_rfl
theorem checks_f6 : Tryz.prog.stopsHeard = true := by kernel_rfl
theorem checks_f7 : Tryz.prog.mayEnter = true := by kernel_rfl
theorem checks_f8 : (Rows.syntaxChecksRow.lifted == Tryz.prog.liftsFinal) = true := by kernel_rfl
/-- the condition of the joining, a part at a time (as one fact it is too much for the kernel's memory) -/
theorem checks_facts : joinedFacts Tryz.prog 12 Tryz.f12 Rows.syntaxChecksSpec Rows.syntaxChecksRow = true := by
  unfold joinedFacts
  repeat' (first | with_reducible exact checks_f1 | with_reducible exact checks_f2 | with_reducible exact checks_f3 | with_reducible exact checks_f4 | with_reducible exact checks_f5 | with_reducible exact checks_f6 | with_reducible exact checks_f7 | with_reducible exact checks_f8 | (with_reducible refine Bool.and_eq_true_iff.2 ⟨?_, ?_⟩) | kernel_rfl)
theorem checks_said : Rows.SyntaxChecksSaid :=
  OpenClaim.holds_of_wide 12 Tryz.f12 rfl rfl rfl rfl rfl rfl rfl ⟨rfl, rfl, rfl, rfl, rfl⟩ rfl rfl rfl rfl rfl (by kernel_rfl) Tryz.func12 checks_facts
    (of_decide_eq_true (by kernel_rfl)) (by unfold Func.isWrapper; first | (rw [if_pos (by decide +kernel)]; kernel_rfl) | (rw [if_neg (by decide +kernel)]; exact ⟨rfl, rfl⟩))
    (fun os started H enc _ => checks_lifted os started H enc)
theorem checks_plain (f : FuncId) (fn : Func) (hf : Tryz.pinned.checked.prog.funcNamed "sleuth/sleuthlaw36.SyntaxChecks" = some f) (hfn : Tryz.pinned.checked.prog.funcs[f]? = some fn) :
    true = Tryz.pinned.checked.prog.looks [] ∧ ∀ (j : Nat) t, fn.params[j]? = some t → Tryz.pinned.checked.prog.wantsStandIn t = false := by
  obtain rfl : f = 12 := Option.some.inj ((show Tryz.prog.funcNamed "sleuth/sleuthlaw36.SyntaxChecks" = some 12 by kernel_rfl).symm.trans hf) |>.symm
  obtain rfl : fn = Tryz.f12 := (Option.some.inj (Tryz.func12.symm.trans hfn)).symm
  refine ⟨by kernel_rfl, fun j t ht => ?_⟩
  rw [Tryz.params12] at ht
  have hm : t ∈ [36, 36] := by simpa using Array.mem_of_getElem? ht
  have hall : ([36, 36].all fun u => !Tryz.prog.wantsStandIn u) = true := by kernel_rfl
  exact (show Tryz.prog.wantsStandIn t = false by simpa using List.all_eq_true.1 hall t hm)
/-- THE TIED CARD -/
theorem checks_holds : Rows.SyntaxChecksCardSaid :=
  Claim7.holds_tied_plain_at .later [] _ _ _ _ checks_said (fun _ h => by cases h) (by kernel_rfl) (fun _ h => by cases h) syntaxChecks_row_tie rfl ⟨rfl, rfl⟩ (by kernel_rfl) rfl checks_plain (by kernel_rfl)
end Go.Proofs.YtfnaahkgegfbnaaGreatDoor
