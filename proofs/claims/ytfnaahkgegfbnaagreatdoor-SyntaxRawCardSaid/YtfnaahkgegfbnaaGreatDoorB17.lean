/- What all the cards of this seat share. -/
import Derived.Test.YtfnaahkgegfbnaaGreatDoorB16
import Derived.Test.YtfnaahkgegfbnaaGreatDoorCards
import Derived.Test.YtfnaahkgegfbnaaGreatDoorTie
import Derived.LaidMore
import Derived.Stop.Joined
import Derived.SevenTiedAt
set_option linter.unusedVariables false
set_option linter.unusedSimpArgs false
set_option maxRecDepth 100000
namespace Go.Proofs.YtfnaahkgegfbnaaGreatDoor
open Go.ChangeShapes Go.WideShapes Go.ChangeAt Go.WideMaps Go.WideElems Go.ChangeMaps Go.RowKit

theorem own : ownKnob Tryz.prog.godebug = none := by kernel_rfl
/-- the door's own heap meets the condition -/
theorem door_met (os : Os) (args : Array Value) : laidMetH Tryz.prog Rows.syntaxNamesRow.laid ((World.doorLaid Tryz.prog 106 os).forCall (fun _ _ => 0) ⟨#[], args, []⟩).memory :=
  laidMetH_of_parts3 (fuel := 8) (laidMet_of_run' 8 (by kernel_rfl) (by kernel_rfl)) (by kernel_rfl) (by kernel_rfl)
theorem opn_arg {H : Type} {enc : TypeId × Value → H} {W : World} {α : Type} {T : Ty α} {ok : α → Prop} {t : TypeId} {v : Value} {d : DataW H} {ps : List MemPlace} (hE : ∀ n, Opn H enc W T t ok n) (h : DataW.Trod enc Tryz.prog W 0 (fun _ => true) true t v d ps)
    (hw : (d.weights Tryz.prog t).all (· ≤ reachBytes) = true) : ∃ y, T.R (mOf W) y v.cells.toList ∧ ok y := by
  obtain ⟨fuel, h⟩ := h
  exact hE fuel _ _ h hw
end Go.Proofs.YtfnaahkgegfbnaaGreatDoor
