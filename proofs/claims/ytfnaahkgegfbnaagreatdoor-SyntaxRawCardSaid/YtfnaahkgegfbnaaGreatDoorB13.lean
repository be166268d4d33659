/- An array of an object at an index; slices that are made. -/
import Derived.Test.YtfnaahkgegfbnaaGreatDoorB11
set_option linter.unusedVariables false
set_option linter.unusedSimpArgs false
namespace Go.Proofs.YtfnaahkgegfbnaaGreatDoor

section
variable {P : Program} {n : Nat} {f : Fr} {w g : World} {m : Mem} {L : List Asr}

/-- an element of an array that lies at an object's beginning (cells of one value each): its place -/
theorem run_arr_addr {b : Nat} {i : Int} {k : IntKind} {l : Nat} {xs : List Int} {x : Int} {o : Oper} {t e : TypeId} {X Y : Operand} (ho : o.op = .indexAddr t X Y) (hu : P.underlying t = some (.array l e)) (hs : (P.info? e).map (·.size) = some 1)
    (hl : l = xs.length) (hX : evo n f X = .pointer (some ⟨b, 0, none⟩)) (hY : evo n f Y = .int k i) (h0 : decide (0 ≤ i) = true) (hx : xs[i.toNat]? = some x) :
    (execOp (evo n f) o).run P w = .ok (.value (.pointer (some ⟨b, i.toNat, none⟩))) w := by
  have h0 := of_decide_eq_true h0
  subst hl
  have hlt : i.toNat < xs.length := by
    rcases Nat.lt_or_ge i.toNat xs.length with h | h
    · exact h
    · rw [List.getElem?_eq_none h] at hx; cases hx
  have h3 : i < (xs.length : Int) := by omega
  have ha : (⟨b, 0, none⟩ : Addr).add i.toNat = ⟨b, i.toNat, none⟩ := by rw [addr_add _ _ rfl]; simp
  cases hin : P.info? e with
  | none => simp [hin] at hs
  | some inf =>
    simp only [hin, Option.map_some, Option.some.injEq] at hs
    simp [execOp, ho, hX, hY, Instr.indexAt, Instr.sureAddr, asIntOf, run_underlying hu, sizeOf, typeInfo, hin, hs, h0, h3, ha]
theorem Rd.cell_arr (h : Rd m L w) {q b : Nat} {t : TypeId} {k : IntKind} {xs : List Int} {x : Int} {j : Nat} (hi : L[q]? = some (.obj b t (xs.map (Value.int k)))) (hx : xs[j]? = some x) : w.cell? ⟨b, j, none⟩ = some (.int k x) :=
  h.cell hi (by rw [List.getElem?_map, hx]; rfl)
end
end Go.Proofs.YtfnaahkgegfbnaaGreatDoor
