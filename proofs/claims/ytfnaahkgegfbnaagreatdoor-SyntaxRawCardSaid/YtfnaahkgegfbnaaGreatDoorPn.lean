/- The law of names, on plain data: for every string and every number the written function answers true. -/
import Derived.Test.YtfnaahkgegfbnaaGreatDoorPa
import Derived.Test.YtfnaahkgegfbnaaGreatDoorDp
set_option linter.unusedVariables false
set_option linter.unusedSimpArgs false
namespace Go.Proofs.YtfnaahkgegfbnaaGreatDoor

/-- the examples of the chapter -/
theorem known_true : l36_known 100000 = some true := by kernel_rfl

theorem mn80 (s : Str) : mn (s.length : Int) 80 = ((min s.length 80 : Nat) : Int) := by
  unfold mn
  split <;> omega
theorem tmod30 {n : Int} (h0 : 0 ≤ n) (h1 : n < 256) : ∃ i : Nat, i < 30 ∧ (w64 n).tmod 30 = (i : Int) := by
  obtain ⟨m, rfl⟩ : ∃ m : Nat, n = (m : Int) := ⟨n.toNat, by omega⟩
  rw [w64_nat (by omega)]
  exact ⟨m % 30, Nat.mod_lt _ (by omega), by rw [Int.tmod_eq_emod_of_nonneg (by omega)]; rfl⟩
theorem names_true (s : Str) (n : Int) (h0 : 0 ≤ n) (h1 : n < 256) : l36_SyntaxNames 100000 s n = some true := by
  unfold l36_SyntaxNames
  have h30 : resK.length = 30 := rfl
  obtain ⟨i, hi, hm⟩ := tmod30 h0 h1
  have hi' : i < resK.length := by omega
  rw [mn80, chk_pos (by simp; omega), lreserved_eq, Option.bind_some, Option.bind_some, chk_pos (by decide)]
  have e30 : ((resK.length : Nat) : Int) = 30 := rfl
  rw [e30, hm, chk_pos (dec_nonneg i), toNat_cast, toNat_cast, List.getElem?_eq_getElem hi', Option.bind_some, known_true, Option.bind_some, if_pos rfl]
  have ht : (List.take (min s.length 80) s).length ≤ 80 := by rw [List.length_take]; omega
  generalize List.take (min s.length 80) s = t at ht ⊢
  have hx : ∀ x ∈ resK, x.length ≤ 80 := by decide +kernel
  have hxi := hx _ (List.getElem_mem hi')
  have hv : varB resK[i] = false := by
    unfold varB
    have : resK.contains resK[i] = true := List.contains_iff_mem.2 (List.getElem_mem hi')
    rw [this]
    simp
  generalize resK[i] = x at hxi hv ⊢
  rw [IsVariable_eq (by omega) (by omega), Option.bind_some, lvariable_eq (by omega) (by omega) (by omega), Option.bind_some, if_pos (by simp), IsField_eq (by omega) (by omega), Option.bind_some, lfield_eq (by omega) (by omega) (by omega), Option.bind_some, if_pos (by simp),
    IsVariable_eq (by omega) (by omega), Option.bind_some, hv, if_pos (by simp), IsField_eq (by omega) (by omega), Option.bind_some, lfield_eq (by omega) (by omega) (by omega), Option.bind_some]
  simp
end Go.Proofs.YtfnaahkgegfbnaaGreatDoor
