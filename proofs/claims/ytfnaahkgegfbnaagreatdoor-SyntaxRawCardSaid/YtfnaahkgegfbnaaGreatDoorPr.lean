/- The law of raw predicates, on plain data. -/
import Derived.Test.YtfnaahkgegfbnaaGreatDoorPg
import Derived.Test.YtfnaahkgegfbnaaGreatDoorPn
import Derived.Test.YtfnaahkgegfbnaaGreatDoorDn
import Derived.Test.YtfnaahkgegfbnaaGreatDoorDu
set_option linter.unusedVariables false
set_option linter.unusedSimpArgs false
namespace Go.Proofs.YtfnaahkgegfbnaaGreatDoor

def smB : Nat → GPred → Bool
  | 0, _ => false
  | n + 1, p => decide (p.Args.length ≤ 4) && (decide (p.Field.length + p.Key.length + p.Value.Text.length ≤ 80) && p.Args.all (smB n))
theorem all_drop {α : Type} {f : α → Bool} {l : List α} {i : Nat} (h : i < l.length) : (l.drop i).all f = (f l[i] && (l.drop (i + 1)).all f) := by rw [List.drop_eq_getElem_cons h]; rfl
theorem small_eq : ∀ (n : Nat) (p : GPred) (k : Nat), n ≤ 100 → okGPred p → 10 * n + 10 ≤ k → l36_smallPred k p (n : Int) = some (smB n p)
  | 0, p, k, _, _, hk => by
    obtain ⟨k, rfl⟩ : ∃ m, k = m + 2 := ⟨k - 2, by omega⟩
    rw [l36_smallPred, if_pos (by rfl), l36_smallPred_j1, if_pos rfl]; rfl
  | n + 1, p, k, hn, hp, hk => by
    obtain ⟨k, rfl⟩ : ∃ m, k = m + 2 := ⟨k - 2, by omega⟩
    cases hp with
    | mk _ h0 h1 h2 h3 h4 h5 =>
    have l1 : p.Field.length ≤ 140737488351232 := h1
    have l2 : p.Key.length ≤ 140737488351232 := h2
    have l3 : p.Value.Text.length ≤ 140737488351232 := h3.2.1
    have e0 : (((n + 1 : Nat) : Int) == 0) = false := by simp; omega
    have e1 : w64 ((p.Field.length : Int) + (p.Key.length : Int)) = ((p.Field.length + p.Key.length : Nat) : Int) := by rw [w64_id (by omega) (by omega)]; omega
    have e2 : w64 (((p.Field.length + p.Key.length : Nat) : Int) + (p.Value.Text.length : Int)) = ((p.Field.length + p.Key.length + p.Value.Text.length : Nat) : Int) := by rw [w64_id (by omega) (by omega)]; omega
    have e3 : decide (((p.Args.length : Nat) : Int) > 4) = !decide (p.Args.length ≤ 4) := by rw [Bool.eq_iff_iff]; simp; omega
    have e4 : decide (((p.Field.length + p.Key.length + p.Value.Text.length : Nat) : Int) > 80) = !decide (p.Field.length + p.Key.length + p.Value.Text.length ≤ 80) := by rw [Bool.eq_iff_iff]; simp; omega
    have loop : p.Args.length ≤ 4 → ∀ (d i k : Nat), i + d = p.Args.length → 10 * n + 10 + d + 1 ≤ k → l36_smallPred_l2 k p ((n + 1 : Nat) : Int) (i : Int) = some ((p.Args.drop i).all (smB n)) := by
      intro hl d
      induction d with
      | zero =>
        intro i k hi hk
        obtain ⟨k, rfl⟩ : ∃ m, k = m + 1 := ⟨k - 1, by omega⟩
        rw [l36_smallPred_l2, if_neg (by simp; omega), List.drop_eq_nil_of_le (by omega)]; rfl
      | succ d ihd =>
        intro i k hi hk
        obtain ⟨k, rfl⟩ : ∃ m, k = m + 1 := ⟨k - 1, by omega⟩
        have h1 : i < p.Args.length := by omega
        have ew : w64 (((n + 1 : Nat) : Int) - 1) = ((n : Nat) : Int) := by rw [w64_id (by omega) (by omega)]; omega
        rw [l36_smallPred_l2, if_pos (by simp; omega), chk_pos (dec_nonneg i), toNat_cast, List.getElem?_eq_getElem h1, Option.bind_some, ew, small_eq n _ k (by omega) (h5 _ (List.getElem_mem h1)) (by omega), Option.bind_some, w64_succ (by omega), ihd (i + 1) k (by omega) (by omega), all_drop h1]
        cases smB n p.Args[i] <;> simp
    rw [l36_smallPred, e0, e1, e2, e3, e4, l36_smallPred_j1, l36_smallPred_j1]
    unfold smB
    by_cases hl : p.Args.length ≤ 4
    · have hlp := loop hl p.Args.length 0 k (by omega) (by omega)
      have hlp' : l36_smallPred_l2 k p ((n + 1 : Nat) : Int) 0 = some (p.Args.all (smB n)) := by simpa using hlp
      rw [hlp', decide_eq_true hl]
      cases decide (p.Field.length + p.Key.length + p.Value.Text.length ≤ 80) <;> simp
    · rw [decide_eq_false hl]
      simp
theorem smB_wL {n c : Nat} (h : ∀ p, smB n p = true → wP p ≤ c) : ∀ l : List GPred, l.all (smB n) = true → wL l ≤ c * l.length
  | [], _ => Nat.le_refl _
  | p :: l, hl => by
    rw [List.all_cons, Bool.and_eq_true] at hl
    have := h p hl.1
    have := smB_wL h l hl.2
    simp only [wL, List.length_cons, Nat.mul_succ]
    omega
theorem smB_w1 {p : GPred} (h : smB 1 p = true) : wP p ≤ 81 := by
  unfold smB at h
  rw [Bool.and_eq_true, Bool.and_eq_true] at h
  have h1 := of_decide_eq_true h.2.1
  have h2 : p.Args = [] := by
    cases ha : p.Args with
    | nil => rfl
    | cons q l => rw [ha] at h; exact absurd h.2.2 (by simp [smB])
  rw [wP_eq, h2]
  simp only [wL]
  omega
theorem smB_w2 {p : GPred} (h : smB 2 p = true) : wP p ≤ 500 := by
  unfold smB at h
  rw [Bool.and_eq_true, Bool.and_eq_true] at h
  have h0 := of_decide_eq_true h.1
  have h1 := of_decide_eq_true h.2.1
  have h2 := smB_wL (fun p h => smB_w1 h) p.Args h.2.2
  rw [wP_eq]
  omega
theorem raw_true (p q : GPred) (hp : okGPred p) (hq : okGPred q) : l36_SyntaxRaw 100000 p q = some true := by
  unfold l36_SyntaxRaw
  have s1 : l36_smallPred 100000 p 2 = some (smB 2 p) := small_eq 2 p 100000 (by omega) hp (by omega)
  have s2 : l36_smallPred 100000 q 2 = some (smB 2 q) := small_eq 2 q 100000 (by omega) hq (by omega)
  have hk : l36_SyntaxRaw_j1 100000 p q true = some true := by
    unfold l36_SyntaxRaw_j1
    rw [if_pos rfl, known_true]; rfl
  rw [known_true, Option.bind_some, s1, s2, if_neg (by simp), Option.bind_some, Option.bind_some]
  cases h1 : smB 2 p with
  | false => rw [if_pos (by rfl)]; exact hk
  | true =>
  rw [if_neg (by simp)]
  cases h2 : smB 2 q with
  | false => exact hk
  | true =>
  have w1 := smB_w2 h1
  have w2 := smB_w2 h2
  have e : ∀ e : Int, (e != e) = false := fun e => by simp
  unfold l36_SyntaxRaw_j1
  rw [if_neg (by simp), PrintPred_eq (by omega) (by omega), Option.bind_some, checkPred_eq (by omega) (by omega), Option.bind_some, CheckPred_eq (by omega) (by omega), Option.bind_some, EqualPred_eq p q _ (by omega) (by omega), Option.bind_some,
    samePred_eq p q _ (by omega) (by omega), Option.bind_some, EqualPred_eq p p _ (by omega) (by omega), Option.bind_some, eqP_refl]
  cases hc : (chkP p != 0) with
  | true =>
    simp only [if_true, e, Bool.false_eq_true, if_false, beq_self_eq_true, Bool.not_true]
    unfold l36_SyntaxRaw_j2
    rw [if_neg (by simp), hc, if_pos rfl]
    rfl
  | false =>
    have h0 : chkP p = 0 := by simpa using hc
    simp only [Bool.false_eq_true, if_false, beq_self_eq_true, Bool.not_true, h0, e]
    unfold l36_SyntaxRaw_j2
    rw [if_neg (by simp)]
    simp only [bne_self_eq_false, Bool.false_eq_true, if_false, beq_self_eq_true, if_true]
    rw [lpred_eq p _ (chkP_ok h0) (by omega) (by omega), Option.bind_some]
    simp
end Go.Proofs.YtfnaahkgegfbnaaGreatDoor
