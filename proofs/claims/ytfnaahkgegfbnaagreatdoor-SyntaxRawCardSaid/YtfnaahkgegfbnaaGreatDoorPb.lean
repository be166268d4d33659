/- Predicates: their size; equality; what is checked: what the written functions answer. -/
import Derived.Test.YtfnaahkgegfbnaaGreatDoorPa
import Derived.Test.YtfnaahkgegfbnaaGreatDoorDd
import Derived.Test.YtfnaahkgegfbnaaGreatDoorDh
set_option linter.unusedVariables false
set_option linter.unusedSimpArgs false
namespace Go.Proofs.YtfnaahkgegfbnaaGreatDoor

/-! ### size -/
mutual
def wP : GPred → Nat
  | ⟨_, f, k, v, args⟩ => 1 + f.length + k.length + v.Text.length + wL args
def wL : List GPred → Nat
  | [] => 0
  | p :: l => wP p + wL l
end
theorem wP_eq (p : GPred) : wP p = 1 + p.Field.length + p.Key.length + p.Value.Text.length + wL p.Args := by cases p; rfl
theorem wP_pos (p : GPred) : 1 ≤ wP p := by rw [wP_eq]; omega
theorem wL_drop {l : List GPred} {i : Nat} (h : i < l.length) : wL (l.drop i) = wP l[i] + wL (l.drop (i + 1)) := by
  rw [List.drop_eq_getElem_cons h]; rfl
theorem wL_len : ∀ l : List GPred, l.length ≤ wL l
  | [] => Nat.le_refl _
  | p :: l => by have := wL_len l; have := wP_pos p; simp only [wL, List.length_cons]; omega
theorem wL_mem : ∀ {l : List GPred} {p : GPred}, p ∈ l → wP p ≤ wL l
  | q :: l, p, h => by
    rcases List.mem_cons.1 h with rfl | h
    · simp only [wL]; omega
    · have := wL_mem h; simp only [wL]; omega
theorem wL_drop_le (l : List GPred) (i : Nat) : wL (l.drop i) ≤ wL l := by
  induction l generalizing i with
  | nil => simp
  | cons p l ih => cases i with
    | zero => simp
    | succ i => simp only [List.drop_succ_cons, wL]; have := ih i; omega
/-- induction on the size -/
theorem GPred.byW {C : GPred → Prop} (h : ∀ p, (∀ q, wP q < wP p → C q) → C p) : ∀ p, C p := by
  have key : ∀ n p, wP p < n → C p := by
    intro n
    induction n with
    | zero => intro p hp; omega
    | succ n ih => intro p hp; exact h p fun q hq => ih q (by omega)
  exact fun p => key _ p (Nat.lt_succ_self _)
theorem wP_arg {p q : GPred} (h : q ∈ p.Args) : wP q < wP p := by
  have := wL_mem h; rw [wP_eq p]; omega

/-! ### equality -/
def eqV (a b : GValue) : Bool := (a.Kind == b.Kind) && ((a.Text == b.Text) && ((a.Int == b.Int) && true))
mutual
def eqP : GPred → GPred → Bool
  | ⟨o, f, k, v, a⟩, ⟨o', f', k', v', a'⟩ => o == o' && (f == f' && (k == k' && (eqV v v' && eqL a a')))
def eqL : List GPred → List GPred → Bool
  | [], [] => true
  | p :: l, q :: m => eqP p q && eqL l m
  | _, _ => false
end
theorem eqP_eq (p q : GPred) : eqP p q = (p.Op == q.Op && (p.Field == q.Field && (p.Key == q.Key && (eqV p.Value q.Value && eqL p.Args q.Args)))) := by cases p; cases q; rfl
theorem eqL_len : ∀ {l m : List GPred}, l.length ≠ m.length → eqL l m = false
  | [], [], h => absurd rfl h
  | [], _ :: _, _ => rfl
  | _ :: _, [], _ => rfl
  | p :: l, q :: m, h => by
    simp only [eqL, eqL_len (l := l) (m := m) (by simpa using h), Bool.and_false]
theorem eqL_drop {l m : List GPred} {i : Nat} (h : i < l.length) (h' : i < m.length) : eqL (l.drop i) (m.drop i) = (eqP l[i] m[i] && eqL (l.drop (i + 1)) (m.drop (i + 1))) := by
  rw [List.drop_eq_getElem_cons h, List.drop_eq_getElem_cons h']; rfl
theorem eqV_refl (a : GValue) : eqV a a = true := by simp [eqV]
theorem eqP_refl : ∀ p : GPred, eqP p p = true := by
  refine GPred.byW fun p ih => ?_
  rw [eqP_eq, eqV_refl]
  have : eqL p.Args p.Args = true := by
    have key : ∀ l : List GPred, (∀ q ∈ l, eqP q q = true) → eqL l l = true := by
      intro l
      induction l with
      | nil => intro _; rfl
      | cons q l ihl => intro h; simp only [eqL, h q List.mem_cons_self, ihl fun x hx => h x (List.mem_cons_of_mem _ hx), Bool.and_self]
    exact key _ fun q hq => ih q (wP_arg hq)
  simp [this]
theorem bne_ofNat (a b : Nat) : (((a : Int)) != (b : Int)) = !(a == b) := by
  rw [Bool.eq_iff_iff]; simp [bne]; omega
/-- every list is short enough to be counted -/


theorem samePred_eq : ∀ p : GPred, ∀ (q : GPred) (k : Nat), wP p ≤ 9223372036854775806 → 4 * wP p ≤ k → l36_samePred k p q = some (eqP p q) := by
  refine GPred.byW fun p ih => ?_
  intro q k hc hk
  have hw := wP_eq p
  have loop : ∀ (d i k : Nat), p.Args.length = q.Args.length → i + d = p.Args.length → 4 * wL (p.Args.drop i) + 1 ≤ k → l36_samePred_l2 k p q (i : Int) = some (eqL (p.Args.drop i) (q.Args.drop i)) := by
    intro d
    induction d with
    | zero =>
      intro i k hl hi hk
      obtain ⟨k, rfl⟩ : ∃ m, k = m + 1 := ⟨k - 1, by omega⟩
      rw [l36_samePred_l2, if_neg (by simp; omega), List.drop_eq_nil_of_le (by omega), List.drop_eq_nil_of_le (by omega)]; rfl
    | succ d ihd =>
      intro i k hl hi hk
      obtain ⟨k, rfl⟩ : ∃ m, k = m + 1 := ⟨k - 1, by omega⟩
      have h1 : i < p.Args.length := by omega
      have h2 : i < q.Args.length := by omega
      have hd := wL_drop h1
      have hm : wP p.Args[i] < wP p := wP_arg (List.getElem_mem h1)
      have hpos := wP_pos p.Args[i]
      have hlen := wL_len p.Args
      rw [l36_samePred_l2, if_pos (by simp; omega), chk_pos (dec_nonneg i), toNat_cast, List.getElem?_eq_getElem h1, Option.bind_some, chk_pos (dec_nonneg i), List.getElem?_eq_getElem h2, Option.bind_some,
        ih _ hm _ k (by omega) (by omega), Option.bind_some, w64_succ (by omega), ihd (i + 1) k hl (by omega) (by omega), eqL_drop h1 h2]
      cases eqP p.Args[i] q.Args[i] <;> simp
  obtain ⟨k, rfl⟩ : ∃ m, k = m + 3 := ⟨k - 3, by omega⟩
  have j1 : l36_samePred_j1 (k + 2) p q true = some false := by rw [l36_samePred_j1, if_pos rfl]
  rw [l36_samePred, j1, eqP_eq]
  have hv : ((p.Value.Kind == q.Value.Kind) && ((p.Value.Text == q.Value.Text) && ((p.Value.Int == q.Value.Int) && true))) = eqV p.Value q.Value := rfl
  have ho : (p.Op != q.Op) = !(p.Op == q.Op) := rfl
  rw [hv, ho, bne_ofNat, l36_samePred_j1]
  by_cases hl : p.Args.length = q.Args.length
  · have := loop p.Args.length 0 (k + 1) hl (by omega) (by rw [List.drop_zero]; omega)
    simp only [List.drop_zero] at this
    have h0 : ((0 : Nat) : Int) = 0 := rfl
    rw [h0] at this
    rw [this, hl]
    cases (p.Op == q.Op) <;> cases (p.Field == q.Field) <;> cases (p.Key == q.Key) <;> cases eqV p.Value q.Value <;> simp
  · have hb : (p.Args.length == q.Args.length) = false := by simpa using hl
    rw [eqL_len hl, hb]
    cases (p.Op == q.Op) <;> cases (p.Field == q.Field) <;> cases (p.Key == q.Key) <;> cases eqV p.Value q.Value <;> simp

theorem EqualPred_eq : ∀ p : GPred, ∀ (q : GPred) (k : Nat), wP p ≤ 9223372036854775806 → 4 * wP p ≤ k → syntax_EqualPred k p q = some (eqP p q) := by
  refine GPred.byW fun p ih => ?_
  intro q k hc hk
  have hw := wP_eq p
  have loop : ∀ (d i k : Nat), p.Args.length = q.Args.length → i + d = p.Args.length → 4 * wL (p.Args.drop i) + 1 ≤ k → slices_EqualFunc_api_Pred_l1 k p.Args q.Args (i : Int) = some (eqL (p.Args.drop i) (q.Args.drop i)) := by
    intro d
    induction d with
    | zero =>
      intro i k hl hi hk
      obtain ⟨k, rfl⟩ : ∃ m, k = m + 1 := ⟨k - 1, by omega⟩
      rw [slices_EqualFunc_api_Pred_l1, if_neg (by simp; omega), List.drop_eq_nil_of_le (by omega), List.drop_eq_nil_of_le (by omega)]; rfl
    | succ d ihd =>
      intro i k hl hi hk
      obtain ⟨k, rfl⟩ : ∃ m, k = m + 1 := ⟨k - 1, by omega⟩
      have h1 : i < p.Args.length := by omega
      have h2 : i < q.Args.length := by omega
      have hd := wL_drop h1
      have hm : wP p.Args[i] < wP p := wP_arg (List.getElem_mem h1)
      have hpos := wP_pos p.Args[i]
      have hlen := wL_len p.Args
      rw [slices_EqualFunc_api_Pred_l1, if_pos (by simp; omega), chk_pos (dec_nonneg i), toNat_cast, List.getElem?_eq_getElem h1, Option.bind_some, chk_pos (dec_nonneg i), List.getElem?_eq_getElem h2, Option.bind_some,
        ih _ hm _ k (by omega) (by omega), Option.bind_some, w64_succ (by omega), ihd (i + 1) k hl (by omega) (by omega), eqL_drop h1 h2]
      cases eqP p.Args[i] q.Args[i] <;> simp
  obtain ⟨k, rfl⟩ : ∃ m, k = m + 3 := ⟨k - 3, by omega⟩
  rw [syntax_EqualPred, eqP_eq]
  have hv : ((p.Value.Kind == q.Value.Kind) && ((p.Value.Text == q.Value.Text) && ((p.Value.Int == q.Value.Int) && true))) = eqV p.Value q.Value := rfl
  rw [hv, slices_EqualFunc_api_Pred, bne_ofNat]
  by_cases hl : p.Args.length = q.Args.length
  · have := loop p.Args.length 0 (k + 1) hl (by omega) (by rw [List.drop_zero]; omega)
    simp only [List.drop_zero] at this
    have h0 : ((0 : Nat) : Int) = 0 := rfl
    rw [h0] at this
    rw [this, hl]
    cases (p.Op == q.Op) <;> cases (p.Field == q.Field) <;> cases (p.Key == q.Key) <;> cases eqV p.Value q.Value <;> simp
  · have hb : (p.Args.length == q.Args.length) = false := by simpa using hl
    rw [eqL_len hl, hb]
    cases (p.Op == q.Op) <;> cases (p.Field == q.Field) <;> cases (p.Key == q.Key) <;> cases eqV p.Value q.Value <;> simp
end Go.Proofs.YtfnaahkgegfbnaaGreatDoor
