/- Texts joined by a program of this session: Pq, B17. -/
import Derived.Test.YtfnaahkgegfbnaaGreatDoorZ5
import Derived.Test.YtfnaahkgegfbnaaGreatDoorCards
import Derived.Test.YtfnaahkgegfbnaaGreatDoorTie
import Derived.LaidMore
import Derived.Stop.Joined
import Derived.SevenTiedAt
set_option linter.unusedVariables false
set_option linter.unusedSimpArgs false
set_option linter.unusedSectionVars false
namespace Go.Proofs.YtfnaahkgegfbnaaGreatDoor
def lenE (q : GQuery) : Int := if decide ((((txt0 (tkQ q)).length : Nat) : Int) > 4096) = true then 5 else 0
def chkQ (q : GQuery) : Int := if (patE q != 0) = true then patE q else if (resE q != 0) = true then resE q else lenE q
theorem tkQ_cons (q : GQuery) (h : q.Variables ≠ []) : ∃ r, tkQ q = tW w_find :: r := by
  unfold tkQ
  cases hv : q.Variables with
  | nil => exact absurd hv h
  | cons v l => exact ⟨_, rfl⟩
theorem puts_q {q : GQuery} (hq : QOk q) : (PW.o.puts (tkQ q)).w.out = toI (txt0 (tkQ q)) := by
  obtain ⟨r, h⟩ := tkQ_cons q hq.ne
  have hb : (PW.o.puts (tkQ q)).b = txt0 (tkQ q) := by rw [h]; exact puts_o (by decide)
  rw [← hb]; rfl
section
variable {q : GQuery} (hb : Bnd q)
include hb
theorem sCheck_eq {k : Nat} (hk : 60710 ≤ k) : syntax_Check k q = some (chkQ q) := by
  unfold syntax_Check chkQ
  rw [checkPattern_eq hb (by omega), Option.bind_some, checkResults_eq hb (by omega), Option.bind_some]
  cases h1 : (patE q != 0) with
  | true => rfl
  | false =>
    cases h2 : (resE q != 0) with
    | true => rfl
    | false =>
      have hq := QOk.of (q := q) (by simpa using h1) (by simpa using h2)
      have e : (SWriter.mk [] (SToken.mk 0 0 w_0 0)) = PW.o.w := rfl
      simp only [Bool.false_eq_true, if_false]
      rw [e, query_w hq hb hk, Option.bind_some, puts_q hq, toI_len]
      unfold lenE
      split <;> rfl
theorem sPrint_eq {k : Nat} (hk : 60710 ≤ k) : syntax_Print k q = some (if (chkQ q != 0) = true then (w_0, chkQ q) else (txt0 (tkQ q), 0)) := by
  unfold syntax_Print
  rw [sCheck_eq hb hk, Option.bind_some]
  cases h : (chkQ q != 0) with
  | true => rfl
  | false =>
    have h0 : chkQ q = 0 := by simpa using h
    have hq : QOk q := by
      unfold chkQ at h0
      split at h0
      · rename_i h1; rw [h0] at h1; cases h1
      · rename_i h1
        split at h0
        · rename_i h2; rw [h0] at h2; cases h2
        · rename_i h2; exact QOk.of (by simpa using h1) (by simpa using h2)
    have e : (SWriter.mk [] (SToken.mk 0 0 w_0 0)) = PW.o.w := rfl
    simp only [Bool.false_eq_true, if_false]
    rw [e, query_w hq hb hk, Option.bind_some, puts_q hq, ofI]
variable (os : okI .i64 q.Slots.From ∧ okI .i64 q.Slots.To) (oc : ∀ x ∈ q.Compute, okAgg x)
include os
def orE (e : Int) (q : GQuery) : Int := if (e != 0) = true then e else lenE q
theorem lres4 (H : resO q q.Order = 0 → QOk q) {k : Nat} (hk : 64200 ≤ k) : l36_check_l4 k q 0 = some (orE (resO q q.Order) q) := by
  have hl := hb.o
  refine loopA q.Order (fun k (_ : Unit) i => l36_check_l4 k q i) (fun _ l => orE (resO q l) q) (fun _ l => resO q l = 0 → QOk q) 63800 (fun k i x _ hk hx hI ih => ?_) (fun k _ hk hI => ?_) k () (by omega) H
  · simp only [l36_check_l4, lt_get hx, if_true, dec_nonneg, chk_true, toNat_cast, hx, Option.bind_some, w64_get (by omega) hx, resO] at hI ⊢
    cases h1 : decide (x.Index < 0) with
    | true => rfl
    | false =>
      cases h2 : decide (x.Index > 1048576) with
      | true => rfl
      | false =>
        rw [h1, h2] at hI
        simp only [Bool.false_eq_true, if_false] at hI ⊢
        exact ih () hI
  · show l36_check_l4 (k + 1) q _ = _
    rw [l36_check_l4, nlt_len, if_neg (by simp)]
    simp only [resO] at hI ⊢
    cases h1 : decide (q.Limit < 0) with
    | true => rfl
    | false =>
      cases h2 : decide (q.Limit > 1048576) with
      | true => rfl
      | false =>
        rw [h1, h2] at hI
        have hq := hI rfl
        simp only [Bool.false_eq_true, if_false]
        rw [query_eq hq hb os hk, Option.bind_some]
        unfold orE lenE
        split <;> rfl
include oc
theorem lres3 (H : resC (resO q q.Order) q.Compute = 0 → QOk q) {k : Nat} (hk : 64600 ≤ k) : l36_check_l3 k q 0 = some (orE (resC (resO q q.Order) q.Compute) q) := by
  have hl := hb.c
  refine loopA q.Compute (fun k (_ : Unit) i => l36_check_l3 k q i) (fun _ l => orE (resC (resO q q.Order) l) q) (fun _ l => resC (resO q q.Order) l = 0 → QOk q) 64200 (fun k i x _ hk hx hI ih => ?_) (fun k _ hk hI => ?_) k () (by omega) H
  · simp only [l36_check_l3, lt_get hx, if_true, dec_nonneg, chk_true, toNat_cast, hx, Option.bind_some, w64_get (by omega) hx, checkAggregate_eq (hb.cs _ (mem_get hx)) (oc _ (mem_get hx)) (by omega : 400 ≤ k), resC] at hI ⊢
    cases h1 : (aggE x != 0) with
    | true =>
      unfold orE
      rw [if_pos rfl, if_pos rfl, h1]; rfl
    | false =>
      rw [h1] at hI
      simp only [Bool.false_eq_true, if_false] at hI ⊢
      exact ih () hI
  · show l36_check_l3 (k + 1) q _ = _
    rw [l36_check_l3, nlt_len, if_neg (by simp), lres4 hb os hI hk]; rfl
theorem lres2 (H : resG (resC (resO q q.Order) q.Compute) q.Group = 0 → QOk q) {k : Nat} (hk : 65000 ≤ k) : l36_check_l2 k q 0 = some (orE (resG (resC (resO q q.Order) q.Compute) q.Group) q) := by
  have hl := hb.g
  refine loopA q.Group (fun k (_ : Unit) i => l36_check_l2 k q i) (fun _ l => orE (resG (resC (resO q q.Order) q.Compute) l) q) (fun _ l => resG (resC (resO q q.Order) q.Compute) l = 0 → QOk q) 64600 (fun k i x _ hk hx hI ih => ?_) (fun k _ hk hI => ?_) k () (by omega) H
  · simp only [l36_check_l2, lt_get hx, if_true, dec_nonneg, chk_true, toNat_cast, hx, Option.bind_some, w64_get (by omega) hx, checkColumn_eq (hb.gs _ (mem_get hx)) (by omega : 400 ≤ k), resG] at hI ⊢
    cases h1 : colB x with
    | false => rfl
    | true =>
      rw [h1] at hI
      simp only [Bool.not_true, Bool.false_eq_true, if_false] at hI ⊢
      exact ih () hI
  · show l36_check_l2 (k + 1) q _ = _
    rw [l36_check_l2, nlt_len, if_neg (by simp), lres3 hb os oc hI hk]; rfl
theorem lcheck_eq {k : Nat} (hk : 65000 ≤ k) : l36_check k q = some (chkQ q) := by
  unfold l36_check l36_check_j1 chkQ
  rw [checkFirst_eq hb (by omega), Option.bind_some]
  cases h1 : (patE q != 0) with
  | true => rfl
  | false =>
    simp only [Bool.false_eq_true, if_false]
    have hQ : resE q = 0 → QOk q := fun h => QOk.of (by simpa using h1) h
    unfold resE slotB at hQ ⊢
    cases h2 : decide (q.Slots.From < 0) <;> cases h3 : decide (q.Slots.From > 1048576) <;> cases h4 : decide (q.Slots.To < 0) <;> cases h5 : decide (q.Slots.To > 1048576) <;> try rfl
    rw [h2, h3, h4, h5] at hQ
    simp only [Bool.or_self, Bool.false_eq_true, if_false] at hQ ⊢
    rw [lres2 hb os oc hQ hk]
    rfl
end
def sm6 (m : Int) : List GAggregate → Bool
  | [] => decide (m ≤ 80)
  | x :: l => sm6 (mx (mx (mx m ((x.Column.Var.length : Nat) : Int)) ((x.Column.Field.length : Nat) : Int)) ((x.Column.Key.length : Nat) : Int)) l
def sm5 (q : GQuery) (m : Int) : List GColumn → Bool
  | [] => sm6 m q.Compute
  | x :: l => sm5 q (mx (mx (mx m ((x.Var.length : Nat) : Int)) ((x.Field.length : Nat) : Int)) ((x.Key.length : Nat) : Int)) l
def sm4 (q : GQuery) (m : Int) : List GAbsence → Bool
  | [] => sm5 q m q.Group
  | x :: l => smB 1 x.Variable.Where && sm4 q (mx (mx m ((x.Variable.Name.length : Nat) : Int)) ((x.Other.length : Nat) : Int)) l
def sm3 (q : GQuery) (m : Int) : List GRelation → Bool
  | [] => sm4 q m q.Absences
  | x :: l => sm3 q (mx (mx m ((x.A.length : Nat) : Int)) ((x.B.length : Nat) : Int)) l
def sm2 (q : GQuery) (m : Int) : List GVariable → Bool
  | [] => sm3 q m q.Relations
  | x :: l => smB 1 x.Where && sm2 q (mx m ((x.Name.length : Nat) : Int)) l
def smQ (q : GQuery) : Bool := (decide (q.Variables.length ≤ 4) && (decide (q.Relations.length ≤ 4) && (decide (q.Absences.length ≤ 4) && (decide (q.Group.length ≤ 4) && (decide (q.Compute.length ≤ 4) && decide (q.Order.length ≤ 4)))))) && sm2 q 0 q.Variables
theorem mx_le {a b c : Int} (h : mx a b ≤ c) : a ≤ c ∧ b ≤ c := by
  unfold mx at h
  split at h <;> omega
theorem sm6_b : ∀ {l : List GAggregate} {m : Int}, sm6 m l = true → m ≤ 80 ∧ ∀ x ∈ l, colL x.Column
  | [], m, h => ⟨by simpa [sm6] using h, fun x hx => by cases hx⟩
  | y :: l, m, h => by
    obtain ⟨i1, i2⟩ := sm6_b (l := l) h
    obtain ⟨i1, k3⟩ := mx_le i1
    obtain ⟨i1, k2⟩ := mx_le i1
    obtain ⟨i1, k1⟩ := mx_le i1
    refine ⟨i1, fun x hx => ?_⟩
    rcases List.mem_cons.1 hx with rfl | hx
    · exact ⟨by omega, by omega, by omega⟩
    · exact i2 x hx
theorem sm5_b {q : GQuery} : ∀ {l : List GColumn} {m : Int}, sm5 q m l = true → (m ≤ 80 ∧ ∀ x ∈ l, colL x) ∧ ∀ x ∈ q.Compute, colL x.Column
  | [], m, h => by
    obtain ⟨i1, i2⟩ := sm6_b (l := q.Compute) h
    exact ⟨⟨i1, fun x hx => by cases hx⟩, i2⟩
  | y :: l, m, h => by
    obtain ⟨⟨i1, i2⟩, i3⟩ := sm5_b (l := l) h
    obtain ⟨i1, k3⟩ := mx_le i1
    obtain ⟨i1, k2⟩ := mx_le i1
    obtain ⟨i1, k1⟩ := mx_le i1
    refine ⟨⟨i1, fun x hx => ?_⟩, i3⟩
    rcases List.mem_cons.1 hx with rfl | hx
    · exact ⟨by omega, by omega, by omega⟩
    · exact i2 x hx
theorem sm4_b {q : GQuery} : ∀ {l : List GAbsence} {m : Int}, sm4 q m l = true → (m ≤ 80 ∧ ∀ x ∈ l, x.Variable.Name.length ≤ 300 ∧ wP x.Variable.Where ≤ 1000 ∧ x.Other.length ≤ 300) ∧ (∀ x ∈ q.Group, colL x) ∧ ∀ x ∈ q.Compute, colL x.Column
  | [], m, h => by
    obtain ⟨⟨i1, i2⟩, i3⟩ := sm5_b (l := q.Group) h
    exact ⟨⟨i1, fun x hx => by cases hx⟩, i2, i3⟩
  | y :: l, m, h => by
    rw [sm4, Bool.and_eq_true] at h
    have hw := smB_w1 h.1
    obtain ⟨⟨i1, i2⟩, i3⟩ := sm4_b (l := l) h.2
    obtain ⟨i1, k2⟩ := mx_le i1
    obtain ⟨i1, k1⟩ := mx_le i1
    refine ⟨⟨i1, fun x hx => ?_⟩, i3⟩
    rcases List.mem_cons.1 hx with rfl | hx
    · exact ⟨by omega, by omega, by omega⟩
    · exact i2 x hx
theorem sm3_b {q : GQuery} : ∀ {l : List GRelation} {m : Int}, sm3 q m l = true → (m ≤ 80 ∧ ∀ x ∈ l, x.A.length ≤ 300 ∧ x.B.length ≤ 300) ∧ (∀ x ∈ q.Absences, x.Variable.Name.length ≤ 300 ∧ wP x.Variable.Where ≤ 1000 ∧ x.Other.length ≤ 300) ∧ (∀ x ∈ q.Group, colL x) ∧ ∀ x ∈ q.Compute, colL x.Column
  | [], m, h => by
    obtain ⟨⟨i1, i2⟩, i3⟩ := sm4_b (l := q.Absences) h
    exact ⟨⟨i1, fun x hx => by cases hx⟩, i2, i3⟩
  | y :: l, m, h => by
    obtain ⟨⟨i1, i2⟩, i3⟩ := sm3_b (l := l) h
    obtain ⟨i1, k2⟩ := mx_le i1
    obtain ⟨i1, k1⟩ := mx_le i1
    refine ⟨⟨i1, fun x hx => ?_⟩, i3⟩
    rcases List.mem_cons.1 hx with rfl | hx
    · exact ⟨by omega, by omega⟩
    · exact i2 x hx
theorem sm2_b {q : GQuery} : ∀ {l : List GVariable} {m : Int}, sm2 q m l = true → (m ≤ 80 ∧ ∀ x ∈ l, x.Name.length ≤ 300 ∧ wP x.Where ≤ 1000) ∧ (∀ x ∈ q.Relations, x.A.length ≤ 300 ∧ x.B.length ≤ 300) ∧ (∀ x ∈ q.Absences, x.Variable.Name.length ≤ 300 ∧ wP x.Variable.Where ≤ 1000 ∧ x.Other.length ≤ 300) ∧ (∀ x ∈ q.Group, colL x) ∧ ∀ x ∈ q.Compute, colL x.Column
  | [], m, h => by
    obtain ⟨⟨i1, i2⟩, i3⟩ := sm3_b (l := q.Relations) h
    exact ⟨⟨i1, fun x hx => by cases hx⟩, i2, i3⟩
  | y :: l, m, h => by
    rw [sm2, Bool.and_eq_true] at h
    have hw := smB_w1 h.1
    obtain ⟨⟨i1, i2⟩, i3⟩ := sm2_b (l := l) h.2
    obtain ⟨i1, k1⟩ := mx_le i1
    refine ⟨⟨i1, fun x hx => ?_⟩, i3⟩
    rcases List.mem_cons.1 hx with rfl | hx
    · exact ⟨by omega, by omega⟩
    · exact i2 x hx
theorem smQ_b {q : GQuery} (h : smQ q = true) : Bnd q := by
  unfold smQ at h
  simp only [Bool.and_eq_true, decide_eq_true_eq] at h
  obtain ⟨⟨h1, h2, h3, h4, h5, h6⟩, h⟩ := h
  obtain ⟨⟨_, i1⟩, i2, i3, i4, i5⟩ := sm2_b h
  exact ⟨by omega, by omega, by omega, by omega, by omega, by omega, i1, i2, i3, i4, i5⟩
structure okQ (q : GQuery) : Prop where
  vs : ∀ x ∈ q.Variables, okGPred x.Where
  ab : ∀ x ∈ q.Absences, okGPred x.Variable.Where
  sl : okI .i64 q.Slots.From ∧ okI .i64 q.Slots.To
  cs : ∀ x ∈ q.Compute, okAgg x
theorem okQ.of_ {q : GQuery} (h : okGQuery q) : okQ q :=
  ⟨fun x hx => (h.1.1 x hx).2, fun x hx => (h.2.2.1.1 x hx).1.2, h.2.2.2.1, fun x hx => (h.2.2.2.2.2.1.1 x hx).2.2⟩
theorem dec_gt4 (n : Nat) : decide ((n : Int) > 4) = !decide (n ≤ 4) := by rw [Bool.eq_iff_iff]; simp; omega
section
variable {q : GQuery} (ok : okQ q)
theorem small6 (h : q.Compute.length ≤ 4) {k : Nat} {m : Int} (hk : 10 ≤ k) : l36_small_l6 k q m 0 = some (sm6 m q.Compute) := by
  refine loopA q.Compute (fun k m i => l36_small_l6 k q m i) sm6 (fun _ _ => True) 0 (fun k i x m hk hx hI ih => ?_) (fun k m hk hI => ?_) k m (by omega) trivial
  · simp only [l36_small_l6, lt_get hx, if_true, dec_nonneg, chk_true, toNat_cast, hx, Option.bind_some, w64_get (by omega) hx]
    exact ih _ trivial
  · simp only [l36_small_l6]
    rw [nlt_len, if_neg (by simp)]; rfl
theorem small5 (h : q.Compute.length ≤ 4) (h5 : q.Group.length ≤ 4) {k : Nat} {m : Int} (hk : 20 ≤ k) : l36_small_l5 k q m 0 = some (sm5 q m q.Group) := by
  refine loopA q.Group (fun k m i => l36_small_l5 k q m i) (sm5 q) (fun _ _ => True) 10 (fun k i x m hk hx hI ih => ?_) (fun k m hk hI => ?_) k m (by omega) trivial
  · simp only [l36_small_l5, lt_get hx, if_true, dec_nonneg, chk_true, toNat_cast, hx, Option.bind_some, w64_get (by omega) hx]
    exact ih _ trivial
  · simp only [l36_small_l5]
    rw [nlt_len, if_neg (by simp), small6 h (by omega)]; rfl
include ok
theorem small4 (h : q.Compute.length ≤ 4) (h5 : q.Group.length ≤ 4) (h4 : q.Absences.length ≤ 4) {k : Nat} {m : Int} (hk : 60 ≤ k) : l36_small_l4 k q m 0 = some (sm4 q m q.Absences) := by
  refine loopA q.Absences (fun k m i => l36_small_l4 k q m i) (sm4 q) (fun _ _ => True) 30 (fun k i x m hk hx hI ih => ?_) (fun k m hk hI => ?_) k m (by omega) trivial
  · have hs : l36_smallPred k x.Variable.Where 1 = some (smB 1 x.Variable.Where) := small_eq 1 _ k (by omega) (ok.ab _ (mem_get hx)) (by omega)
    simp only [l36_small_l4, lt_get hx, if_true, dec_nonneg, chk_true, toNat_cast, hx, Option.bind_some, w64_get (by omega) hx, hs, sm4]
    cases smB 1 x.Variable.Where with
    | false => rfl
    | true => exact ih _ trivial
  · simp only [l36_small_l4]
    rw [nlt_len, if_neg (by simp), small5 h h5 (by omega)]; rfl
theorem small3 (h : q.Compute.length ≤ 4) (h5 : q.Group.length ≤ 4) (h4 : q.Absences.length ≤ 4) (h3 : q.Relations.length ≤ 4) {k : Nat} {m : Int} (hk : 70 ≤ k) : l36_small_l3 k q m 0 = some (sm3 q m q.Relations) := by
  refine loopA q.Relations (fun k m i => l36_small_l3 k q m i) (sm3 q) (fun _ _ => True) 60 (fun k i x m hk hx hI ih => ?_) (fun k m hk hI => ?_) k m (by omega) trivial
  · simp only [l36_small_l3, lt_get hx, if_true, dec_nonneg, chk_true, toNat_cast, hx, Option.bind_some, w64_get (by omega) hx]
    exact ih _ trivial
  · simp only [l36_small_l3]
    rw [nlt_len, if_neg (by simp), small4 ok h h5 h4 (by omega)]; rfl
theorem small2 (h : q.Compute.length ≤ 4) (h5 : q.Group.length ≤ 4) (h4 : q.Absences.length ≤ 4) (h3 : q.Relations.length ≤ 4) (h2 : q.Variables.length ≤ 4) {k : Nat} {m : Int} (hk : 80 ≤ k) : l36_small_l2 k q m 0 = some (sm2 q m q.Variables) := by
  refine loopA q.Variables (fun k m i => l36_small_l2 k q m i) (sm2 q) (fun _ _ => True) 70 (fun k i x m hk hx hI ih => ?_) (fun k m hk hI => ?_) k m (by omega) trivial
  · have hs : l36_smallPred k x.Where 1 = some (smB 1 x.Where) := small_eq 1 _ k (by omega) (ok.vs _ (mem_get hx)) (by omega)
    simp only [l36_small_l2, lt_get hx, if_true, dec_nonneg, chk_true, toNat_cast, hx, Option.bind_some, w64_get (by omega) hx, hs, sm2]
    cases smB 1 x.Where with
    | false => rfl
    | true => exact ih _ trivial
  · simp only [l36_small_l2]
    rw [nlt_len, if_neg (by simp), small3 ok h h5 h4 h3 (by omega)]; rfl
theorem smallQ_eq {k : Nat} (hk : 100 ≤ k) : l36_small k q = some (smQ q) := by
  unfold l36_small l36_small_j1 smQ
  simp only [dec_gt4]
  by_cases h1 : q.Variables.length ≤ 4
  case neg => rw [decide_eq_false h1]; rfl
  by_cases h2 : q.Relations.length ≤ 4
  case neg => rw [decide_eq_true h1, decide_eq_false h2]; rfl
  by_cases h3 : q.Absences.length ≤ 4
  case neg => rw [decide_eq_true h1, decide_eq_true h2, decide_eq_false h3]; rfl
  by_cases h4 : q.Group.length ≤ 4
  case neg => rw [decide_eq_true h1, decide_eq_true h2, decide_eq_true h3, decide_eq_false h4]; rfl
  by_cases h5 : q.Compute.length ≤ 4
  case neg => rw [decide_eq_true h1, decide_eq_true h2, decide_eq_true h3, decide_eq_true h4, decide_eq_false h5]; rfl
  rw [decide_eq_true h1, decide_eq_true h2, decide_eq_true h3, decide_eq_true h4, decide_eq_true h5, small2 ok h5 h4 h3 h2 h1 (by omega)]
  cases decide (q.Order.length ≤ 4) <;> rfl
end
theorem checks_true (p q : GQuery) (hp : okQ p) (hq : okQ q) : l36_SyntaxChecks 100000 p q = some true := by
  have hk : l36_SyntaxChecks_j1 100000 p q true = some true := by
    unfold l36_SyntaxChecks_j1
    rw [if_pos rfl, known_true]; rfl
  unfold l36_SyntaxChecks
  rw [known_true, Option.bind_some, smallQ_eq hp (by omega), smallQ_eq hq (by omega), if_neg (by simp), Option.bind_some, Option.bind_some]
  cases h1 : smQ p with
  | false => exact hk
  | true =>
  cases h2 : smQ q with
  | false => exact hk
  | true =>
  have b1 := smQ_b h1
  have b2 := smQ_b h2
  have e : ∀ e : Int, (e != e) = false := fun e => by simp
  simp only [Bool.not_true, Bool.false_eq_true, if_false]
  unfold l36_SyntaxChecks_j1
  rw [if_neg (by simp), sPrint_eq b1 (by omega), Option.bind_some, lcheck_eq b1 hp.sl hp.cs (by omega), Option.bind_some, sCheck_eq b1 (by omega), Option.bind_some, Equal_eq b1 (by omega), Option.bind_some, same_eq b1 (by omega), Option.bind_some, Equal_eq b1 (by omega), Option.bind_some, eqQ_refl]
  cases hc : (chkQ p != 0) with
  | true =>
    simp only [if_true, e, Bool.false_eq_true, if_false, beq_self_eq_true, Bool.not_true]
    unfold l36_SyntaxChecks_j2
    rw [if_neg (by simp), hc, if_pos rfl]
    rfl
  | false =>
    have h0 : chkQ p = 0 := by simpa using hc
    have hQ : QOk p := by
      unfold chkQ at h0
      split at h0
      · rename_i h1; rw [h0] at h1; cases h1
      · rename_i h1
        split at h0
        · rename_i h2; rw [h0] at h2; cases h2
        · rename_i h2; exact QOk.of (by simpa using h1) (by simpa using h2)
    simp only [Bool.false_eq_true, if_false, beq_self_eq_true, Bool.not_true, h0, e]
    unfold l36_SyntaxChecks_j2
    rw [if_neg (by simp)]
    simp only [bne_self_eq_false, Bool.false_eq_true, if_false, beq_self_eq_true, if_true]
    rw [query_eq hQ b1 hp.sl (by omega), Option.bind_some]
    simp
end Go.Proofs.YtfnaahkgegfbnaaGreatDoor
set_option maxRecDepth 100000
namespace Go.Proofs.YtfnaahkgegfbnaaGreatDoor
open Go.ChangeShapes Go.WideShapes Go.ChangeAt Go.WideMaps Go.WideElems Go.ChangeMaps Go.RowKit
theorem own : ownKnob Tryz.prog.godebug = none := by kernel_rfl
theorem door_met (os : Os) (args : Array Value) : laidMetH Tryz.prog Rows.syntaxNamesRow.laid ((World.doorLaid Tryz.prog 106 os).forCall (fun _ _ => 0) ⟨#[], args, []⟩).memory :=
  laidMetH_of_parts3 (fuel := 8) (laidMet_of_run' 8 (by kernel_rfl) (by kernel_rfl)) (by kernel_rfl) (by kernel_rfl)
theorem opn_arg {H : Type} {enc : TypeId × Value → H} {W : World} {α : Type} {T : Ty α} {ok : α → Prop} {t : TypeId} {v : Value} {d : DataW H} {ps : List MemPlace} (hE : ∀ n, Opn H enc W T t ok n) (h : DataW.Trod enc Tryz.prog W 0 (fun _ => true) true t v d ps)
    (hw : (d.weights Tryz.prog t).all (· ≤ reachBytes) = true) : ∃ y, T.R (mOf W) y v.cells.toList ∧ ok y := by
  obtain ⟨fuel, h⟩ := h
  exact hE fuel _ _ h hw
end Go.Proofs.YtfnaahkgegfbnaaGreatDoor
