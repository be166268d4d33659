/- A predicate without an error has a text; what PrintPred answers. -/
import Derived.Test.YtfnaahkgegfbnaaGreatDoorPf
import Derived.Test.YtfnaahkgegfbnaaGreatDoorB16
set_option linter.unusedVariables false
set_option linter.unusedSimpArgs false
namespace Go.Proofs.YtfnaahkgegfbnaaGreatDoor

theorem vis_ok : ∀ p : GPred, ∀ lev n : Int, (visP p lev n).2 = 0 → allP (fun q => nodeE q = 0) p := by
  refine GPred.byW fun p ih => ?_
  intro lev n h
  rw [visP_eq] at h
  rw [allP_eq]
  cases h1 : decide (n ≥ 64) with
  | true => rw [h1] at h; simp at h
  | false =>
  cases h2 : decide (lev > 16) with
  | true => rw [h1, h2] at h; simp at h
  | false =>
  cases h3 : (nodeE p != 0) with
  | true =>
    rw [h1, h2, h3] at h
    simp only [Bool.false_eq_true, if_false, if_true] at h
    rw [h] at h3
    cases h3
  | false =>
  rw [h1, h2, h3] at h
  simp only [Bool.false_eq_true, if_false] at h
  refine ⟨by simpa using h3, ?_⟩
  have key : ∀ (l : List GPred), (∀ q ∈ l, q ∈ p.Args) → ∀ n, (visL l (lev + 1) n).2 = 0 → allL (fun q => nodeE q = 0) l := by
    intro l
    induction l with
    | nil => intro _ _ _; trivial
    | cons q l ihl =>
      intro hm n h
      simp only [visL] at h
      split at h
      · rename_i h4; rw [h] at h4; cases h4
      · rename_i h4
        exact ⟨ih q (wP_arg (hm q List.mem_cons_self)) _ _ (by simpa using h4), ihl (fun x hx => hm x (List.mem_cons_of_mem _ hx)) _ h⟩
  exact key _ (fun q h => h) _ h
theorem valE_ok {v : GValue} (h : valE v = 0) : okV v ∧ (v.Kind = 1 → withinB 32 126 v.Text = true ∧ v.Int = 0) ∧ (v.Kind ≠ 1 → v.Text = []) ∧ v.Text.length ≤ 4096 := by
  unfold valE valE1 at h
  have hl : ∀ b, (if decide ((v.Text.length : Int) > 4096) = true then (5 : Int) else if (!b) = true then 3 else 0) = 0 → b = true ∧ v.Text.length ≤ 4096 := by
    intro b hb
    split at hb
    · cases hb
    · rename_i hd
      have hd : ¬ ((v.Text.length : Int) > 4096) := by simpa using hd
      split at hb
      · cases hb
      · rename_i hb2
        exact ⟨by simpa using hb2, by omega⟩
  split at h
  · rename_i hk
    have hk : v.Kind = 1 := by simpa using hk
    obtain ⟨h1, h2⟩ := hl _ h
    rw [Bool.and_eq_true] at h1
    exact ⟨.inl hk, fun _ => ⟨h1.1, by simpa using h1.2⟩, fun h => absurd hk h, h2⟩
  · rename_i hk1
    have hk1 : v.Kind ≠ 1 := by simpa using hk1
    split at h
    · rename_i hk
      have hk : v.Kind = 2 := by simpa using hk
      obtain ⟨h1, h2⟩ := hl _ h
      rw [Bool.and_eq_true, Bool.and_eq_true] at h1
      have := of_decide_eq_true h1.2.1
      have := of_decide_eq_true h1.2.2
      exact ⟨.inr (.inl ⟨hk, by omega, by omega⟩), fun h => absurd h hk1, fun _ => by simpa using h1.1, h2⟩
    · split at h
      · rename_i hk
        have hk : v.Kind = 3 := by simpa using hk
        obtain ⟨h1, h2⟩ := hl _ h
        rw [Bool.and_eq_true, Bool.or_eq_true] at h1
        exact ⟨.inr (.inr ⟨hk, by simpa using h1.2⟩), fun h => absurd h hk1, fun _ => by simpa using h1.1, h2⟩
      · cases h
/-- what a node without an error is -/
structure NodeOk (p : GPred) : Prop where
  op : 0 ≤ p.Op ∧ p.Op ≤ 7
  join : isJ p.Op = true → 1 ≤ p.Args.length
  not : p.Op = 3 → p.Args.length = 1
  leaf : p.Op = 0 ∨ 4 ≤ p.Op → p.Args = []
  plain : p.Op < 5 → p.Field = [] ∧ p.Value = ⟨0, [], 0⟩
  key : p.Op < 4 → p.Key = []
  has : p.Op = 4 → nameB p.Key = true
  val : 5 ≤ p.Op → valE p.Value = 0 ∧ nameB p.Field = true
  attr : 5 ≤ p.Op → p.Field = w_attr → nameB p.Key = true
  nokey : 5 ≤ p.Op → p.Field ≠ w_attr → p.Key = []
  less : p.Op = 6 → p.Value.Kind ≠ 3
  pre : p.Op = 7 → p.Value.Kind = 1
theorem eqV_iff {a b : GValue} (h : eqV a b = true) : a = b := by
  cases a; cases b
  simp only [eqV, Bool.and_eq_true, beq_iff_eq, and_true] at h
  obtain ⟨rfl, rfl, rfl⟩ := h
  rfl
theorem nE2_ok {p : GPred} {ok : Bool} (h : nE2 p ok = 0) (ho : 0 ≤ p.Op ∧ p.Op ≤ 7) : ok = true ∧ (p.Op < 5 → p.Field = [] ∧ p.Value = ⟨0, [], 0⟩) ∧ (p.Op < 4 → p.Key = []) ∧ (p.Op = 4 → nameB p.Key = true) ∧
    (5 ≤ p.Op → valE p.Value = 0 ∧ nameB p.Field = true) ∧ (5 ≤ p.Op → p.Field = w_attr → nameB p.Key = true) ∧ (5 ≤ p.Op → p.Field ≠ w_attr → p.Key = []) ∧ (p.Op = 6 → p.Value.Kind ≠ 3) ∧ (p.Op = 7 → p.Value.Kind = 1) := by
  have hT : isT p = decide (5 ≤ p.Op) := by
    unfold isT
    rw [Bool.eq_iff_iff]
    simp
    omega
  have e4 : (p.Op == 4) = decide (p.Op = 4) := by rw [Bool.eq_iff_iff]; simp
  unfold nE2 nE6 nE7 nE5 at h
  split at h
  · cases h
  rename_i c1
  split at h
  · cases h
  rename_i c2
  simp only [Bool.or_eq_true, Bool.and_eq_true, Bool.not_eq_true', not_or, not_and, Bool.not_eq_false] at c1 c2
  obtain ⟨a1, a2, a3⟩ := c1
  refine ⟨a1, fun h5 => ?_, fun h4 => ?_, fun h4 => c2 (by simpa using h4), ?_⟩
  · have ht : isT p = false := by rw [hT]; simp; omega
    have := a2 ht
    exact ⟨by simpa using this.1, eqV_iff this.2⟩
  · have ht : isT p = false := by rw [hT]; simp; omega
    have := a3 ht (by simp; omega)
    simpa using this
  cases ht : isT p with
  | false =>
    have h5 : ¬ 5 ≤ p.Op := by rw [hT] at ht; simpa using ht
    exact ⟨fun h => absurd h h5, fun h => absurd h h5, fun h => absurd h h5, fun h => by omega, fun h => by omega⟩
  | true =>
    rw [ht] at h
    simp only [Bool.not_true, Bool.false_eq_true, if_false] at h
    split at h
    · cases h
    rename_i c3
    split at h
    · rename_i c4; rw [h] at c4; cases c4
    rename_i c4
    split at h
    · cases h
    rename_i c5
    simp only [Bool.or_eq_true, Bool.and_eq_true, Bool.not_eq_true', not_or, not_and, Bool.not_eq_false] at c3
    obtain ⟨b1, b2, b3⟩ := c3
    refine ⟨fun _ => ⟨by simpa using c4, b1⟩, fun _ hf => b2 (by simpa using hf), fun _ hf => ?_, fun h6 h3 => ?_, fun h7 => ?_⟩
    · have := b3 (by simpa using hf)
      simpa using this
    · apply c5; rw [h6, h3]; rfl
    · apply Classical.byContradiction
      intro hk
      apply c5
      rw [h7]
      simp [hk]
theorem nodeE_ok {p : GPred} (h : nodeE p = 0) : NodeOk p := by
  unfold nodeE at h
  split at h
  · rename_i hj
    have hj' : isJ p.Op = true := hj
    have ho : 0 ≤ p.Op ∧ p.Op ≤ 7 := by rcases isJ_eq hj' with h | h <;> omega
    obtain ⟨h1, h2, h3, h4, h5, h6, h7, h8, h9⟩ := nE2_ok h ho
    have hl := of_decide_eq_true h1
    exact ⟨ho, fun _ => by omega, fun h => (by rcases isJ_eq hj' with h' | h' <;> omega), fun h => (by rcases isJ_eq hj' with h' | h' <;> omega), h2, h3, h4, h5, h6, h7, h8, h9⟩
  rename_i hj
  have hj' : isJ p.Op = false := by simpa [isJ] using hj
  split at h
  · rename_i h3'
    have e3 : p.Op = 3 := by simpa using h3'
    have ho : 0 ≤ p.Op ∧ p.Op ≤ 7 := by omega
    obtain ⟨h1, h2, h3, h4, h5, h6, h7, h8, h9⟩ := nE2_ok h ho
    have hl : ((p.Args.length : Int)) = 1 := by simpa using h1
    exact ⟨ho, fun h => (by rw [hj'] at h; cases h), fun _ => by omega, fun h => by omega, h2, h3, h4, h5, h6, h7, h8, h9⟩
  · rename_i h3'
    split at h
    · rename_i hl
      have hc : p.Op = 0 ∨ p.Op = 4 ∨ p.Op = 5 ∨ p.Op = 6 ∨ p.Op = 7 := by simpa using hl
      have ho : 0 ≤ p.Op ∧ p.Op ≤ 7 := by omega
      obtain ⟨h1, h2, h3, h4, h5, h6, h7, h8, h9⟩ := nE2_ok h ho
      have hl : ((p.Args.length : Int)) = 0 := by simpa using h1
      exact ⟨ho, fun h => (by rw [hj'] at h; cases h), fun h => by omega, fun _ => List.eq_nil_of_length_eq_zero (by omega), h2, h3, h4, h5, h6, h7, h8, h9⟩
    · cases h
theorem allP_mono {f g : GPred → Prop} (h : ∀ p, f p → g p) : ∀ p, allP f p → allP g p := by
  refine GPred.byW fun p ih => ?_
  intro hp
  rw [allP_eq] at hp ⊢
  refine ⟨h p hp.1, ?_⟩
  have key : ∀ (l : List GPred), (∀ q ∈ l, q ∈ p.Args) → allL f l → allL g l := by
    intro l
    induction l with
    | nil => intro _ _; trivial
    | cons q l ihl => exact fun hm hl => ⟨ih q (wP_arg (hm q List.mem_cons_self)) hl.1, ihl (fun x hx => hm x (List.mem_cons_of_mem _ hx)) hl.2⟩
  exact key _ (fun q h => h) hp.2
theorem nameB_pos {s : Str} (h : nameB s = true) : 0 < s.length := by
  cases s with
  | nil => cases h
  | cons c r => simp
theorem okN_of {p : GPred} (h : NodeOk p) : okN p :=
  ⟨h.op, fun h3 => by rw [h.not h3]; exact Nat.le_refl _, fun h5 => ⟨(valE_ok (h.val h5).1).1, nameB_pos (h.val h5).2⟩, h.join⟩
theorem chkP_zero {p : GPred} (h : chkP p = 0) : chkA p = 0 ∧ anyP formB p = false ∧ anyP fieldB p = false := by
  unfold chkP at h
  split at h
  · rename_i h1; rw [h] at h1; cases h1
  · rename_i h1
    split at h
    · cases h
    · rename_i h2
      split at h
      · cases h
      · rename_i h3; exact ⟨by simpa using h1, by simpa using h2, by simpa using h3⟩
theorem chkP_node {p : GPred} (h : chkP p = 0) : allP NodeOk p := allP_mono (fun q hq => nodeE_ok hq) p (vis_ok p 1 0 (chkP_zero h).1)
theorem chkP_ok {p : GPred} (h : chkP p = 0) : allP okN p := allP_mono (fun q hq => okN_of hq) p (chkP_node h)

theorem PrintPred_eq {p : GPred} {k : Nat} (hk : 60 * wP p + 60 ≤ k) (hw : wP p ≤ 90000) : syntax_PrintPred k p = some (if (chkP p != 0) = true then (w_0, chkP p) else (txt0 (tkP p), 0)) := by
  unfold syntax_PrintPred
  rw [CheckPred_eq (by omega) (by omega), Option.bind_some]
  cases h : (chkP p != 0) with
  | true => rfl
  | false =>
    have h0 : chkP p = 0 := by simpa using h
    have hok := chkP_ok h0
    have hw1 := pred_w p PW.o k hok (by omega) (by have : PW.o.b.length = 0 := rfl; omega)
    have e : (⟨[], ⟨0, 0, w_0, 0⟩⟩ : SWriter) = PW.o.w := rfl
    rw [if_neg (by simp), if_neg (by simp), e, hw1, Option.bind_some]
    obtain ⟨⟨t, r, ht, _, hp⟩, _⟩ := tkP_BE p hok
    have hb : (PW.o.puts (tkP p)).b = txt0 (tkP p) := by rw [ht]; exact puts_o hp
    have e2 : (PW.o.puts (tkP p)).w.out = toI (txt0 (tkP p)) := by rw [← hb]; rfl
    rw [e2, ofI]
end Go.Proofs.YtfnaahkgegfbnaaGreatDoor
