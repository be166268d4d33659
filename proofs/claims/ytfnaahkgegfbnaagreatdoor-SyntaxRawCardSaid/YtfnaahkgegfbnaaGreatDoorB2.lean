/- Segments: operations that compute and read; operations that write, allocate, call. -/
import Derived.Test.YtfnaahkgegfbnaaGreatDoorB1
set_option linter.unusedVariables false
set_option linter.unusedSimpArgs false
namespace Go.Proofs.YtfnaahkgegfbnaaGreatDoor

/-! ### A computation that reads: the values read are supplied, the places noted -/
def semO {α : Type} (P : Program) : Sem α → List (Addr × Value) → Option (α × List (Addr × Value) × List (Addr × Value))
  | .pure a, vs => some (a, [], vs)
  | .program k, vs => semO P (k P) vs
  | .load _ a k, (_, v) :: vs => match semO P (k v) vs with
    | some (x, rs, vs') => some (x, (a, v) :: rs, vs')
    | none => none
  | _, _ => none

def AllC (w : World) : List (Addr × Value) → Prop
  | [] => True
  | (a, v) :: rs => w.cell? a = some v ∧ AllC w rs
theorem AllC.append {w : World} : ∀ {rs qs : List (Addr × Value)}, AllC w rs → AllC w qs → AllC w (rs ++ qs)
  | [], _, _, k => k
  | _ :: _, _, h, k => ⟨h.1, AllC.append h.2 k⟩
theorem AllC.left {w : World} : ∀ {rs qs : List (Addr × Value)}, AllC w (rs ++ qs) → AllC w rs
  | [], _, _ => trivial
  | _ :: _, _, h => ⟨h.1, AllC.left h.2⟩
theorem AllC.right {w : World} : ∀ {rs qs : List (Addr × Value)}, AllC w (rs ++ qs) → AllC w qs
  | [], _, h => h
  | _ :: rs, _, h => AllC.right (rs := rs) h.2

theorem semO_run {α : Type} (P : Program) (w : World) : ∀ (s : Sem α) (vs : List (Addr × Value)) (x : α) (rs vs' : List (Addr × Value)),
    semO P s vs = some (x, rs, vs') → AllC w rs → s.run P w = .ok x w := by
  intro s
  induction s with
  | pure a => intro vs x rs vs' h _; simp only [semO, Option.some.injEq, Prod.mk.injEq] at h; obtain ⟨rfl, _⟩ := h; rfl
  | program k ih => intro vs x rs vs' h hc; exact ih P vs x rs vs' h hc
  | load m a k ih =>
    intro vs x rs vs' h hc
    cases vs with
    | nil => simp [semO] at h
    | cons v vs =>
      obtain ⟨a0, v⟩ := v
      simp only [semO] at h
      cases hq : semO P (k v) vs with
      | none => simp [hq] at h
      | some r =>
        obtain ⟨x', rs', vs''⟩ := r
        simp only [hq, Option.some.injEq, Prod.mk.injEq] at h
        obtain ⟨rfl, rfl, rfl⟩ := h
        have := ih v vs x' rs' vs'' hq hc.2
        simp only [Sem.run, hc.1]
        exact this
  | _ => intro vs x rs vs' h _; simp [semO] at h

/-- one operation of a segment: its value -/
def opO (P : Program) (n : Nat) (f : Fr) (o : Oper) (vs : List (Addr × Value)) : Option (Value × List (Addr × Value) × List (Addr × Value)) :=
  match semO P (execOp (evo n f) o) vs with
  | some (.value v, rs, vs') => some (v, rs, vs')
  | _ => none

/-- does it run (true), is it passed over (false), or is that not known (none)? -/
def guardO (ops : Array Oper) (n : Nat) (f : Fr) (o : Oper) : Option Bool :=
  match o.guard with
  | none => some true
  | some (j, want) => match yldf ops n f j with
    | some b => some (b == want)
    | none => some false

theorem guardO_wanted {dl : List Deferred} {ops : Array Oper} {n : Nat} {f : Fr} {o : Oper} {b : Bool} (h : guardO ops n f o = some b) : Region.wanted o (yielded ops (actd n dl f).tmps) = b := by
  unfold guardO at h
  unfold Region.wanted
  split at h
  · rename_i hg; simp only [hg]; simpa using h
  · rename_i j want hg
    simp only [hg]
    rw [yielded_act]
    split at h
    · rename_i b' hb
      simp only [Option.some.injEq] at h
      subst h
      rw [hb]
      cases b' <;> cases want <;> rfl
    · rename_i hb
      simp only [Option.some.injEq] at h
      subst h
      rw [hb]
      cases want <;> rfl

/-- 'c' operations: what the frame becomes (the updates, in order), and what is read -/
def segRun (P : Program) (ops : Array Oper) (n : Nat) : Nat → List Oper → Fr → List (Addr × Value) → Option (List (Nat × Value) × List (Addr × Value))
  | 0, _, _, _ => some ([], [])
  | _ + 1, [], _, _ => none
  | c + 1, o :: l, f, vs => match guardO ops n f o with
    | some true => match opO P n f o vs with
      | some (v, rs, vs') => match segRun P ops n c l (updo f o.dst v) vs' with
        | some (us, rs') => some ((match o.dst with | some d => (d, v) :: us | none => us), rs ++ rs')
        | none => none
      | none => none
    | some false => match segRun P ops n c l (updo f o.dst undef) vs with
      | some (us, rs') => some ((match o.dst with | some d => (d, undef) :: us | none => us), rs')
      | none => none
    | none => none

def upds (f : Fr) : List (Nat × Value) → Fr
  | [] => f
  | (d, v) :: us => upds (upd f d v) us

section
variable {P : Program} {ops : Array Oper} {Q : Exit → Act → World → Prop} {n : Nat} {f : Fr} {w : World} {dl : List Deferred}

theorem wl_run {o : Oper} {rest : List Oper} (hg : guardO ops n f o = some true) (h : o.wp P (actd n dl f) w (wpList P ops Q rest) Q) : wpList P ops Q (o :: rest) (actd n dl f) w := by
  unfold wpList
  rw [if_pos (guardO_wanted hg)]
  exact .inl h
theorem wl_skip {o : Oper} {rest : List Oper} (hg : guardO ops n f o = some false) (h : wpList P ops Q rest (actd n dl (updo f o.dst undef)) w) : wpList P ops Q (o :: rest) (actd n dl f) w := by
  unfold wpList
  rw [if_neg (by rw [guardO_wanted hg]; decide), act_put]
  exact h
/-- an operation that yields a value and leaves a world -/
theorem wl_val {o : Oper} {rest : List Oper} (hg : guardO ops n f o = some true) {v : Value} {w' : World} (h : (execOp (evo n f) o).run P w = .ok (.value v) w')
    (k : wpList P ops Q rest (actd n dl (updo f o.dst v)) w') : wpList P ops Q (o :: rest) (actd n dl f) w := by
  refine wl_run hg ?_
  unfold Oper.wp
  rw [act_eval, h, Oper.upon_value, act_put]
  exact k
theorem wl_unit {o : Oper} {rest : List Oper} (hg : guardO ops n f o = some true) {w' : World} (h : (execOp (evo n f) o).run P w = .ok .skip w')
    (k : wpList P ops Q rest (actd n dl (updo f o.dst undef)) w') : wpList P ops Q (o :: rest) (actd n dl f) w := by
  refine wl_run hg ?_
  unfold Oper.wp
  rw [act_eval, h, Oper.upon_skip, act_put]
  exact k

theorem wl_seg_aux : ∀ (c : Nat) (l : List Oper) (f : Fr) (vs : List (Addr × Value)) (us : List (Nat × Value)) (rs : List (Addr × Value)),
    segRun P ops n c l f vs = some (us, rs) → AllC w rs → wpList P ops Q (l.drop c) (actd n dl (upds f us)) w → wpList P ops Q l (actd n dl f) w
  | 0, l, f, vs, us, rs, h, _, k => by
    simp only [segRun, Option.some.injEq, Prod.mk.injEq] at h
    obtain ⟨rfl, rfl⟩ := h
    simpa [upds] using k
  | c + 1, [], f, vs, us, rs, h, _, k => by simp [segRun] at h
  | c + 1, o :: l, f, vs, us, rs, h, hc, k => by
    simp only [segRun] at h
    split at h
    · rename_i hg
      split at h
      · rename_i v rs1 vs1 hop
        split at h
        · rename_i us2 rs2 hseg
          simp only [Option.some.injEq, Prod.mk.injEq] at h
          obtain ⟨hus, rfl⟩ := h
          have hrun : (execOp (evo n f) o).run P w = .ok (.value v) w := by
            unfold opO at hop
            split at hop
            · rename_i v' rs' vs' hsem
              simp only [Option.some.injEq, Prod.mk.injEq] at hop
              obtain ⟨rfl, rfl, rfl⟩ := hop
              exact semO_run P w _ _ _ _ _ hsem hc.left
            · cases hop
          refine wl_val hg hrun (wl_seg_aux c l _ _ _ _ hseg hc.right ?_)
          have : upds f us = upds (updo f o.dst v) us2 := by
            subst hus
            cases o.dst <;> rfl
          rw [← this]
          simpa using k
        · cases h
      · cases h
    · rename_i hg
      split at h
      · rename_i us2 rs2 hseg
        simp only [Option.some.injEq, Prod.mk.injEq] at h
        obtain ⟨hus, rfl⟩ := h
        refine wl_skip hg (wl_seg_aux c l _ _ _ _ hseg hc ?_)
        have : upds f us = upds (updo f o.dst undef) us2 := by
          subst hus
          cases o.dst <;> rfl
        rw [← this]
        simpa using k
      · cases h
    · cases h

/-- A SEGMENT of 'c' operations: 'us' what they yield, 'rs' what they read. -/
theorem wl_seg (c : Nat) (us : List (Nat × Value)) (rs : List (Addr × Value)) {l : List Oper} (h : segRun P ops n c l f rs = some (us, rs)) (hc : AllC w rs)
    (k : wpList P ops Q (l.drop c) (actd n dl (upds f us)) w) : wpList P ops Q l (actd n dl f) w := wl_seg_aux c l f rs us rs h hc k

theorem wl_nil (h : Q .normal (actd n dl f) w) : wpList P ops Q [] (actd n dl f) w := h
end

end Go.Proofs.YtfnaahkgegfbnaaGreatDoor
