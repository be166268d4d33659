/- Regions that draw their order: what computes and reads is taken first; the rest comes one by one. -/
import Derived.Test.YtfnaahkgegfbnaaGreatDoorB4
set_option linter.unusedVariables false
set_option linter.unusedSimpArgs false
namespace Go.Proofs.YtfnaahkgegfbnaaGreatDoor

section
variable {P : Program} {ops : Array Oper} {Q : Exit → Act → World → Prop} {n : Nat} {f : Fr} {w g : World} {m : Mem} {L : List Asr} {dl : List Deferred}

def AllListed (ops : Array Oper) (listed : Array Bool) : Prop := ∀ j, j < ops.size → listed.getD j false = true

/-- whatever order is picked from here on; a condition on the world holds behind every operation but the last; it may grow stronger -/
def wpG (P : Program) (ops : Array Oper) (Q : Exit → Act → World → Prop) (q : Bool) : Nat → (World → Prop) → Array Bool → Act → World → Prop
  | 0, _, listed, a, w => Region.ready .any ops listed = [] ∧ Q .normal a w
  | k + 1, S, listed, a, w => (Region.ready .any ops listed = [] → Q .normal a w) ∧
    ∀ i ∈ Region.ready .any ops listed, wpOp P ops Q i (fun a' w' => ∃ S' : World → Prop, (∀ x, S' x → S x) ∧ ((q = false ∧ AllListed ops (listed.setIfInBounds i true)) ∨ S' w') ∧ wpG P ops Q q k S' (listed.setIfInBounds i true) a' w') a w

theorem wpAny_of_G {q : Bool} : ∀ (k : Nat) (S : World → Prop) (listed : Array Bool) (a : Act) (w : World), wpG P ops Q q k S listed a w → wpAny P .any ops Q k listed a w
  | 0, _, _, _, _, h => h
  | k + 1, S, listed, a, w, h => ⟨h.1, fun i hi => wpOp_mono (fun a' w' ⟨S', _, _, h'⟩ => wpAny_of_G k S' _ a' w' h') (h.2 i hi)⟩

theorem YieldsIf.weaken {S S' : World → Prop} {o : Oper} {v : Value} {a : Act} (h : YieldsIf P ops S o v a) (hs : ∀ x, S' x → S x) : YieldsIf P ops S' o v a :=
  h.imp (fun ⟨h1, h2⟩ => ⟨h1, fun w hw => h2 w (hs w hw)⟩) id

theorem wpG_first {q : Bool} {i : Nat} {oi : Oper} {v : Value} (hi : ops[i]? = some oi) (hsel : ∀ (j : Nat) (o : Oper) cs b, ops[j]? = some o → o.op ≠ .select cs b)
    (hQ : ∀ c a w, Q (.panic c) (a.put oi.dst v) w → Q (.panic c) a w) :
    ∀ (fuel : Nat) (S : World → Prop) (listed : Array Bool) (a : Act) (w : World),
      (∀ j oj, ops[j]? = some oj → j ≠ i → listed.getD j true = false → (∀ e ∈ oj.after, Region.binds .any e = true → e.on ≠ i) → oi.apart ops oj = true) →
      i ∈ Region.ready .any ops listed → (q = true ∨ ∃ z oz, ops[z]? = some oz ∧ z ≠ i ∧ (∃ e ∈ oz.after, Region.binds .any e = true ∧ e.on = i) ∧ listed.getD z false = false) → YieldsIf P ops S oi v a → S w →
      wpG P ops Q q fuel S (listed.setIfInBounds i true) (a.put oi.dst v) w → wpG P ops Q q (fuel + 1) S listed a w := by
  intro fuel
  have unl : ∀ (listed : Array Bool), i ∈ Region.ready .any ops listed → listed.getD i false = false := by
    intro listed hr
    have h0 := (mem_ready.1 hr).1
    rcases Nat.lt_or_ge i listed.size with h' | h'
    · simp [h'] at h0 ⊢; exact h0
    · simp [Array.getElem?_eq_none h'] at h0
  induction fuel with
  | zero =>
    intro S listed a w _ hr _ hy hS H
    refine ⟨fun h => (by rw [h] at hr; cases hr), fun j hj => ?_⟩
    by_cases hji : j = i
    · subst hji; exact hy.wpOp hi hS ⟨S, fun _ h => h, .inr hS, H⟩
    · have := ready_mono hj hji
      rw [H.1] at this
      cases this
  | succ fuel ih =>
    intro S listed a w hfree hr hzl hy hS H
    refine ⟨fun h => (by rw [h] at hr; cases hr), fun j hj => ?_⟩
    by_cases hji : j = i
    · subst hji; exact hy.wpOp hi hS ⟨S, fun _ h => h, .inr hS, H⟩
    · have h1 := H.2 j (ready_mono hj hji)
      obtain ⟨hjun, oj, hoj, hall⟩ := mem_ready.1 hj
      have hiun := unl listed hr
      have hnot : ∀ e ∈ oj.after, Region.binds .any e = true → e.on ≠ i := fun e he hb heq => by
        have h1 := hall e he hb
        rw [heq, hiun] at h1
        cases h1
      have h2 := wpOp_putIf hoj (hfree j oj hoj hji hjun hnot) (fun cs b => hsel i oi cs b hi) (fun cs b => hsel j oj cs b hoj) hQ hy h1
      have hfree' : ∀ k ok, ops[k]? = some ok → k ≠ i → (listed.setIfInBounds j true).getD k true = false →
          (∀ e ∈ ok.after, Region.binds .any e = true → e.on ≠ i) → oi.apart ops ok = true := fun k ok hk hki hun hno => by
        refine hfree k ok hk hki ?_ hno
        by_cases hjk : j = k
        · subst hjk; exact hjun
        · rw [getD_set_ne true hjk] at hun; exact hun
      refine wpOp_mono (fun a' w' h3 => ?_) h2
      obtain ⟨hy', S', hS', hor, hG⟩ := h3
      have hzz : ∀ z oz, ops[z]? = some oz → (∃ e ∈ oz.after, Region.binds .any e = true ∧ e.on = i) → z ≠ j := by
        intro z oz hz hze e; subst e
        rw [hz] at hoj; cases hoj
        obtain ⟨e, he, hb, hon⟩ := hze
        exact hnot e he hb hon
      have hSw : S' w' := by
        rcases hor with ⟨hq, hall'⟩ | h
        · rcases hzl with h | ⟨z, oz, hz, hzi, hze, hzl⟩
          · rw [hq] at h; cases h
          have hzj := hzz z oz hz hze
          have := hall' z (Array.getElem?_eq_some_iff.1 hz).1
          rw [getD_set_ne false (Ne.symm hzj), getD_set_ne false (Ne.symm hzi), hzl] at this
          cases this
        · exact h
      refine ⟨S', hS', .inr hSw, ih S' (listed.setIfInBounds j true) a' w' hfree' (ready_mono hr (Ne.symm hji)) ?_ (YieldsIf.weaken hy' hS') hSw ?_⟩
      · rcases hzl with h | ⟨z, oz, hz, hzi, hze, hzl⟩
        · exact .inl h
        · exact .inr ⟨z, oz, hz, hzi, hze, by rw [getD_set_ne false (Ne.symm (hzz z oz hz hze))]; exact hzl⟩
      · rw [Array.setIfInBounds_comm _ _ hji]
        exact hG

/-! ### Taking several -/
def hasWaiter (ops : Array Oper) (listed : Array Bool) (i : Nat) : Bool :=
  (List.range ops.size).any fun z => match ops[z]? with
    | some oz => !(Nat.beq z i) && !(listed.getD z false) && oz.after.any (fun e => Region.binds .any e && Nat.beq e.on i)
    | none => false
def takeOk (q : Bool) (ops : Array Oper) (listed : Array Bool) (i : Nat) : Bool :=
  Region.noSelect ops && Region.free .any ops listed i && (Region.ready .any ops listed).contains i && (q || hasWaiter ops listed i)

def takeRun (q : Bool) (P : Program) (ops : Array Oper) (n : Nat) : List Nat → Array Bool → Fr → List (Addr × Value) → Option (List (Nat × Value) × List (Addr × Value) × Array Bool)
  | [], listed, _, _ => some ([], [], listed)
  | i :: is, listed, f, vs => match ops[i]? with
    | none => none
    | some o => match takeOk q ops listed i with
      | false => none
      | true => match guardO ops n f o with
        | some true => match opO P n f o vs with
          | some (v, rs, vs') => match takeRun q P ops n is (listed.setIfInBounds i true) (updo f o.dst v) vs' with
            | some (us, rs', l') => some ((match o.dst with | some d => (d, v) :: us | none => us), rs ++ rs', l')
            | none => none
          | none => none
        | some false => match takeRun q P ops n is (listed.setIfInBounds i true) (updo f o.dst undef) vs with
          | some (us, rs', l') => some ((match o.dst with | some d => (d, undef) :: us | none => us), rs', l')
          | none => none
        | none => none


theorem wpG_take {q : Bool} {i : Nat} {o : Oper} {v : Value} {fuel : Nat} {S : World → Prop} {listed : Array Bool} (hQ : ∀ c a a' w, a.defers = a'.defers → Q (.panic c) a w → Q (.panic c) a' w) (hi : ops[i]? = some o) (hk : takeOk q ops listed i = true)
    (hy : YieldsIf P ops S o v (actd n dl f)) (hS : S w) (h : wpG P ops Q q fuel S (listed.setIfInBounds i true) (actd n dl (updo f o.dst v)) w) : wpG P ops Q q (fuel + 1) S listed (actd n dl f) w := by
  unfold takeOk at hk
  simp only [Bool.and_eq_true] at hk
  obtain ⟨⟨⟨hsel, hfree⟩, hr⟩, hw⟩ := hk
  have hw' : q = true ∨ ∃ z oz, ops[z]? = some oz ∧ z ≠ i ∧ (∃ e ∈ oz.after, Region.binds .any e = true ∧ e.on = i) ∧ listed.getD z false = false := by
    cases q with
    | true => exact .inl rfl
    | false =>
      rw [Bool.false_or] at hw
      unfold hasWaiter at hw
      rw [List.any_eq_true] at hw
      obtain ⟨z, _, hz⟩ := hw
      split at hz
      · rename_i oz hoz
        simp only [Bool.and_eq_true, Bool.not_eq_true'] at hz
        obtain ⟨⟨hz1, hz2⟩, hz3⟩ := hz
        have hzi : z ≠ i := fun e => by subst e; rw [Nat.beq_refl] at hz1; cases hz1
        obtain ⟨e, he, hb⟩ := Array.any_eq_true'.1 hz3
        simp only [Bool.and_eq_true] at hb
        exact .inr ⟨z, oz, hoz, hzi, ⟨e, he, hb.1, Nat.eq_of_beq_eq_true hb.2⟩, hz2⟩
      · cases hz
  refine wpG_first hi (Region.noSelect_spec hsel) (fun c a w h => hQ c _ _ w (by cases o.dst <;> rfl) h) fuel S listed (actd n dl f) w (Region.free_spec hi hfree) (by simpa using hr) hw' hy hS ?_
  rw [act_put]
  exact h

theorem wpG_seg_aux {q : Bool} (hQ : ∀ c a a' w, a.defers = a'.defers → Q (.panic c) a w → Q (.panic c) a' w) {S : World → Prop} (hS : S w) : ∀ (is : List Nat) (listed : Array Bool) (f : Fr) (vs : List (Addr × Value)) (us : List (Nat × Value)) (rs : List (Addr × Value)) (listed' : Array Bool) (fuel : Nat),
    takeRun q P ops n is listed f vs = some (us, rs, listed') → (∀ x, S x → AllC x rs) → wpG P ops Q q fuel S listed' (actd n dl (upds f us)) w → wpG P ops Q q (fuel + is.length) S listed (actd n dl f) w
  | [], listed, f, vs, us, rs, listed', fuel, h, _, k => by
    simp only [takeRun, Option.some.injEq, Prod.mk.injEq] at h
    obtain ⟨rfl, rfl, rfl⟩ := h
    exact k
  | i :: is, listed, f, vs, us, rs, listed', fuel, h, hc, k => by
    simp only [takeRun] at h
    split at h
    · cases h
    · rename_i o hi
      split at h
      · cases h
      · rename_i hk
        split at h
        · rename_i hg
          split at h
          · rename_i v rs1 vs1 hop
            split at h
            · rename_i us2 rs2 l2 hseg
              simp only [Option.some.injEq, Prod.mk.injEq] at h
              obtain ⟨hus, rfl, rfl⟩ := h
              have hy : YieldsIf P ops S o v (actd n dl f) := by
                refine .inl ⟨guardO_wanted hg, fun x hx => ?_⟩
                rw [act_eval]
                unfold opO at hop
                split at hop
                · rename_i v' rs' vs' hsem
                  simp only [Option.some.injEq, Prod.mk.injEq] at hop
                  obtain ⟨rfl, rfl, rfl⟩ := hop
                  exact semO_run P x _ _ _ _ _ hsem (hc x hx).left
                · cases hop
              refine wpG_take hQ hi hk hy hS (wpG_seg_aux hQ hS is _ _ _ _ _ _ fuel hseg (fun x hx => (hc x hx).right) ?_)
              have : upds f us = upds (updo f o.dst v) us2 := by
                subst hus
                cases o.dst <;> rfl
              rw [← this]
              exact k
            · cases h
          · cases h
        · rename_i hg
          split at h
          · rename_i us2 rs2 l2 hseg
            simp only [Option.some.injEq, Prod.mk.injEq] at h
            obtain ⟨hus, rfl, rfl⟩ := h
            have hy : YieldsIf P ops S o undef (actd n dl f) := .inr ⟨guardO_wanted hg, rfl⟩
            refine wpG_take hQ hi hk hy hS (wpG_seg_aux hQ hS is _ _ _ _ _ _ fuel hseg hc ?_)
            have : upds f us = upds (updo f o.dst undef) us2 := by
              subst hus
              cases o.dst <;> rfl
            rw [← this]
            exact k
          · cases h
        · cases h

/-- several taken first, in the order of 'is' -/
theorem wpG_seg {q : Bool} {S : World → Prop} (is : List Nat) (us : List (Nat × Value)) (rs : List (Addr × Value)) (listed' : Array Bool) {fuel fuel' : Nat} {listed : Array Bool} (hQ : ∀ c a a' w, a.defers = a'.defers → Q (.panic c) a w → Q (.panic c) a' w) (hf : fuel' = fuel + is.length) (h : takeRun q P ops n is listed f rs = some (us, rs, listed')) (hS : S w)
    (hc : ∀ x, S x → AllC x rs) (k : wpG P ops Q q fuel S listed' (actd n dl (upds f us)) w) : wpG P ops Q q fuel' S listed (actd n dl f) w := by
  subst hf
  exact wpG_seg_aux hQ hS is listed f rs us rs listed' fuel h hc k

/-- the one that must come now -/
theorem wpG_exec {q : Bool} {S : World → Prop} {fuel : Nat} {listed : Array Bool} (i : Nat) {o : Oper} {a : Act} (hr : Region.ready .any ops listed = [i]) (hi : ops[i]? = some o)
    (h : wpList P ops (Exit.then (fun a' w' => ∃ S' : World → Prop, (∀ x, S' x → S x) ∧ ((q = false ∧ AllListed ops (listed.setIfInBounds i true)) ∨ S' w') ∧ wpG P ops Q q fuel S' (listed.setIfInBounds i true) a' w') Q) [o] a w) :
    wpG P ops Q q (fuel + 1) S listed a w := by
  refine ⟨fun h0 => (by rw [h0] at hr; cases hr), fun j hj => ?_⟩
  rw [hr] at hj
  obtain rfl : j = i := by simpa using hj
  unfold wpOp
  simp only [hi]
  unfold wpList at h
  split
  · rename_i hw
    rw [if_pos hw] at h
    refine h.imp (fun h => ?_) (fun h => ⟨h.1, ?_⟩)
    · unfold Oper.wp at h ⊢
      generalize (execOp a.eval o).run P w = r at h ⊢
      cases r with
      | ok x w' =>
        cases x with
        | enter fid args => exact Calls.mono h fun e w'' he => by cases e <;> exact he
        | _ => exact h
      | halt x w' => cases x <;> exact h
    · obtain ⟨a0, w0, h0⟩ := h.2
      exact ⟨a0, w0, h0⟩
  · rename_i hw
    rw [if_neg hw] at h
    exact h

/-- several may come now -/
theorem wpG_pick {q : Bool} {S : World → Prop} {fuel : Nat} {listed : Array Bool} (is : List Nat) {a : Act} (hr : Region.ready .any ops listed = is) (hne : is ≠ [])
    (h : ∀ i ∈ is, ∃ o, ops[i]? = some o ∧ wpList P ops (Exit.then (fun a' w' => ∃ S' : World → Prop, (∀ x, S' x → S x) ∧ ((q = false ∧ AllListed ops (listed.setIfInBounds i true)) ∨ S' w') ∧ wpG P ops Q q fuel S' (listed.setIfInBounds i true) a' w') Q) [o] a w) :
    wpG P ops Q q (fuel + 1) S listed a w := by
  refine ⟨fun h0 => absurd (hr.symm.trans h0) hne, fun j hj => ?_⟩
  rw [hr] at hj
  obtain ⟨o, hi, h⟩ := h j hj
  unfold wpOp
  simp only [hi]
  unfold wpList at h
  split
  · rename_i hw
    rw [if_pos hw] at h
    refine h.imp (fun h => ?_) (fun h => ⟨h.1, ?_⟩)
    · unfold Oper.wp at h ⊢
      generalize (execOp a.eval o).run P w = r at h ⊢
      cases r with
      | ok x w' =>
        cases x with
        | enter fid args => exact Calls.mono h fun e w'' he => by cases e <;> exact he
        | _ => exact h
      | halt x w' => cases x <;> exact h
    · obtain ⟨a0, w0, h0⟩ := h.2
      exact ⟨a0, w0, h0⟩
  · rename_i hw
    rw [if_neg hw] at h
    exact h

theorem wpG_done {q : Bool} {S : World → Prop} {fuel : Nat} {listed : Array Bool} {a : Act} (hr : Region.ready .any ops listed = []) (h : Q .normal a w) : wpG P ops Q q fuel S listed a w := by
  cases fuel with
  | zero => exact ⟨hr, h⟩
  | succ fuel => exact ⟨fun _ => h, by rw [hr]; simp⟩

theorem wc_draw (q : Bool) {id : Nat} {a : Act} (S : World → Prop) (hm : P.follows .mixedOrders = true) (h : wpG P ops Q q ops.size S (Array.replicate ops.size false) a { w with drawn := w.drawn + 1 }) : (Code.region id ops true).wp P Q a w :=
  wp_region_any hm (wpAny_of_G _ _ _ _ _ h)

theorem allListed_of (listed : Array Bool) (h : (List.range ops.size).all (fun j => listed.getD j false) = true) : AllListed ops listed := by
  intro j hj
  rw [List.all_eq_true] at h
  exact h j (List.mem_range.2 hj)
end
end Go.Proofs.YtfnaahkgegfbnaaGreatDoor
