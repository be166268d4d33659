/- The base of the walks: frames as functions, what is sealed, what is owned, and one law for each operation. -/
import Derived.Test.YtfnaahkgegfbnaaGreatDoorProg
import Derived.WalkKit
import Derived.Maps.AppendAt
import Derived.LoopN
import Derived.OrdersHeld
set_option linter.unusedVariables false
set_option linter.unusedSimpArgs false
namespace Go.Proofs.YtfnaahkgegfbnaaGreatDoor

/-! ### Frames -/
abbrev Fr := Nat → Value
def upd (f : Fr) (d : Nat) (v : Value) : Fr := fun i => bif Nat.beq i d then v else f i
def actd (n : Nat) (dl : List Deferred) (f : Fr) : Act := ⟨(Array.range n).map f, dl⟩
abbrev act (n : Nat) (f : Fr) : Act := actd n [] f
def evo (n : Nat) (f : Fr) : Operand → Value
  | .tmp t => bif Nat.blt t n then f t else undef
  | .const v => v
  | .global g => .pointer (some ⟨g, 0, none⟩)
  | .func fn => .func (.func fn) #[] #[]
def updo (f : Fr) : Option Nat → Value → Fr
  | some d, v => upd f d v
  | none, _ => f

theorem blt_t {t n : Nat} (h : t < n) : Nat.blt t n = true := by rw [Nat.blt_eq]; exact h
theorem blt_f {t n : Nat} (h : ¬ t < n) : Nat.blt t n = false := by
  rw [Bool.eq_false_iff]; intro hh; rw [Nat.blt_eq] at hh; exact h hh
theorem beq_f {i d : Nat} (h : i ≠ d) : Nat.beq i d = false := by
  rw [Bool.eq_false_iff]; intro hh; exact h (Nat.eq_of_beq_eq_true hh)

theorem act_eval (n : Nat) (dl : List Deferred) (f : Fr) : (actd n dl f).eval = evo n f := by
  funext x
  cases x <;> try rfl
  rename_i t
  simp only [Act.eval, actd, evo, Array.getD_eq_getD_getElem?, Array.getElem?_map]
  by_cases h : t < n
  · simp [h, blt_t h]
  · simp [h, blt_f h]

theorem act_put (n : Nat) (dl : List Deferred) (f : Fr) (d : Option Nat) (v : Value) : (actd n dl f).put d v = actd n dl (updo f d v) := by
  cases d with
  | none => rfl
  | some d =>
    simp only [Act.put, actd, updo, Act.mk.injEq, and_true]
    apply Array.ext
    · simp
    · intro i h1 h2
      by_cases h : d = i
      · subst h; simp [upd, Nat.beq_refl]
      · rw [Array.getElem_setIfInBounds_ne (by simpa using h2) h]
        simp [upd, beq_f (Ne.symm h)]

theorem act_tmps_getD (n : Nat) (dl : List Deferred) (f : Fr) (t : Nat) : (actd n dl f).tmps.getD t undef = evo n f (.tmp t) := by
  have := congrFun (act_eval n dl f) (.tmp t)
  simpa [Act.eval] using this

/-- what a guard's operation has yielded, read off the frame -/
def yldf (ops : Array Oper) (n : Nat) (f : Fr) (j : Nat) : Option Bool :=
  match (ops[j]?).bind (·.dst) with
  | some d => bif Nat.blt d n then (match f d with | .bool b => some b | _ => none) else none
  | none => none

theorem yielded_act (ops : Array Oper) (n : Nat) (dl : List Deferred) (f : Fr) (j : Nat) : yielded ops (actd n dl f).tmps j = yldf ops n f j := by
  unfold yielded yldf
  cases h : (ops[j]?).bind (·.dst) with
  | none => simp
  | some d =>
    simp only [actd, Option.bind_some, Array.getElem?_map]
    by_cases hd : d < n
    · simp only [hd, blt_t hd, cond_true, Array.getElem?_range, Option.map_some, if_true]
      cases f d <;> rfl
    · simp [hd, blt_f hd]

/-- the frame at the entry of a call -/
def frOf (args : List Value) : Fr := fun i => args.getD i undef
theorem act_enter (args : Array Value) (n : Nat) (h : args.size ≤ n) :
    ({ tmps := args ++ Array.replicate (n - args.size) undef, defers := [] } : Act) = act n (frOf args.toList) := by
  simp only [act, actd, Act.mk.injEq, and_true]
  apply Array.ext
  · simp; omega
  · intro i h1 h2
    simp only [Array.getElem_map, Array.getElem_range, frOf]
    rw [Array.getElem_append]
    split
    · rename_i hi; simp [List.getD_eq_getElem?_getD, hi]
    · rename_i hi
      have : args.size ≤ i := by omega
      simp [List.getD_eq_getElem?_getD, Array.getElem?_eq_none this]

/-! ### What is sealed, what is owned -/
abbrev Mem := Nat → Option Obj
def Mem.le (m m' : Mem) : Prop := ∀ b o, m b = some o → m' b = some o
theorem Mem.le.refl (m : Mem) : m.le m := fun _ _ h => h
theorem Mem.le.trans {a b c : Mem} (h : a.le b) (k : b.le c) : a.le c := fun x o e => k x o (h x o e)

inductive Asr where
  | obj (b : Nat) (t : TypeId) (cs : List Value)
  | row (e : TypeId) (size : Nat) (v : Value) (n : Nat) (cs : List Value)
def Asr.holds (w : World) : Asr → Prop
  | .obj b t cs => w.heap[b]? = some (.cells ⟨cs⟩ t (0, 0))
  | .row e s v n cs => w.ownsRow 0 e s v n cs
def Asr.blk : Asr → Option Nat
  | .obj b _ _ => some b
  | .row _ _ v _ _ => v.ownBlock

structure St (g : World) (m : Mem) (L : List Asr) (w : World) : Prop where
  mem : ∀ b o, m b = some o → w.heap[b]? = some o
  own : ∀ A ∈ L, A.holds w
  nod : (L.filterMap Asr.blk).Nodup
  sep : ∀ A ∈ L, ∀ b, A.blk = some b → m b = none
  os : w.os = g.os
  tape : w.tape = g.tape
  output : w.output = g.output

theorem lt_of_heap {w : World} {b : Nat} {o : Obj} (h : w.heap[b]? = some o) : b < w.heap.size := (Array.getElem?_eq_some_iff.1 h).1

theorem Asr.blk_lt {w : World} {A : Asr} (h : A.holds w) {b : Nat} (hb : A.blk = some b) : b < w.heap.size := by
  cases A with
  | obj b' t cs => simp only [Asr.blk, Option.some.injEq] at hb; subst hb; exact lt_of_heap h
  | row e s v n cs => exact (World.ownsRow.lt h b hb).2

/-- only the blocks of another matter -/
theorem Asr.holds_of_heap {w w' : World} {A : Asr} (h : A.holds w) (hb : ∀ b, A.blk = some b → w'.heap[b]? = w.heap[b]?) : A.holds w' := by
  cases A with
  | obj b t cs => exact (hb b rfl).trans h
  | row e s v n cs =>
    obtain ⟨h1, h2⟩ := h
    refine ⟨h1, ?_⟩
    rcases h2 with h2 | ⟨g, cap, cur, rfl, h3, h4, h5⟩
    · exact .inl h2
    · exact .inr ⟨g, cap, cur, rfl, h3, (hb g rfl).trans h4, h5⟩

theorem St.drew {g : World} {m : Mem} {L : List Asr} {w : World} (h : St g m L w) : St g m L { w with drawn := w.drawn + 1 } :=
  ⟨h.mem, fun A hA => Asr.holds_of_heap (h.own A hA) (fun _ _ => rfl), h.nod, h.sep, h.os, h.tape, h.output⟩

/-- sub-lists, permutations -/
theorem St.sub {g : World} {m : Mem} {L L' : List Asr} {w : World} (h : St g m L w) (hs : L'.Sublist L) : St g m L' w :=
  ⟨h.mem, fun A hA => h.own A (hs.subset hA), h.nod.sublist (hs.filterMap _), fun A hA => h.sep A (hs.subset hA), h.os, h.tape, h.output⟩
theorem St.perm {g : World} {m : Mem} {L L' : List Asr} {w : World} (h : St g m L w) (hp : L'.Perm L) : St g m L' w :=
  ⟨h.mem, fun A hA => h.own A (hp.subset hA), (hp.filterMap _).nodup_iff.2 h.nod, fun A hA => h.sep A (hp.subset hA), h.os, h.tape, h.output⟩
theorem St.drop {g : World} {m : Mem} {L : List Asr} {w : World} (i : Nat) (h : St g m L w) : St g m (L.eraseIdx i) w := h.sub (List.eraseIdx_sublist _ _)
theorem perm_front {L : List Asr} {A : Asr} : ∀ {i : Nat}, L[i]? = some A → (A :: L.eraseIdx i).Perm L := by
  induction L with
  | nil => intro i h; simp at h
  | cons B L ih =>
    intro i h
    cases i with
    | zero => simp at h; subst h; exact List.Perm.refl _
    | succ i =>
      simp only [List.getElem?_cons_succ] at h
      simp only [List.eraseIdx_cons_succ]
      exact (List.Perm.swap _ _ _).trans ((ih h).cons B)
theorem St.front {g : World} {m : Mem} {L : List Asr} {w : World} {A : Asr} (i : Nat) (hi : L[i]? = some A) (h : St g m L w) : St g m (A :: L.eraseIdx i) w := h.perm (perm_front hi)

theorem St.heap_lt {g : World} {m : Mem} {L : List Asr} {w : World} (h : St g m L w) {b : Nat} {o : Obj} (hb : m b = some o) : b < w.heap.size := lt_of_heap (h.mem b o hb)

/-- a new block, owned -/
theorem St.alloc {g : World} {m : Mem} {L : List Asr} {w : World} (h : St g m L w) (t : TypeId) (cs : List Value) :
    St g m (.obj w.heap.size t cs :: L) (w.alloc (.cells ⟨cs⟩ t (0, 0))) := by
  refine ⟨fun b o hb => ?_, fun A hA => ?_, ?_, fun A hA b hb => ?_, h.os, h.tape, h.output⟩
  · rw [heap_alloc_old _ _ (h.heap_lt hb)]; exact h.mem b o hb
  · rcases List.mem_cons.1 hA with rfl | hA
    · exact heap_alloc_new _ _
    · exact Asr.holds_of_heap (h.own A hA) fun b hb => heap_alloc_old _ _ (Asr.blk_lt (h.own A hA) hb)
  · simp only [List.filterMap_cons, Asr.blk]
    refine List.nodup_cons.2 ⟨fun hm => ?_, h.nod⟩
    obtain ⟨A, hA, hb⟩ := List.mem_filterMap.1 hm
    exact Nat.lt_irrefl _ (Asr.blk_lt (h.own A hA) hb)
  · rcases List.mem_cons.1 hA with rfl | hA
    · simp only [Asr.blk, Option.some.injEq] at hb
      subst hb
      cases hm : m w.heap.size with
      | none => rfl
      | some o => exact absurd (h.heap_lt hm) (Nat.lt_irrefl _)
    · exact h.sep A hA b hb

/-- a new block, sealed -/
def Mem.put (m : Mem) (b : Nat) (o : Obj) : Mem := fun i => if i = b then some o else m i
theorem Mem.put_le {m : Mem} {b : Nat} {o : Obj} (h : m b = none) : m.le (m.put b o) := by
  intro x p hx
  unfold Mem.put
  split
  · rename_i e; subst e; rw [h] at hx; cases hx
  · exact hx
theorem Mem.put_same (m : Mem) (b : Nat) (o : Obj) : (m.put b o) b = some o := by simp [Mem.put]

theorem St.seal_obj {g : World} {m : Mem} {b : Nat} {t : TypeId} {cs : List Value} {L : List Asr} {w : World} (h : St g m (.obj b t cs :: L) w) :
    m.le (m.put b (.cells ⟨cs⟩ t (0, 0))) ∧ St g (m.put b (.cells ⟨cs⟩ t (0, 0))) L w := by
  have hn : m b = none := h.sep _ List.mem_cons_self b rfl
  refine ⟨Mem.put_le hn, fun b' o hb => ?_, fun A hA => h.own A (List.mem_cons_of_mem _ hA), ?_, fun A hA b' hb => ?_, h.os, h.tape, h.output⟩
  · unfold Mem.put at hb
    split at hb
    · rename_i e; subst e; cases hb; exact h.own _ List.mem_cons_self
    · exact h.mem b' o hb
  · have := h.nod; simp only [List.filterMap_cons, Asr.blk] at this; exact (List.nodup_cons.1 this).2
  · have hne : b' ≠ b := by
      intro e; subst e
      have := h.nod; simp only [List.filterMap_cons, Asr.blk] at this
      exact (List.nodup_cons.1 this).1 (List.mem_filterMap.2 ⟨A, hA, hb⟩)
    simp only [Mem.put, hne, if_false]
    exact h.sep A (List.mem_cons_of_mem _ hA) b' hb

/-- a store into an owned block -/
theorem St.set {g : World} {m : Mem} {L : List Asr} {w : World} (h : St g m L w) {i : Nat} {b : Nat} {t : TypeId} {cs : List Value} (hi : L[i]? = some (.obj b t cs)) (off : Nat) (v : Value) :
    St g m (L.set i (.obj b t (cs.set off v))) (w.setCell ⟨b, off, none⟩ v) := by
  have hb : w.heap[b]? = some (.cells ⟨cs⟩ t (0, 0)) := h.own _ (List.mem_of_getElem? hi)
  have hsame := heap_setCell_same w b off ⟨cs⟩ t v hb
  have hmap : (L.set i (.obj b t (cs.set off v))).map Asr.blk = L.map Asr.blk := by
    rw [List.map_set]
    apply List.ext_getElem?
    intro j
    rw [List.getElem?_set]
    split
    · rename_i e; subst e
      split
      · rename_i hlt; simp [hi, Asr.blk]
      · rename_i hlt; simp at hlt; simp [List.getElem?_eq_none hlt]
    · rfl
  have hfm : (L.set i (.obj b t (cs.set off v))).filterMap Asr.blk = L.filterMap Asr.blk := by
    have e : ∀ l : List Asr, l.filterMap Asr.blk = (l.map Asr.blk).filterMap id := fun l => by rw [List.filterMap_map]; rfl
    rw [e, e, hmap]
  have hilt : i < L.length := by
    rcases Nat.lt_or_ge i L.length with h' | h'
    · exact h'
    · rw [List.getElem?_eq_none h'] at hi; cases hi
  -- another entry has another block
  have other : ∀ j A, L[j]? = some A → j ≠ i → ∀ c, A.blk = some c → c ≠ b := by
    intro j A hj hne c hc e
    subst e
    have hp := perm_front hi
    have hn := ((hp.filterMap Asr.blk).nodup_iff.2 h.nod)
    simp only [List.filterMap_cons, Asr.blk] at hn
    refine (List.nodup_cons.1 hn).1 (List.mem_filterMap.2 ⟨A, ?_, hc⟩)
    refine List.mem_eraseIdx_iff_getElem?.2 ⟨j, hne, hj⟩
  refine ⟨fun b' o hb' => ?_, fun A hA => ?_, by rw [hfm]; exact h.nod, fun A hA c hc => ?_, h.os, h.tape, h.output⟩
  · have hne : b' ≠ b := by
      intro e; subst e
      rw [h.sep _ (List.mem_of_getElem? hi) b' rfl] at hb'; cases hb'
    rw [heap_setCell_other _ _ _ _ hne]
    exact h.mem b' o hb'
  · obtain ⟨j, hj⟩ := List.getElem?_of_mem hA
    rw [List.getElem?_set] at hj
    by_cases e : i = j
    · subst e
      simp only [if_true, hilt] at hj
      cases hj
      have : ((⟨cs⟩ : Array Value).setIfInBounds off v) = ⟨cs.set off v⟩ := by simp
      rw [this] at hsame
      exact hsame
    · rw [if_neg e] at hj
      refine Asr.holds_of_heap (h.own A (List.mem_of_getElem? hj)) fun c hc => ?_
      exact heap_setCell_other _ _ _ _ (other j A hj (Ne.symm e) c hc)
  · obtain ⟨j, hj⟩ := List.getElem?_of_mem hA
    rw [List.getElem?_set] at hj
    by_cases e : i = j
    · subst e
      simp only [if_true, hilt] at hj
      cases hj
      exact h.sep _ (List.mem_of_getElem? hi) c hc
    · rw [if_neg e] at hj
      exact h.sep A (List.mem_of_getElem? hj) c hc

end Go.Proofs.YtfnaahkgegfbnaaGreatDoor
