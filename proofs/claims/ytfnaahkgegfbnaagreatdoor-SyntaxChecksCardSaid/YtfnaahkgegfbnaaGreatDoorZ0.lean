/- Texts joined by a program of this session: B0, B1, B2, B3, B4, B5, B6, B7, B8, B9, B10, B11, Shelf, B12, B13, B14, B15, SC, PK. -/
import Derived.Test.YtfnaahkgegfbnaaGreatDoorProg
import Derived.WalkKit
import Derived.Maps.AppendAt
import Derived.LoopN
import Derived.OrdersHeld
import Derived.Lib.AppendStr
import Derived.Lib.Strings
import Derived.Defers
import Derived.Laws.BytesArg
import Derived.Laws.StructEq
import Derived.Lib.LaidTab
import Derived.Lib.ItoaNum
import Derived.Lib.Space
import Derived.WideLaws
import Derived.Laws.Entries
import Derived.Recover
import Derived.Shelf.Strconv.Atoi
import Derived.Shelf.Strconv.Itoa0
import Derived.Shelf.Strconv.Itoa1
import Derived.Shelf.LaysM
import Derived.Shelf.Strconv.Itoa2
import Derived.Shelf.Strconv.Itoa3
import Derived.Shelf.Strings.Fields
import Derived.MapKept
import Derived.Test.YtfnaahkgegfbnaaGreatDoorRows
import Derived.ProofKit
import Derived.OpenShut
import Derived.LaidMore
import Derived.MakeChecks
import Derived.SliceStrings
import Derived.Stop.LaidErr
import Derived.Below
import Derived.Carry
set_option linter.unusedVariables false
set_option linter.unusedSimpArgs false
namespace Go.Proofs.YtfnaahkgegfbnaaGreatDoor
abbrev Fr := Nat → Value
def upd (f : Fr) (d : Nat) (v : Value) : Fr := fun i => bif Nat.beq i d then v else f i
def actd (n : Nat) (dl : List Deferred) (f : Fr) : Act := ⟨(Array.range n).map f, dl⟩
abbrev act (n : Nat) (f : Fr) : Act := actd n [] f
def evo (n : Nat) (f : Fr) : Operand → Value
  | .tmp t => bif Nat.blt t n then f t else undef
  | .const v => v
  | .global g => .pointer (some ⟨g, 0, none⟩)
  | .func fn => .func (.func fn) #[] #[]
def updo (f : Fr) : Option Nat → Value → Fr
  | some d, v => upd f d v
  | none, _ => f
theorem blt_t {t n : Nat} (h : t < n) : Nat.blt t n = true := by rw [Nat.blt_eq]; exact h
theorem blt_f {t n : Nat} (h : ¬ t < n) : Nat.blt t n = false := by
  rw [Bool.eq_false_iff]; intro hh; rw [Nat.blt_eq] at hh; exact h hh
theorem beq_f {i d : Nat} (h : i ≠ d) : Nat.beq i d = false := by
  rw [Bool.eq_false_iff]; intro hh; exact h (Nat.eq_of_beq_eq_true hh)
theorem act_eval (n : Nat) (dl : List Deferred) (f : Fr) : (actd n dl f).eval = evo n f := by
  funext x
  cases x <;> try rfl
  rename_i t
  simp only [Act.eval, actd, evo, Array.getD_eq_getD_getElem?, Array.getElem?_map]
  by_cases h : t < n
  · simp [h, blt_t h]
  · simp [h, blt_f h]
theorem act_put (n : Nat) (dl : List Deferred) (f : Fr) (d : Option Nat) (v : Value) : (actd n dl f).put d v = actd n dl (updo f d v) := by
  cases d with
  | none => rfl
  | some d =>
    simp only [Act.put, actd, updo, Act.mk.injEq, and_true]
    apply Array.ext
    · simp
    · intro i h1 h2
      by_cases h : d = i
      · subst h; simp [upd, Nat.beq_refl]
      · rw [Array.getElem_setIfInBounds_ne (by simpa using h2) h]
        simp [upd, beq_f (Ne.symm h)]
theorem act_tmps_getD (n : Nat) (dl : List Deferred) (f : Fr) (t : Nat) : (actd n dl f).tmps.getD t undef = evo n f (.tmp t) := by
  have := congrFun (act_eval n dl f) (.tmp t)
  simpa [Act.eval] using this
def yldf (ops : Array Oper) (n : Nat) (f : Fr) (j : Nat) : Option Bool :=
  match (ops[j]?).bind (·.dst) with
  | some d => bif Nat.blt d n then (match f d with | .bool b => some b | _ => none) else none
  | none => none
theorem yielded_act (ops : Array Oper) (n : Nat) (dl : List Deferred) (f : Fr) (j : Nat) : yielded ops (actd n dl f).tmps j = yldf ops n f j := by
  unfold yielded yldf
  cases h : (ops[j]?).bind (·.dst) with
  | none => simp
  | some d =>
    simp only [actd, Option.bind_some, Array.getElem?_map]
    by_cases hd : d < n
    · simp only [hd, blt_t hd, cond_true, Array.getElem?_range, Option.map_some, if_true]
      cases f d <;> rfl
    · simp [hd, blt_f hd]
def frOf (args : List Value) : Fr := fun i => args.getD i undef
theorem act_enter (args : Array Value) (n : Nat) (h : args.size ≤ n) :
    ({ tmps := args ++ Array.replicate (n - args.size) undef, defers := [] } : Act) = act n (frOf args.toList) := by
  simp only [act, actd, Act.mk.injEq, and_true]
  apply Array.ext
  · simp; omega
  · intro i h1 h2
    simp only [Array.getElem_map, Array.getElem_range, frOf]
    rw [Array.getElem_append]
    split
    · rename_i hi; simp [List.getD_eq_getElem?_getD, hi]
    · rename_i hi
      have : args.size ≤ i := by omega
      simp [List.getD_eq_getElem?_getD, Array.getElem?_eq_none this]
abbrev Mem := Nat → Option Obj
def Mem.le (m m' : Mem) : Prop := ∀ b o, m b = some o → m' b = some o
theorem Mem.le.refl (m : Mem) : m.le m := fun _ _ h => h
theorem Mem.le.trans {a b c : Mem} (h : a.le b) (k : b.le c) : a.le c := fun x o e => k x o (h x o e)
inductive Asr where
  | obj (b : Nat) (t : TypeId) (cs : List Value)
  | row (e : TypeId) (size : Nat) (v : Value) (n : Nat) (cs : List Value)
def Asr.holds (w : World) : Asr → Prop
  | .obj b t cs => w.heap[b]? = some (.cells ⟨cs⟩ t (0, 0))
  | .row e s v n cs => w.ownsRow 0 e s v n cs
def Asr.blk : Asr → Option Nat
  | .obj b _ _ => some b
  | .row _ _ v _ _ => v.ownBlock
structure St (g : World) (m : Mem) (L : List Asr) (w : World) : Prop where
  mem : ∀ b o, m b = some o → w.heap[b]? = some o
  own : ∀ A ∈ L, A.holds w
  nod : (L.filterMap Asr.blk).Nodup
  sep : ∀ A ∈ L, ∀ b, A.blk = some b → m b = none
  os : w.os = g.os
  tape : w.tape = g.tape
  output : w.output = g.output
theorem lt_of_heap {w : World} {b : Nat} {o : Obj} (h : w.heap[b]? = some o) : b < w.heap.size := (Array.getElem?_eq_some_iff.1 h).1
theorem Asr.blk_lt {w : World} {A : Asr} (h : A.holds w) {b : Nat} (hb : A.blk = some b) : b < w.heap.size := by
  cases A with
  | obj b' t cs => simp only [Asr.blk, Option.some.injEq] at hb; subst hb; exact lt_of_heap h
  | row e s v n cs => exact (World.ownsRow.lt h b hb).2
theorem Asr.holds_of_heap {w w' : World} {A : Asr} (h : A.holds w) (hb : ∀ b, A.blk = some b → w'.heap[b]? = w.heap[b]?) : A.holds w' := by
  cases A with
  | obj b t cs => exact (hb b rfl).trans h
  | row e s v n cs =>
    obtain ⟨h1, h2⟩ := h
    refine ⟨h1, ?_⟩
    rcases h2 with h2 | ⟨g, cap, cur, rfl, h3, h4, h5⟩
    · exact .inl h2
    · exact .inr ⟨g, cap, cur, rfl, h3, (hb g rfl).trans h4, h5⟩
theorem St.drew {g : World} {m : Mem} {L : List Asr} {w : World} (h : St g m L w) : St g m L { w with drawn := w.drawn + 1 } :=
  ⟨h.mem, fun A hA => Asr.holds_of_heap (h.own A hA) (fun _ _ => rfl), h.nod, h.sep, h.os, h.tape, h.output⟩
theorem St.sub {g : World} {m : Mem} {L L' : List Asr} {w : World} (h : St g m L w) (hs : L'.Sublist L) : St g m L' w :=
  ⟨h.mem, fun A hA => h.own A (hs.subset hA), h.nod.sublist (hs.filterMap _), fun A hA => h.sep A (hs.subset hA), h.os, h.tape, h.output⟩
theorem St.perm {g : World} {m : Mem} {L L' : List Asr} {w : World} (h : St g m L w) (hp : L'.Perm L) : St g m L' w :=
  ⟨h.mem, fun A hA => h.own A (hp.subset hA), (hp.filterMap _).nodup_iff.2 h.nod, fun A hA => h.sep A (hp.subset hA), h.os, h.tape, h.output⟩
theorem St.drop {g : World} {m : Mem} {L : List Asr} {w : World} (i : Nat) (h : St g m L w) : St g m (L.eraseIdx i) w := h.sub (List.eraseIdx_sublist _ _)
theorem perm_front {L : List Asr} {A : Asr} : ∀ {i : Nat}, L[i]? = some A → (A :: L.eraseIdx i).Perm L := by
  induction L with
  | nil => intro i h; simp at h
  | cons B L ih =>
    intro i h
    cases i with
    | zero => simp at h; subst h; exact List.Perm.refl _
    | succ i =>
      simp only [List.getElem?_cons_succ] at h
      simp only [List.eraseIdx_cons_succ]
      exact (List.Perm.swap _ _ _).trans ((ih h).cons B)
theorem St.front {g : World} {m : Mem} {L : List Asr} {w : World} {A : Asr} (i : Nat) (hi : L[i]? = some A) (h : St g m L w) : St g m (A :: L.eraseIdx i) w := h.perm (perm_front hi)
theorem St.heap_lt {g : World} {m : Mem} {L : List Asr} {w : World} (h : St g m L w) {b : Nat} {o : Obj} (hb : m b = some o) : b < w.heap.size := lt_of_heap (h.mem b o hb)
theorem St.alloc {g : World} {m : Mem} {L : List Asr} {w : World} (h : St g m L w) (t : TypeId) (cs : List Value) :
    St g m (.obj w.heap.size t cs :: L) (w.alloc (.cells ⟨cs⟩ t (0, 0))) := by
  refine ⟨fun b o hb => ?_, fun A hA => ?_, ?_, fun A hA b hb => ?_, h.os, h.tape, h.output⟩
  · rw [heap_alloc_old _ _ (h.heap_lt hb)]; exact h.mem b o hb
  · rcases List.mem_cons.1 hA with rfl | hA
    · exact heap_alloc_new _ _
    · exact Asr.holds_of_heap (h.own A hA) fun b hb => heap_alloc_old _ _ (Asr.blk_lt (h.own A hA) hb)
  · simp only [List.filterMap_cons, Asr.blk]
    refine List.nodup_cons.2 ⟨fun hm => ?_, h.nod⟩
    obtain ⟨A, hA, hb⟩ := List.mem_filterMap.1 hm
    exact Nat.lt_irrefl _ (Asr.blk_lt (h.own A hA) hb)
  · rcases List.mem_cons.1 hA with rfl | hA
    · simp only [Asr.blk, Option.some.injEq] at hb
      subst hb
      cases hm : m w.heap.size with
      | none => rfl
      | some o => exact absurd (h.heap_lt hm) (Nat.lt_irrefl _)
    · exact h.sep A hA b hb
def Mem.put (m : Mem) (b : Nat) (o : Obj) : Mem := fun i => if i = b then some o else m i
theorem Mem.put_le {m : Mem} {b : Nat} {o : Obj} (h : m b = none) : m.le (m.put b o) := by
  intro x p hx
  unfold Mem.put
  split
  · rename_i e; subst e; rw [h] at hx; cases hx
  · exact hx
theorem Mem.put_same (m : Mem) (b : Nat) (o : Obj) : (m.put b o) b = some o := by simp [Mem.put]
theorem St.seal_obj {g : World} {m : Mem} {b : Nat} {t : TypeId} {cs : List Value} {L : List Asr} {w : World} (h : St g m (.obj b t cs :: L) w) :
    m.le (m.put b (.cells ⟨cs⟩ t (0, 0))) ∧ St g (m.put b (.cells ⟨cs⟩ t (0, 0))) L w := by
  have hn : m b = none := h.sep _ List.mem_cons_self b rfl
  refine ⟨Mem.put_le hn, fun b' o hb => ?_, fun A hA => h.own A (List.mem_cons_of_mem _ hA), ?_, fun A hA b' hb => ?_, h.os, h.tape, h.output⟩
  · unfold Mem.put at hb
    split at hb
    · rename_i e; subst e; cases hb; exact h.own _ List.mem_cons_self
    · exact h.mem b' o hb
  · have := h.nod; simp only [List.filterMap_cons, Asr.blk] at this; exact (List.nodup_cons.1 this).2
  · have hne : b' ≠ b := by
      intro e; subst e
      have := h.nod; simp only [List.filterMap_cons, Asr.blk] at this
      exact (List.nodup_cons.1 this).1 (List.mem_filterMap.2 ⟨A, hA, hb⟩)
    simp only [Mem.put, hne, if_false]
    exact h.sep A (List.mem_cons_of_mem _ hA) b' hb
theorem St.set {g : World} {m : Mem} {L : List Asr} {w : World} (h : St g m L w) {i : Nat} {b : Nat} {t : TypeId} {cs : List Value} (hi : L[i]? = some (.obj b t cs)) (off : Nat) (v : Value) :
    St g m (L.set i (.obj b t (cs.set off v))) (w.setCell ⟨b, off, none⟩ v) := by
  have hb : w.heap[b]? = some (.cells ⟨cs⟩ t (0, 0)) := h.own _ (List.mem_of_getElem? hi)
  have hsame := heap_setCell_same w b off ⟨cs⟩ t v hb
  have hmap : (L.set i (.obj b t (cs.set off v))).map Asr.blk = L.map Asr.blk := by
    rw [List.map_set]
    apply List.ext_getElem?
    intro j
    rw [List.getElem?_set]
    split
    · rename_i e; subst e
      split
      · rename_i hlt; simp [hi, Asr.blk]
      · rename_i hlt; simp at hlt; simp [List.getElem?_eq_none hlt]
    · rfl
  have hfm : (L.set i (.obj b t (cs.set off v))).filterMap Asr.blk = L.filterMap Asr.blk := by
    have e : ∀ l : List Asr, l.filterMap Asr.blk = (l.map Asr.blk).filterMap id := fun l => by rw [List.filterMap_map]; rfl
    rw [e, e, hmap]
  have hilt : i < L.length := by
    rcases Nat.lt_or_ge i L.length with h' | h'
    · exact h'
    · rw [List.getElem?_eq_none h'] at hi; cases hi
  have other : ∀ j A, L[j]? = some A → j ≠ i → ∀ c, A.blk = some c → c ≠ b := by
    intro j A hj hne c hc e
    subst e
    have hp := perm_front hi
    have hn := ((hp.filterMap Asr.blk).nodup_iff.2 h.nod)
    simp only [List.filterMap_cons, Asr.blk] at hn
    refine (List.nodup_cons.1 hn).1 (List.mem_filterMap.2 ⟨A, ?_, hc⟩)
    refine List.mem_eraseIdx_iff_getElem?.2 ⟨j, hne, hj⟩
  refine ⟨fun b' o hb' => ?_, fun A hA => ?_, by rw [hfm]; exact h.nod, fun A hA c hc => ?_, h.os, h.tape, h.output⟩
  · have hne : b' ≠ b := by
      intro e; subst e
      rw [h.sep _ (List.mem_of_getElem? hi) b' rfl] at hb'; cases hb'
    rw [heap_setCell_other _ _ _ _ hne]
    exact h.mem b' o hb'
  · obtain ⟨j, hj⟩ := List.getElem?_of_mem hA
    rw [List.getElem?_set] at hj
    by_cases e : i = j
    · subst e
      simp only [if_true, hilt] at hj
      cases hj
      have : ((⟨cs⟩ : Array Value).setIfInBounds off v) = ⟨cs.set off v⟩ := by simp
      rw [this] at hsame
      exact hsame
    · rw [if_neg e] at hj
      refine Asr.holds_of_heap (h.own A (List.mem_of_getElem? hj)) fun c hc => ?_
      exact heap_setCell_other _ _ _ _ (other j A hj (Ne.symm e) c hc)
  · obtain ⟨j, hj⟩ := List.getElem?_of_mem hA
    rw [List.getElem?_set] at hj
    by_cases e : i = j
    · subst e
      simp only [if_true, hilt] at hj
      cases hj
      exact h.sep _ (List.mem_of_getElem? hi) c hc
    · rw [if_neg e] at hj
      exact h.sep A (List.mem_of_getElem? hj) c hc
structure Ty (α : Type) where
  size : Nat
  R : Mem → α → List Value → Prop
  mono : ∀ {m m' : Mem} {x : α} {cs : List Value}, m.le m' → R m x cs → R m' x cs
  len : ∀ {m : Mem} {x : α} {cs : List Value}, R m x cs → cs.length = size
  one : ∀ {m : Mem} {x : α} {cs : List Value}, R m x cs → ∀ v ∈ cs, v.oneCell' = true
def At (m : Mem) (ad : Addr) (cs : List Value) : Prop :=
  ad.spot = none ∧ ∃ c t fr, m ad.block = some (.cells c t fr) ∧ ∀ j v, cs[j]? = some v → c[ad.off + j]? = some v
theorem At.mono {m m' : Mem} (h : m.le m') {ad : Addr} {cs : List Value} (k : At m ad cs) : At m' ad cs := by
  obtain ⟨hs, c, t, fr, hm, hc⟩ := k
  exact ⟨hs, c, t, fr, h _ _ hm, hc⟩
def RS {α : Type} (T : Ty α) (m : Mem) (v : Value) (xs : List α) : Prop :=
  ∃ A c, v = .slice A xs.length c ∧ xs.length ≤ c ∧ ∀ i x, xs[i]? = some x → ∃ ad cs, A = some ad ∧ T.R m x cs ∧ At m (ad.add (i * T.size)) cs
theorem RS.mono {α : Type} {T : Ty α} {m m' : Mem} (h : m.le m') {v : Value} {xs : List α} (k : RS T m v xs) : RS T m' v xs := by
  obtain ⟨A, c, e, hc, k⟩ := k
  refine ⟨A, c, e, hc, fun i x hx => ?_⟩
  obtain ⟨ad, cs, ha, hr, hat⟩ := k i x hx
  exact ⟨ad, cs, ha, T.mono h hr, hat.mono h⟩
theorem RS.nil {α : Type} (T : Ty α) (m : Mem) : RS T m (.slice none 0 0) [] := ⟨none, 0, rfl, Nat.le_refl _, fun i x hx => by simp at hx⟩
def RC {α : Type} (T : Ty α) (m : Mem) (xs : List α) (cs : List Value) : Prop :=
  cs.length = xs.length * T.size ∧ ∀ i x, xs[i]? = some x → T.R m x ((cs.drop (i * T.size)).take T.size)
theorem RC.mono {α : Type} {T : Ty α} {m m' : Mem} (h : m.le m') {xs : List α} {cs : List Value} (k : RC T m xs cs) : RC T m' xs cs :=
  ⟨k.1, fun i x hx => T.mono h (k.2 i x hx)⟩
theorem RC.nil {α : Type} (T : Ty α) (m : Mem) : RC T m [] [] := ⟨by simp, fun i x hx => by simp at hx⟩
theorem RC.append {α : Type} {T : Ty α} {m : Mem} {xs ys : List α} {cs ds : List Value} (h : RC T m xs cs) (k : RC T m ys ds) : RC T m (xs ++ ys) (cs ++ ds) := by
  refine ⟨by rw [List.length_append, List.length_append, h.1, k.1, Nat.add_mul], fun i x hx => ?_⟩
  rcases Nat.lt_or_ge i xs.length with hi | hi
  · rw [List.getElem?_append_left hi] at hx
    have h1 : i * T.size + T.size ≤ cs.length := by rw [h.1, ← Nat.succ_mul]; exact Nat.mul_le_mul_right _ hi
    rw [List.drop_append_of_le_length (by omega), List.take_append_of_le_length (by rw [List.length_drop]; omega)]
    exact h.2 i x hx
  · rw [List.getElem?_append_right hi] at hx
    have h2 := k.2 _ x hx
    have e : i * T.size = cs.length + (i - xs.length) * T.size := by rw [h.1, ← Nat.add_mul]; congr 1; omega
    rw [e, List.drop_append, List.drop_eq_nil_of_le (by omega)]
    simpa using h2
theorem RC.single {α : Type} {T : Ty α} {m : Mem} {x : α} {cs : List Value} (h : T.R m x cs) : RC T m [x] cs := by
  have hl := T.len h
  refine ⟨by simp [hl], fun i y hy => ?_⟩
  cases i with
  | zero => simp at hy; subst hy; simp [← hl]; exact h
  | succ i => simp at hy
theorem RC.cons {α : Type} {T : Ty α} {m : Mem} {x : α} {cs : List Value} {xs : List α} {ds : List Value} (h : T.R m x cs) (k : RC T m xs ds) : RC T m (x :: xs) (cs ++ ds) :=
  RC.append (RC.single h) k
theorem RC.one {α : Type} {T : Ty α} {m : Mem} {xs : List α} {cs : List Value} (h : RC T m xs cs) (hs : 0 < T.size) : ∀ v ∈ cs, v.oneCell' = true := by
  intro v hv
  obtain ⟨j, hj⟩ := List.getElem?_of_mem hv
  have hlt : j < cs.length := by
    rcases Nat.lt_or_ge j cs.length with h' | h'
    · exact h'
    · rw [List.getElem?_eq_none h'] at hj; cases hj
  have hq : j / T.size < xs.length := by rw [h.1] at hlt; exact Nat.div_lt_of_lt_mul (by rw [Nat.mul_comm]; exact hlt)
  refine T.one (h.2 (j / T.size) xs[j / T.size] (by simp [hq])) v ?_
  rw [List.mem_iff_getElem?]
  refine ⟨j % T.size, ?_⟩
  rw [List.getElem?_take, if_pos (Nat.mod_lt _ hs), List.getElem?_drop]
  rw [show j / T.size * T.size + j % T.size = j by rw [Nat.mul_comm]; exact Nat.div_add_mod j T.size]
  exact hj
theorem addr_add (ad : Addr) (n : Nat) (h : ad.spot = none) : ad.add n = ⟨ad.block, ad.off + n, none⟩ := by
  unfold Addr.add
  split
  · rename_i e; subst e; cases ad; simp at h; subst h; rfl
  · cases ad; simp at h; subst h; rfl
theorem St.seal_row {α : Type} {T : Ty α} {g : World} {m : Mem} {e : TypeId} {v : Value} {n : Nat} {cs : List Value} {xs : List α} {L : List Asr} {w : World}
    (h : St g m (.row e T.size v n cs :: L) w) (hn : n = xs.length) (hr : RC T m xs cs) : ∃ m', m.le m' ∧ St g m' L w ∧ RS T m' v xs := by
  subst hn
  have ho : w.ownsRow 0 e T.size v xs.length cs := h.own _ List.mem_cons_self
  rcases ho.2 with ⟨rfl, hn0⟩ | ⟨gb, cap, cur, rfl, _, hb, hle, _, _, hcur⟩
  · have : xs = [] := List.eq_nil_of_length_eq_zero hn0
    subst this
    exact ⟨m, Mem.le.refl m, h.sub (List.sublist_cons_self _ _), RS.nil T m⟩
  · have hL : St g m (.obj gb e cur.toList :: L) w := by
      refine ⟨h.mem, fun A hA => ?_, ?_, fun A hA b hb' => ?_, h.os, h.tape, h.output⟩
      · rcases List.mem_cons.1 hA with rfl | hA
        · exact hb
        · exact h.own A (List.mem_cons_of_mem _ hA)
      · exact h.nod
      · rcases List.mem_cons.1 hA with rfl | hA
        · exact h.sep _ List.mem_cons_self b hb'
        · exact h.sep A (List.mem_cons_of_mem _ hA) b hb'
    obtain ⟨hle', hst⟩ := hL.seal_obj
    refine ⟨_, hle', hst, some ⟨gb, 0, none⟩, cap, rfl, hle, fun i x hx => ?_⟩
    have hR := T.mono hle' (hr.2 i x hx)
    refine ⟨_, _, rfl, hR, ?_⟩
    rw [addr_add _ _ rfl]
    refine ⟨rfl, ⟨cur.toList⟩, e, (0, 0), Mem.put_same _ _ _, fun j u hj => ?_⟩
    have hjs : j < T.size := by
      have := T.len hR
      rcases Nat.lt_or_ge j T.size with h' | h'
      · exact h'
      · rw [List.getElem?_eq_none (by omega)] at hj; cases hj
    rw [List.getElem?_take, if_pos hjs, List.getElem?_drop, ← hcur, List.getElem?_take] at hj
    split at hj
    · simpa using hj
    · cases hj
structure Rd (m : Mem) (L : List Asr) (w : World) : Prop where
  mem : ∀ b o, m b = some o → w.heap[b]? = some o
  own : ∀ A ∈ L, A.holds w
theorem St.rd {g : World} {m : Mem} {L : List Asr} {w : World} (h : St g m L w) : Rd m L w := ⟨h.mem, h.own⟩
theorem Rd.cell {m : Mem} {L : List Asr} {w : World} (h : Rd m L w) {i b : Nat} {t : TypeId} {cs : List Value} (hi : L[i]? = some (.obj b t cs)) {off : Nat} {v : Value} (hc : cs[off]? = some v) :
    w.cell? ⟨b, off, none⟩ = some v := by
  have : w.heap[b]? = some (.cells ⟨cs⟩ t (0, 0)) := h.own _ (List.mem_of_getElem? hi)
  simp [World.cell?, this, hc]
theorem Rd.free {m : Mem} {L : List Asr} {w : World} (h : Rd m L w) {i b : Nat} {t : TypeId} {cs : List Value} (hi : L[i]? = some (.obj b t cs)) (off : Nat) :
    w.frozen? ⟨b, off, none⟩ = false := by
  have : w.heap[b]? = some (.cells ⟨cs⟩ t (0, 0)) := h.own _ (List.mem_of_getElem? hi)
  simp [World.frozen?, this]
theorem Rd.at_ {m : Mem} {L : List Asr} {w : World} (h : Rd m L w) {ad : Addr} {cs : List Value} (k : At m ad cs) {j : Nat} {v : Value} (hj : cs[j]? = some v) :
    w.cell? (ad.add j) = some v := by
  obtain ⟨hs, c, t, fr, hm, hc⟩ := k
  rw [addr_add _ _ hs]
  simp [World.cell?, h.mem _ _ hm, hc j v hj]
def semO {α : Type} (P : Program) : Sem α → List (Addr × Value) → Option (α × List (Addr × Value) × List (Addr × Value))
  | .pure a, vs => some (a, [], vs)
  | .program k, vs => semO P (k P) vs
  | .load _ a k, (_, v) :: vs => match semO P (k v) vs with
    | some (x, rs, vs') => some (x, (a, v) :: rs, vs')
    | none => none
  | _, _ => none
def AllC (w : World) : List (Addr × Value) → Prop
  | [] => True
  | (a, v) :: rs => w.cell? a = some v ∧ AllC w rs
theorem AllC.append {w : World} : ∀ {rs qs : List (Addr × Value)}, AllC w rs → AllC w qs → AllC w (rs ++ qs)
  | [], _, _, k => k
  | _ :: _, _, h, k => ⟨h.1, AllC.append h.2 k⟩
theorem AllC.left {w : World} : ∀ {rs qs : List (Addr × Value)}, AllC w (rs ++ qs) → AllC w rs
  | [], _, _ => trivial
  | _ :: _, _, h => ⟨h.1, AllC.left h.2⟩
theorem AllC.right {w : World} : ∀ {rs qs : List (Addr × Value)}, AllC w (rs ++ qs) → AllC w qs
  | [], _, h => h
  | _ :: rs, _, h => AllC.right (rs := rs) h.2
theorem semO_run {α : Type} (P : Program) (w : World) : ∀ (s : Sem α) (vs : List (Addr × Value)) (x : α) (rs vs' : List (Addr × Value)),
    semO P s vs = some (x, rs, vs') → AllC w rs → s.run P w = .ok x w := by
  intro s
  induction s with
  | pure a => intro vs x rs vs' h _; simp only [semO, Option.some.injEq, Prod.mk.injEq] at h; obtain ⟨rfl, _⟩ := h; rfl
  | program k ih => intro vs x rs vs' h hc; exact ih P vs x rs vs' h hc
  | load m a k ih =>
    intro vs x rs vs' h hc
    cases vs with
    | nil => simp [semO] at h
    | cons v vs =>
      obtain ⟨a0, v⟩ := v
      simp only [semO] at h
      cases hq : semO P (k v) vs with
      | none => simp [hq] at h
      | some r =>
        obtain ⟨x', rs', vs''⟩ := r
        simp only [hq, Option.some.injEq, Prod.mk.injEq] at h
        obtain ⟨rfl, rfl, rfl⟩ := h
        have := ih v vs x' rs' vs'' hq hc.2
        simp only [Sem.run, hc.1]
        exact this
  | _ => intro vs x rs vs' h _; simp [semO] at h
def opO (P : Program) (n : Nat) (f : Fr) (o : Oper) (vs : List (Addr × Value)) : Option (Value × List (Addr × Value) × List (Addr × Value)) :=
  match semO P (execOp (evo n f) o) vs with
  | some (.value v, rs, vs') => some (v, rs, vs')
  | _ => none
def guardO (ops : Array Oper) (n : Nat) (f : Fr) (o : Oper) : Option Bool :=
  match o.guard with
  | none => some true
  | some (j, want) => match yldf ops n f j with
    | some b => some (b == want)
    | none => some false
theorem guardO_wanted {dl : List Deferred} {ops : Array Oper} {n : Nat} {f : Fr} {o : Oper} {b : Bool} (h : guardO ops n f o = some b) : Region.wanted o (yielded ops (actd n dl f).tmps) = b := by
  unfold guardO at h
  unfold Region.wanted
  split at h
  · rename_i hg; simp only [hg]; simpa using h
  · rename_i j want hg
    simp only [hg]
    rw [yielded_act]
    split at h
    · rename_i b' hb
      simp only [Option.some.injEq] at h
      subst h
      rw [hb]
      cases b' <;> cases want <;> rfl
    · rename_i hb
      simp only [Option.some.injEq] at h
      subst h
      rw [hb]
      cases want <;> rfl
def segRun (P : Program) (ops : Array Oper) (n : Nat) : Nat → List Oper → Fr → List (Addr × Value) → Option (List (Nat × Value) × List (Addr × Value))
  | 0, _, _, _ => some ([], [])
  | _ + 1, [], _, _ => none
  | c + 1, o :: l, f, vs => match guardO ops n f o with
    | some true => match opO P n f o vs with
      | some (v, rs, vs') => match segRun P ops n c l (updo f o.dst v) vs' with
        | some (us, rs') => some ((match o.dst with | some d => (d, v) :: us | none => us), rs ++ rs')
        | none => none
      | none => none
    | some false => match segRun P ops n c l (updo f o.dst undef) vs with
      | some (us, rs') => some ((match o.dst with | some d => (d, undef) :: us | none => us), rs')
      | none => none
    | none => none
def upds (f : Fr) : List (Nat × Value) → Fr
  | [] => f
  | (d, v) :: us => upds (upd f d v) us
section
variable {P : Program} {ops : Array Oper} {Q : Exit → Act → World → Prop} {n : Nat} {f : Fr} {w : World} {dl : List Deferred}
theorem wl_run {o : Oper} {rest : List Oper} (hg : guardO ops n f o = some true) (h : o.wp P (actd n dl f) w (wpList P ops Q rest) Q) : wpList P ops Q (o :: rest) (actd n dl f) w := by
  unfold wpList
  rw [if_pos (guardO_wanted hg)]
  exact .inl h
theorem wl_skip {o : Oper} {rest : List Oper} (hg : guardO ops n f o = some false) (h : wpList P ops Q rest (actd n dl (updo f o.dst undef)) w) : wpList P ops Q (o :: rest) (actd n dl f) w := by
  unfold wpList
  rw [if_neg (by rw [guardO_wanted hg]; decide), act_put]
  exact h
theorem wl_val {o : Oper} {rest : List Oper} (hg : guardO ops n f o = some true) {v : Value} {w' : World} (h : (execOp (evo n f) o).run P w = .ok (.value v) w')
    (k : wpList P ops Q rest (actd n dl (updo f o.dst v)) w') : wpList P ops Q (o :: rest) (actd n dl f) w := by
  refine wl_run hg ?_
  unfold Oper.wp
  rw [act_eval, h, Oper.upon_value, act_put]
  exact k
theorem wl_unit {o : Oper} {rest : List Oper} (hg : guardO ops n f o = some true) {w' : World} (h : (execOp (evo n f) o).run P w = .ok .skip w')
    (k : wpList P ops Q rest (actd n dl (updo f o.dst undef)) w') : wpList P ops Q (o :: rest) (actd n dl f) w := by
  refine wl_run hg ?_
  unfold Oper.wp
  rw [act_eval, h, Oper.upon_skip, act_put]
  exact k
theorem wl_seg_aux : ∀ (c : Nat) (l : List Oper) (f : Fr) (vs : List (Addr × Value)) (us : List (Nat × Value)) (rs : List (Addr × Value)),
    segRun P ops n c l f vs = some (us, rs) → AllC w rs → wpList P ops Q (l.drop c) (actd n dl (upds f us)) w → wpList P ops Q l (actd n dl f) w
  | 0, l, f, vs, us, rs, h, _, k => by
    simp only [segRun, Option.some.injEq, Prod.mk.injEq] at h
    obtain ⟨rfl, rfl⟩ := h
    simpa [upds] using k
  | c + 1, [], f, vs, us, rs, h, _, k => by simp [segRun] at h
  | c + 1, o :: l, f, vs, us, rs, h, hc, k => by
    simp only [segRun] at h
    split at h
    · rename_i hg
      split at h
      · rename_i v rs1 vs1 hop
        split at h
        · rename_i us2 rs2 hseg
          simp only [Option.some.injEq, Prod.mk.injEq] at h
          obtain ⟨hus, rfl⟩ := h
          have hrun : (execOp (evo n f) o).run P w = .ok (.value v) w := by
            unfold opO at hop
            split at hop
            · rename_i v' rs' vs' hsem
              simp only [Option.some.injEq, Prod.mk.injEq] at hop
              obtain ⟨rfl, rfl, rfl⟩ := hop
              exact semO_run P w _ _ _ _ _ hsem hc.left
            · cases hop
          refine wl_val hg hrun (wl_seg_aux c l _ _ _ _ hseg hc.right ?_)
          have : upds f us = upds (updo f o.dst v) us2 := by
            subst hus
            cases o.dst <;> rfl
          rw [← this]
          simpa using k
        · cases h
      · cases h
    · rename_i hg
      split at h
      · rename_i us2 rs2 hseg
        simp only [Option.some.injEq, Prod.mk.injEq] at h
        obtain ⟨hus, rfl⟩ := h
        refine wl_skip hg (wl_seg_aux c l _ _ _ _ hseg hc ?_)
        have : upds f us = upds (updo f o.dst undef) us2 := by
          subst hus
          cases o.dst <;> rfl
        rw [← this]
        simpa using k
      · cases h
    · cases h
theorem wl_seg (c : Nat) (us : List (Nat × Value)) (rs : List (Addr × Value)) {l : List Oper} (h : segRun P ops n c l f rs = some (us, rs)) (hc : AllC w rs)
    (k : wpList P ops Q (l.drop c) (actd n dl (upds f us)) w) : wpList P ops Q l (actd n dl f) w := wl_seg_aux c l f rs us rs h hc k
theorem wl_nil (h : Q .normal (actd n dl f) w) : wpList P ops Q [] (actd n dl f) w := h
end
def zeroCs (P : Program) (t : TypeId) : Option (List Value) := match P.info? t with | some i => i.zero.map (·.cells.toList) | none => none
section
variable {P : Program} {ops : Array Oper} {Q : Exit → Act → World → Prop} {n : Nat} {f : Fr} {w g : World} {m : Mem} {L : List Asr} {dl : List Deferred}
theorem wl_alloc {o : Oper} {rest : List Oper} {t : TypeId} {cs : List Value} (ho : o.op = .alloc t) (hg : guardO ops n f o = some true) (hz : zeroCs P t = some cs) (hst : St g m L w)
    (k : ∀ b w1, St g m (.obj b t cs :: L) w1 → wpList P ops Q rest (actd n dl (updo f o.dst (.pointer (some ⟨b, 0, none⟩)))) w1) : wpList P ops Q (o :: rest) (actd n dl f) w := by
  have hr : (execOp (evo n f) o).run P w = .ok (.value (.pointer (some ⟨w.heap.size, 0, none⟩))) (w.alloc (.cells ⟨cs⟩ t (0, 0))) := by
    unfold zeroCs at hz
    cases hi : P.info? t with
    | none => simp [hi] at hz
    | some i =>
      simp only [hi] at hz
      cases hzz : i.zero with
      | none => simp [hzz] at hz
      | some z =>
        simp only [hzz, Option.map_some, Option.some.injEq] at hz
        subst hz
        simp [execOp, ho, Instr.alloc, zeroValue, typeInfo, hi, hzz, newVar, newRow]
  exact wl_val hg hr (k _ _ (hst.alloc t cs))
theorem wl_box {o : Oper} {rest : List Oper} {t : TypeId} {x : Operand} {cs : List Value} (ho : o.op = .box t x) (hg : guardO ops n f o = some true) (hx : (evo n f x).cells.toList = cs) (hst : St g m L w)
    (k : ∀ b w1, St g m (.obj b t cs :: L) w1 → wpList P ops Q rest (actd n dl (updo f o.dst (.pointer (some ⟨b, 0, none⟩)))) w1) : wpList P ops Q (o :: rest) (actd n dl f) w := by
  subst hx
  have hr : (execOp (evo n f) o).run P w = .ok (.value (.pointer (some ⟨w.heap.size, 0, none⟩))) (w.alloc (.cells ⟨(evo n f x).cells.toList⟩ t (0, 0))) := by
    simp [execOp, ho, Instr.box, newVar, newRow]
  exact wl_val hg hr (k _ _ (hst.alloc t _))
def setAt : List Value → Nat → List Value → List Value
  | cs, _, [] => cs
  | cs, off, v :: vs => setAt (cs.set off v) (off + 1) vs
theorem run_stores {i b : Nat} {t : TypeId} (off : Nat) : ∀ (vs : List Value) (j : Nat) (cs : List Value) (L : List Asr) (w : World), St g m L w → L[i]? = some (.obj b t cs) → off + j + vs.length ≤ cs.length →
    vs.all (·.oneCell') = true → ∃ w', (storeCells ⟨b, off, none⟩ vs j).run P w = .ok () w' ∧ St g m (L.set i (.obj b t (setAt cs (off + j) vs))) w'
  | [], j, cs, L, w, hst, hi, _, _ => by
    refine ⟨w, by simp [storeCells], ?_⟩
    have : L.set i (.obj b t (setAt cs (off + j) [])) = L := by
      simp only [setAt]
      apply List.ext_getElem?
      intro k
      rw [List.getElem?_set]
      split
      · rename_i e; subst e
        split
        · exact hi.symm
        · rename_i h; simp at h; rw [List.getElem?_eq_none h]
      · rfl
    rw [this]; exact hst
  | v :: vs, j, cs, L, w, hst, hi, hl, h1 => by
    simp only [List.all_cons, Bool.and_eq_true] at h1
    simp only [List.length_cons] at hl
    have hlt : off + j < cs.length := by omega
    have hc := hst.rd.cell hi (off := off + j) (v := cs[off + j]) (by simp [hlt])
    have hf := hst.rd.free hi (off + j)
    have hst' := hst.set hi (off + j) v
    have hil : i < L.length := by
      rcases Nat.lt_or_ge i L.length with h' | h'
      · exact h'
      · rw [List.getElem?_eq_none h'] at hi; cases hi
    obtain ⟨w', hr, hs⟩ := run_stores (i := i) (b := b) (t := t) off vs (j + 1) (cs.set (off + j) v) (L.set i (.obj b t (cs.set (off + j) v))) (w.setCell ⟨b, off + j, none⟩ v) hst' (by rw [List.getElem?_set]; simp [hil]) (by rw [List.length_set]; omega) h1.2
    refine ⟨w', ?_, ?_⟩
    · have ha : (⟨b, off, none⟩ : Addr).add j = ⟨b, off + j, none⟩ := addr_add _ _ rfl
      simp only [storeCells, ha, Sem.run_bind, run_store P w _ v _ h1.1, hc, hf, if_false, Bool.false_eq_true, Result.andThen_ok]
      exact hr
    · rw [List.set_set] at hs
      simpa [setAt, Nat.add_assoc] using hs
def sizeIs (P : Program) (t : TypeId) (k : Nat) : Bool := match P.info? t with | some i => Nat.beq i.size k | none => false
theorem wl_store {o : Oper} {rest : List Oper} {t t0 : TypeId} {a x : Operand} {b off i : Nat} {cs vs : List Value} {L' : List Asr} (ho : o.op = .store t a x) (hg : guardO ops n f o = some true)
    (ha : evo n f a = .pointer (some ⟨b, off, none⟩)) (hx : (evo n f x).cells.toList = vs) (hz : sizeIs P t vs.length = true) (h1 : vs.all (·.oneCell') = true)
    (hst : St g m L w) (hi : L[i]? = some (.obj b t0 cs)) (hl : off + vs.length ≤ cs.length) (hL : L.set i (.obj b t0 (setAt cs off vs)) = L')
    (k : ∀ w1, St g m L' w1 → wpList P ops Q rest (actd n dl (updo f o.dst undef)) w1) : wpList P ops Q (o :: rest) (actd n dl f) w := by
  obtain ⟨w', hr, hs⟩ := run_stores (P := P) off vs 0 cs L w hst hi (by simpa using hl) h1
  subst hL
  refine wl_unit hg ?_ (k w' (by simpa using hs))
  unfold sizeIs at hz
  cases hin : P.info? t with
  | none => simp [hin] at hz
  | some inf =>
    simp only [hin] at hz
    have hz := Nat.eq_of_beq_eq_true hz
    have hsz : (evo n f x).cells.size = inf.size := by rw [hz, ← hx, Array.length_toList]
    simp [execOp, ho, ha, Instr.storeAt, Instr.sureAddr, storeVar, sizeOf, typeInfo, hin, hsz, hx, hr]
theorem wl_call {o : Oper} {rest : List Oper} {fid : FuncId} {A : Array Value} {R : Ending → World → Prop} (hg : guardO ops n f o = some true)
    (hr : semO P (execOp (evo n f) o) [] = some (.enter fid A, [], [])) (hc : Calls P fid A w R)
    (k : ∀ v w1, R (.returned v) w1 → wpList P ops Q rest (actd n dl (updo f o.dst v)) w1) (kp : ∀ c w1, R (.panicked c) w1 → Q (.panic c) (actd n dl f) w1) (ko : ∀ w1, ¬ R .outgrown w1) :
    wpList P ops Q (o :: rest) (actd n dl f) w := by
  refine wl_run hg ?_
  unfold Oper.wp
  rw [act_eval, semO_run P w _ _ _ _ _ hr trivial, Oper.upon_enter]
  refine hc.mono fun e w1 he => ?_
  cases e with
  | returned v => show wpList P ops Q rest ((actd n dl f).put o.dst v) w1; rw [act_put]; exact k v w1 he
  | panicked c => exact kp c w1 he
  | outgrown => exact absurd he (ko w1)
theorem wl_panic {o : Oper} {rest : List Oper} {v : Value} (hg : guardO ops n f o = some true) (hr : (execOp (evo n f) o).run P w = .halt (.panic v) w)
    (k : Q (.panic [{ v, recovered := false }]) (actd n dl f) w) : wpList P ops Q (o :: rest) (actd n dl f) w := by
  refine wl_run hg ?_
  unfold Oper.wp
  rw [act_eval, hr, Oper.upon_panic]
  exact k
theorem wl_lit {o : Oper} {rest : List Oper} {t e : TypeId} {len : Nat} {parts : Array (Nat × Operand)} {cs : List Value} (ho : o.op = .buildSlice t len parts) (hg : guardO ops n f o = some true)
    (hr : ∀ w : World, (execOp (evo n f) o).run P w = .ok (.value (.slice (some ⟨w.heap.size, 0, none⟩) len len)) (w.alloc (.cells ⟨cs⟩ e (0, 0)))) (hst : St g m L w)
    (k : ∀ b w1, St g m (.obj b e cs :: L) w1 → wpList P ops Q rest (actd n dl (updo f o.dst (.slice (some ⟨b, 0, none⟩) len len))) w1) : wpList P ops Q (o :: rest) (actd n dl f) w :=
  wl_val hg (hr w) (k _ _ (hst.alloc e cs))
theorem St.obj_row {b : Nat} {e : TypeId} {cs : List Value} {size k : Nat} (h : St g m (.obj b e cs :: L) w) (hl : cs.length = k * size) (hk : k ≤ 9223372036854775807) : St g m (.row e size (.slice (some ⟨b, 0, none⟩) k k) k cs :: L) w := by
  refine ⟨h.mem, fun A hA => ?_, h.nod, fun A hA b' hb => ?_, h.os, h.tape, h.output⟩
  · rcases List.mem_cons.1 hA with rfl | hA
    · have ho : w.heap[b]? = some (.cells ⟨cs⟩ e (0, 0)) := h.own _ List.mem_cons_self
      refine ⟨hl, .inr ⟨b, k, ⟨cs⟩, rfl, Nat.zero_le _, ho, Nat.le_refl _, by simpa [maxLen] using hk, by simpa using hl, ?_⟩⟩
      rw [← hl]; simp
    · exact h.own A (List.mem_cons_of_mem _ hA)
  · rcases List.mem_cons.1 hA with rfl | hA
    · exact h.sep _ List.mem_cons_self b' hb
    · exact h.sep A (List.mem_cons_of_mem _ hA) b' hb
theorem St.obj_slice {α : Type} {T : Ty α} {b : Nat} {e : TypeId} {cs : List Value} {xs : List α} {k : Nat} (h : St g m (.obj b e cs :: L) w) (hr : RC T m xs cs) (hk : k = xs.length) :
    ∃ m', m.le m' ∧ St g m' L w ∧ RS T m' (.slice (some ⟨b, 0, none⟩) k k) xs := by
  subst hk
  obtain ⟨hle, hst⟩ := h.seal_obj
  refine ⟨_, hle, hst, _, _, rfl, Nat.le_refl _, fun i x hx => ⟨_, _, rfl, T.mono hle (hr.2 i x hx), ?_⟩⟩
  rw [addr_add _ _ rfl]
  refine ⟨rfl, ⟨cs⟩, e, (0, 0), Mem.put_same _ _ _, fun j u hj => ?_⟩
  rw [List.getElem?_take] at hj
  split at hj
  · rw [List.getElem?_drop] at hj; simpa using hj
  · cases hj
theorem St.nil_row (e : TypeId) (size : Nat) (h : St g m L w) : St g m (.row e size (.slice none 0 0) 0 [] :: L) w := by
  refine ⟨h.mem, fun A hA => ?_, ?_, fun A hA b' hb => ?_, h.os, h.tape, h.output⟩
  · rcases List.mem_cons.1 hA with rfl | hA
    · exact World.ownsRow_nil w 0 e size
    · exact h.own A hA
  · simpa [List.filterMap_cons, Asr.blk, Value.ownBlock] using h.nod
  · rcases List.mem_cons.1 hA with rfl | hA
    · simp [Asr.blk, Value.ownBlock] at hb
    · exact h.sep A hA b' hb
theorem St.upd_front {A A' : Asr} {w' : World} (h : St g m (A :: L) w) (hA : A'.holds w') (hg : w.grownBy w' A.blk) (hb : A'.blk = A.blk ∨ ∀ k, A'.blk = some k → w.heap.size ≤ k) : St g m (A' :: L) w' := by
  have hn := h.nod
  have keep : ∀ B ∈ L, ∀ b, B.blk = some b → w'.heap[b]? = w.heap[b]? := by
    intro B hB b hb'
    refine hg.block b (Asr.blk_lt (h.own B (List.mem_cons_of_mem _ hB)) hb') fun e => ?_
    rw [List.filterMap_cons, ← e] at hn
    exact (List.nodup_cons.1 hn).1 (List.mem_filterMap.2 ⟨B, hB, hb'⟩)
  refine ⟨fun b o hm => ?_, fun B hB => ?_, ?_, fun B hB b hb' => ?_, hg.os.trans h.os, hg.tape.trans h.tape, hg.output.trans h.output⟩
  · rw [hg.block b (h.heap_lt hm) (fun e => by rw [h.sep A List.mem_cons_self b e.symm] at hm; cases hm)]
    exact h.mem b o hm
  · rcases List.mem_cons.1 hB with rfl | hB
    · exact hA
    · exact Asr.holds_of_heap (h.own B (List.mem_cons_of_mem _ hB)) (keep B hB)
  · rcases hb with hb | hb
    · rw [List.filterMap_cons, hb, ← List.filterMap_cons]; exact hn
    · have hnL : (L.filterMap Asr.blk).Nodup := (h.sub (List.sublist_cons_self _ _)).nod
      rw [List.filterMap_cons]
      cases hk : A'.blk with
      | none => exact hnL
      | some c =>
        refine List.nodup_cons.2 ⟨fun hm => ?_, hnL⟩
        obtain ⟨B, hB, hBc⟩ := List.mem_filterMap.1 hm
        have := Asr.blk_lt (h.own B (List.mem_cons_of_mem _ hB)) hBc
        have := hb c hk
        omega
  · rcases List.mem_cons.1 hB with rfl | hB
    · rcases hb with hb | hb
      · exact h.sep A List.mem_cons_self b (hb ▸ hb')
      · cases hm : m b with
        | none => rfl
        | some o => exact absurd (h.heap_lt hm) (Nat.not_lt.2 (hb b hb'))
    · exact h.sep B (List.mem_cons_of_mem _ hB) b hb'
theorem erase_set {L : List Asr} {A : Asr} : ∀ {i : Nat}, (L.set i A).eraseIdx i = L.eraseIdx i := by
  induction L with
  | nil => intro i; simp
  | cons B L ih => intro i; cases i with
    | zero => simp
    | succ i => simp [ih]
theorem St.upd_at {A A' : Asr} {w' : World} {i : Nat} (h : St g m L w) (hi : L[i]? = some A) (hA : A'.holds w') (hg : w.grownBy w' A.blk) (hb : A'.blk = A.blk ∨ ∀ k, A'.blk = some k → w.heap.size ≤ k) : St g m (L.set i A') w' := by
  have hil : i < L.length := by
    rcases Nat.lt_or_ge i L.length with h' | h'
    · exact h'
    · rw [List.getElem?_eq_none h'] at hi; cases hi
  have := (h.front i hi).upd_front hA hg hb
  refine this.perm ?_
  have hp := (perm_front (L := L.set i A') (A := A') (i := i) (by rw [List.getElem?_set]; simp [hil])).symm
  rwa [erase_set] at hp
theorem slice_of_own {e : TypeId} {s k : Nat} {v : Value} {cs : List Value} (h : w.ownsRow 0 e s v k cs) : ∃ A c, v = .slice A k c := by
  rcases h.2 with ⟨rfl, rfl⟩ | ⟨g, cap, cur, rfl, _⟩
  · exact ⟨none, 0, rfl⟩
  · exact ⟨_, cap, rfl⟩
def rowFits (P : Program) (t e : TypeId) (size bytes : Nat) : Bool :=
  match P.underlying t, P.info? e with
  | some (.slice e'), some i => Nat.beq e e' && Nat.beq i.size size && Nat.beq i.bytes bytes && (match i.zero with | some z => Nat.beq z.cells.size size | none => false) && Nat.blt 0 size
  | _, _ => false
theorem rowFits_spec {t e : TypeId} {size bytes : Nat} (h : rowFits P t e size bytes = true) :
    P.underlying t = some (.slice e) ∧ ∃ i z, P.info? e = some i ∧ i.zero = some z ∧ i.size = size ∧ i.bytes = bytes ∧ z.cells.size = size ∧ 0 < size := by
  unfold rowFits at h
  split at h
  · rename_i e' i hu hi
    simp only [Bool.and_eq_true] at h
    obtain ⟨⟨⟨⟨h1, h2⟩, h3⟩, h4⟩, h5⟩ := h
    have h1 := Nat.eq_of_beq_eq_true h1
    subst h1
    split at h4
    · rename_i z hz
      exact ⟨hu, i, z, hi, hz, Nat.eq_of_beq_eq_true h2, Nat.eq_of_beq_eq_true h3, Nat.eq_of_beq_eq_true h4, by rw [Nat.blt_eq] at h5; exact h5⟩
    · cases h4
  · cases h
theorem wl_append {o : Oper} {rest : List Oper} {t e : TypeId} {s x : Operand} {A B : Option Addr} {k j c c2 i size bytes : Nat} {cs ds : List Value}
    (ho : o.op = .call { callee := .builtin .append, args := #[s, x], argTypes := #[t, t] }) (hg : guardO ops n f o = some true) (hfit : rowFits P t e size bytes = true)
    (hs : evo n f s = .slice A k c) (hx : evo n f x = .slice B j c2) (hst : St g m L w) (hi : L[i]? = some (.row e size (.slice A k c) k cs))
    (hB : ∃ ad, B = some ad ∧ ∀ q u, ds[q]? = some u → w.cell? (ad.add q) = some u) (hl : ds.length = j * size) (h1 : ∀ u ∈ ds, u.oneCell' = true)
    (hb : (k + j) * bytes ≤ 140737488355328) (hb2 : k + j ≤ 9223372036854775807)
    (kk : ∀ A1 c1 w1, St g m (L.set i (.row e size (.slice A1 (k + j) c1) (k + j) (cs ++ ds))) w1 → wpList P ops Q rest (actd n dl (updo f o.dst (.slice A1 (k + j) c1))) w1) :
    wpList P ops Q (o :: rest) (actd n dl f) w := by
  obtain ⟨ad, rfl, hc⟩ := hB
  obtain ⟨hu, inf, z, hin, hz, h2, h3, h4, h5⟩ := rowFits_spec hfit
  have hown : w.ownsRow 0 e size (.slice A k c) k cs := hst.own _ (List.mem_of_getElem? hi)
  obtain ⟨v1, w1, hr, ho1, hgr, _, hblk⟩ := run_append_own_at (P := P) w 0 t o.type e inf z size bytes hu hin hz h2 h3 h4 h5 _ k cs hown ad j c2 ds hl hc h1 (by simpa [maxLen] using hb2) hb (Nat.zero_le _)
  obtain ⟨A1, c1, rfl⟩ := slice_of_own ho1
  have hst1 : St g m (L.set i (.row e size (.slice A1 (k + j) c1) (k + j) (cs ++ ds))) w1 :=
    hst.upd_at hi ho1 hgr (hblk.imp (fun h => h) fun h q hq => by
      have h' : Asr.blk (.row e size (.slice A1 (k + j) c1) (k + j) (cs ++ ds)) = some w.heap.size := h
      rw [h'] at hq; cases hq; exact Nat.le_refl _)
  refine wl_val hg (w' := w1) ?_ (kk A1 c1 w1 hst1)
  unfold execOp
  simp only [ho, resolve, invoke, builtin, Sem.run_bind, Sem.run_pure, Result.andThen_ok, List.map_toArray, List.map_cons, List.map_nil, hs, hx, hr]
end
def resV (n : Nat) (f : Fr) : ResultVar → Sem Value
  | .tmp t => pure (evo n f (.tmp t))
  | .cell a t => do loadVar t (← asAddr (evo n f (.tmp a)))
def resL (n : Nat) (f : Fr) : List ResultVar → Sem (List Value)
  | [] => .pure []
  | r :: rs => (resV n f r).bind fun v => (resL n f rs).bind fun vs => .pure (v :: vs)
def oneOrTuple : List Value → Value
  | [v] => v
  | vs => .tuple ⟨vs⟩
theorem run_resL {P : Program} {w : World} {n : Nat} {f : Fr} (dl : List Deferred) (rs : List ResultVar) :
    (resL n f rs).run P w = (rs.mapM (fun | .tmp t => pure ((actd n dl f).tmps.getD t undef) | .cell a t => do loadVar t (← asAddr ((actd n dl f).tmps.getD a undef)) : ResultVar → Sem Value)).run P w := by
  induction rs generalizing w with
  | nil => rfl
  | cons r rs ih =>
    rw [List.mapM_cons]
    simp only [resL, Sem.run_bind', Sem.run_bind]
    have e : (resV n f r) = (match r with | .tmp t => pure ((actd n dl f).tmps.getD t undef) | .cell a t => do loadVar t (← asAddr ((actd n dl f).tmps.getD a undef)) : Sem Value) := by
      cases r <;> simp only [resV, act_tmps_getD]
    rw [e]
    congr 1
    funext v w'
    rw [ih]
    rfl
theorem run_results {P : Program} {w : World} {n : Nat} {f : Fr} {dl : List Deferred} {fn : Func} {vs : List Value} (h : (resL n f fn.results.toList).run P w = .ok vs w) :
    (results fn (actd n dl f).tmps).run P w = .ok (oneOrTuple vs) w := by
  rw [run_resL dl] at h
  unfold results
  have e : ∀ (F : ResultVar → Sem Value), (fn.results.mapM F).run P w = ((fn.results.toList.mapM F).run P w).andThen fun a w' => .ok a.toArray w' := by
    intro F
    rw [Array.mapM_eq_mapM_toList, Sem.run_map]
  simp only [Sem.run_bind, e]
  refine (congrArg (fun r => Result.andThen (Result.andThen r _) _) h).trans ?_
  simp only [Result.andThen_ok, Sem.run_pure]
  congr 1
  rcases vs with _ | ⟨v, _ | ⟨u, vs⟩⟩
  · rfl
  · rfl
  · simp [oneOrTuple]
section
variable {P : Program} {ops : Array Oper} {Q : Exit → Act → World → Prop} {n : Nat} {f : Fr} {w g : World} {m : Mem} {L : List Asr} {dl : List Deferred}
theorem wc_results {fn : Func} {R : Ending → World → Prop} (vs : List Value) (rs : List (Addr × Value)) (h : semO P (resL n f fn.results.toList) rs = some (vs, rs, [])) (hc : AllC w rs)
    (hR : R (.returned (oneOrTuple vs)) w) : (act n f).defers = [] ∧ ∃ v, (results fn (act n f).tmps).run P w = .ok v w ∧ R (.returned v) w :=
  ⟨rfl, _, run_results (semO_run P w _ _ _ _ _ h hc), hR⟩
theorem wc_ret {fn : Func} {R : Ending → World → Prop} (vs : List Value) (rs : List (Addr × Value)) (h : semO P (resL n f fn.results.toList) rs = some (vs, rs, [])) (hc : AllC w rs)
    (hR : R (.returned (oneOrTuple vs)) w) : bodyPost P fn R .ret (act n f) w := wc_results vs rs h hc hR
theorem wc_end {fn : Func} {R : Ending → World → Prop} (vs : List Value) (rs : List (Addr × Value)) (h : semO P (resL n f fn.results.toList) rs = some (vs, rs, [])) (hc : AllC w rs)
    (hR : R (.returned (oneOrTuple vs)) w) : bodyPost P fn R .normal (act n f) w := wc_results vs rs h hc hR
theorem calls_enter {fid : FuncId} {fn : Func} {c : Code} {args : List Value} {R : Ending → World → Prop} (hf : P.funcs[fid]? = some fn) (hb : fn.body = some c) (hl : Nat.ble args.length fn.ntmps = true)
    (h : c.wp P (bodyPost P fn R) (act fn.ntmps (frOf args)) w) : Calls P fid ⟨args⟩ w R := by
  refine calls_of_wp hf hb ?_
  rw [act_enter _ _ (by simpa using Nat.le_of_ble_eq_true hl)]
  exact h
theorem wc_cond {c : Operand} {x y : Code} {t : Bool} (hc : evo n f c = .bool t) (ht : t = true → x.wp P Q (actd n dl f) w) (hf : t = false → y.wp P Q (actd n dl f) w) : (Code.cond c x y).wp P Q (actd n dl f) w :=
  wp_cond_split (by rw [act_eval]; exact hc) ht hf
theorem wc_true {c : Operand} {x y : Code} (hc : evo n f c = .bool true) (h : x.wp P Q (actd n dl f) w) : (Code.cond c x y).wp P Q (actd n dl f) w := wp_cond_true (by rw [act_eval]; exact hc) h
theorem wc_false {c : Operand} {x y : Code} (hc : evo n f c = .bool false) (h : y.wp P Q (actd n dl f) w) : (Code.cond c x y).wp P Q (actd n dl f) w := wp_cond_false (by rw [act_eval]; exact hc) h
theorem then_n {N : Act → World → Prop} {a : Act} (h : N a w) : Exit.then N Q .normal a w := h
theorem block_n {id : Nat} {a : Act} (h : Q .normal a w) : Exit.inBlock id Q .normal a w := h
theorem then_x {N : Act → World → Prop} {a : Act} {id : Nat} (h : Q (.exit id) a w) : Exit.then N Q (.exit id) a w := h
theorem block_x {a : Act} {id : Nat} (h : Q .normal a w) : Exit.inBlock id Q (.exit id) a w := by simp only [Exit.inBlock, if_true]; exact h
def LoopFrom (P : Program) (c : Code) (Q : Exit → Act → World → Prop) (a : Act) (w : World) : Prop :=
  ∀ b k cs, ∃ e a' w', Q e a' w' ∧ Arrives P (lone (b.at a (.code c :: .inLoop c :: k)) cs w) b k cs e a' w'
theorem wp_loop_from {c : Code} {a : Act} (h : LoopFrom P c Q a w) : (Code.loop c).wp P Q a w := by
  intro b k cs
  obtain ⟨e, a', w', hq, harr⟩ := h b k cs
  exact ⟨e, a', w', hq, .of_steps (.one step_loop) harr⟩
theorem loop_round {c : Code} {a : Act} (h : c.wp P (Exit.then (LoopFrom P c Q) Q) a w) : LoopFrom P c Q a w := by
  intro b k cs
  obtain ⟨e, a₁, w₁, hq, harr⟩ := h b (.inLoop c :: k) cs
  cases e with
  | normal =>
    obtain ⟨e₂, a₂, w₂, hq₂, harr₂⟩ := hq b k cs
    exact ⟨e₂, a₂, w₂, hq₂, .of_steps (Steps.trans harr (.one step_inLoop)) harr₂⟩
  | exit id => exact ⟨_, a₁, w₁, hq, .pass (x := .inLoop c) rfl (fun _ _ => .inl (by simp)) harr⟩
  | goto l => exact ⟨_, a₁, w₁, hq, .pass (x := .inLoop c) rfl (fun _ _ => .inl (by simp)) harr⟩
  | ret => exact ⟨_, a₁, w₁, hq, .pass (x := .inLoop c) rfl (fun _ _ => .inl (by simp)) harr⟩
  | panic ch => exact ⟨_, a₁, w₁, hq, .pass (x := .inLoop c) rfl (fun _ _ => .inl (by simp)) harr⟩
  | outgrown => exact ⟨_, a₁, w₁, hq, .pass (x := .inLoop c) rfl (fun _ _ => .inl (by simp)) harr⟩
abbrev Str := List UInt8
def vstr (l : Str) : Value := .string ⟨l.toArray⟩
theorem ba_toList (l : Str) : (⟨l.toArray⟩ : ByteArray).toList = l := by rw [Lib.toList_data]
theorem ba_size (l : Str) : (⟨l.toArray⟩ : ByteArray).size = l.length := rfl
theorem run_str_eql (l k : Str) (o : Oper) (t t' : TypeId) (x y : Operand) (ho : o.op = .binOp .eql t x y t') (hx : evo n f x = vstr l) (hy : evo n f y = vstr k) :
    (execOp (evo n f) o).run P w = .ok (.value (.bool (l == k))) w := by
  simp [execOp, ho, hx, hy, vstr, eqGuard, binOp, Op.stringOp, ba_toList]
theorem run_str_neq (l k : Str) (o : Oper) (t t' : TypeId) (x y : Operand) (ho : o.op = .binOp .neq t x y t') (hx : evo n f x = vstr l) (hy : evo n f y = vstr k) :
    (execOp (evo n f) o).run P w = .ok (.value (.bool (!(l == k)))) w := by
  simp [execOp, ho, hx, hy, vstr, eqGuard, binOp, Op.stringOp, ba_toList]
theorem run_str_add (l k : Str) (o : Oper) (t t' : TypeId) (x y : Operand) (ho : o.op = .binOp .add t x y t') (hx : evo n f x = vstr l) (hy : evo n f y = vstr k) (hb : l.length + k.length ≤ 9223372036854775807) :
    (execOp (evo n f) o).run P w = .ok (.value (vstr (l ++ k))) w := by
  have hb' : ¬ ((9223372036854775807 : Int) < (l.length : Int) + (k.length : Int)) := by omega
  have e : (⟨l.toArray⟩ : ByteArray) ++ ⟨k.toArray⟩ = ⟨(l ++ k).toArray⟩ := by
    apply ByteArray.ext
    simp
  simp [execOp, ho, hx, hy, vstr, eqGuard, binOp, Op.stringOp, ba_size, IntKind.max, IntKind.signed, IntKind.bits, hb', e]
theorem run_str_index (l : Str) (i : Int) (k : IntKind) (c : UInt8) (o : Oper) (t : TypeId) (x y : Operand) (ho : o.op = .index t x y) (hu : (P.underlying t matches some .string) = true) (hx : evo n f x = vstr l) (hy : evo n f y = .int k i)
    (h0 : 0 ≤ i) (hc : l[i.toNat]? = some c) : (execOp (evo n f) o).run P w = .ok (.value (.int .u8 c.toNat)) w := by
  have hu' : P.underlying t = some .string := by
    split at hu
    · assumption
    · cases hu
  have e : (⟨l.toArray⟩ : ByteArray)[i.toNat]? = some c := by
    have hlt : i.toNat < l.length := by
      rcases Nat.lt_or_ge i.toNat l.length with h | h
      · exact h
      · rw [List.getElem?_eq_none h] at hc; cases hc
    have hs : i.toNat < (⟨l.toArray⟩ : ByteArray).size := hlt
    rw [getElem?_pos (⟨l.toArray⟩ : ByteArray) i.toNat hs]
    rw [List.getElem?_eq_getElem hlt] at hc
    simp only [Option.some.injEq] at hc ⊢
    rw [← hc]; rfl
  simp [execOp, ho, hx, hy, vstr, Instr.index, asIntOf, run_underlying hu', h0, e]
theorem run_str_slice (l : Str) (lo hi : Nat) (a b : Option Operand) (o : Oper) (t : TypeId) (x : Operand) (ho : o.op = .slice t x a b none) (hu : (P.underlying t matches some .string) = true) (hx : evo n f x = vstr l)
    (hlo : match a with | some y => ∃ k, evo n f y = .int k (lo : Int) | none => lo = 0) (hhi : match b with | some y => ∃ k, evo n f y = .int k (hi : Int) | none => hi = l.length)
    (h1 : lo ≤ hi) (h2 : hi ≤ l.length) : (execOp (evo n f) o).run P w = .ok (.value (vstr ((l.drop lo).take (hi - lo)))) w := by
  have hu' : P.underlying t = some .string := by
    split at hu
    · assumption
    · cases hu
  have e : (⟨l.toArray⟩ : ByteArray).extract lo hi = ⟨((l.drop lo).take (hi - lo)).toArray⟩ := by
    rw [Lib.extract_eq]
  cases a with
  | none =>
    subst hlo
    cases b with
    | none =>
      subst hhi
      simp [execOp, ho, hx, vstr, Instr.sliceAt, Instr.slice, Instr.sliceBounds, Instr.sliceBound, asIntOf, run_underlying hu', ba_size, e]
    | some y =>
      obtain ⟨k, hy⟩ := hhi
      simp [execOp, ho, hx, hy, vstr, Instr.sliceAt, Instr.slice, Instr.sliceBounds, Instr.sliceBound, asIntOf, run_underlying hu', ba_size, h2]
      simpa using e
  | some y0 =>
    obtain ⟨k0, hy0⟩ := hlo
    cases b with
    | none =>
      subst hhi
      simp [execOp, ho, hx, hy0, vstr, Instr.sliceAt, Instr.slice, Instr.sliceBounds, Instr.sliceBound, asIntOf, run_underlying hu', ba_size, h1]
      simpa using e
    | some y =>
      obtain ⟨k, hy⟩ := hhi
      simp [execOp, ho, hx, hy, hy0, vstr, Instr.sliceAt, Instr.slice, Instr.sliceBounds, Instr.sliceBound, asIntOf, run_underlying hu', ba_size, h2, h1]
      simpa using e
end
section
variable {P : Program} {ops : Array Oper} {Q : Exit → Act → World → Prop} {n : Nat} {f : Fr} {w g : World} {m : Mem} {L : List Asr} {dl : List Deferred}
def AllListed (ops : Array Oper) (listed : Array Bool) : Prop := ∀ j, j < ops.size → listed.getD j false = true
def wpG (P : Program) (ops : Array Oper) (Q : Exit → Act → World → Prop) (q : Bool) : Nat → (World → Prop) → Array Bool → Act → World → Prop
  | 0, _, listed, a, w => Region.ready .any ops listed = [] ∧ Q .normal a w
  | k + 1, S, listed, a, w => (Region.ready .any ops listed = [] → Q .normal a w) ∧
    ∀ i ∈ Region.ready .any ops listed, wpOp P ops Q i (fun a' w' => ∃ S' : World → Prop, (∀ x, S' x → S x) ∧ ((q = false ∧ AllListed ops (listed.setIfInBounds i true)) ∨ S' w') ∧ wpG P ops Q q k S' (listed.setIfInBounds i true) a' w') a w
theorem wpAny_of_G {q : Bool} : ∀ (k : Nat) (S : World → Prop) (listed : Array Bool) (a : Act) (w : World), wpG P ops Q q k S listed a w → wpAny P .any ops Q k listed a w
  | 0, _, _, _, _, h => h
  | k + 1, S, listed, a, w, h => ⟨h.1, fun i hi => wpOp_mono (fun a' w' ⟨S', _, _, h'⟩ => wpAny_of_G k S' _ a' w' h') (h.2 i hi)⟩
theorem YieldsIf.weaken {S S' : World → Prop} {o : Oper} {v : Value} {a : Act} (h : YieldsIf P ops S o v a) (hs : ∀ x, S' x → S x) : YieldsIf P ops S' o v a :=
  h.imp (fun ⟨h1, h2⟩ => ⟨h1, fun w hw => h2 w (hs w hw)⟩) id
theorem wpG_first {q : Bool} {i : Nat} {oi : Oper} {v : Value} (hi : ops[i]? = some oi) (hsel : ∀ (j : Nat) (o : Oper) cs b, ops[j]? = some o → o.op ≠ .select cs b)
    (hQ : ∀ c a w, Q (.panic c) (a.put oi.dst v) w → Q (.panic c) a w) :
    ∀ (fuel : Nat) (S : World → Prop) (listed : Array Bool) (a : Act) (w : World),
      (∀ j oj, ops[j]? = some oj → j ≠ i → listed.getD j true = false → (∀ e ∈ oj.after, Region.binds .any e = true → e.on ≠ i) → oi.apart ops oj = true) →
      i ∈ Region.ready .any ops listed → (q = true ∨ ∃ z oz, ops[z]? = some oz ∧ z ≠ i ∧ (∃ e ∈ oz.after, Region.binds .any e = true ∧ e.on = i) ∧ listed.getD z false = false) → YieldsIf P ops S oi v a → S w →
      wpG P ops Q q fuel S (listed.setIfInBounds i true) (a.put oi.dst v) w → wpG P ops Q q (fuel + 1) S listed a w := by
  intro fuel
  have unl : ∀ (listed : Array Bool), i ∈ Region.ready .any ops listed → listed.getD i false = false := by
    intro listed hr
    have h0 := (mem_ready.1 hr).1
    rcases Nat.lt_or_ge i listed.size with h' | h'
    · simp [h'] at h0 ⊢; exact h0
    · simp [Array.getElem?_eq_none h'] at h0
  induction fuel with
  | zero =>
    intro S listed a w _ hr _ hy hS H
    refine ⟨fun h => (by rw [h] at hr; cases hr), fun j hj => ?_⟩
    by_cases hji : j = i
    · subst hji; exact hy.wpOp hi hS ⟨S, fun _ h => h, .inr hS, H⟩
    · have := ready_mono hj hji
      rw [H.1] at this
      cases this
  | succ fuel ih =>
    intro S listed a w hfree hr hzl hy hS H
    refine ⟨fun h => (by rw [h] at hr; cases hr), fun j hj => ?_⟩
    by_cases hji : j = i
    · subst hji; exact hy.wpOp hi hS ⟨S, fun _ h => h, .inr hS, H⟩
    · have h1 := H.2 j (ready_mono hj hji)
      obtain ⟨hjun, oj, hoj, hall⟩ := mem_ready.1 hj
      have hiun := unl listed hr
      have hnot : ∀ e ∈ oj.after, Region.binds .any e = true → e.on ≠ i := fun e he hb heq => by
        have h1 := hall e he hb
        rw [heq, hiun] at h1
        cases h1
      have h2 := wpOp_putIf hoj (hfree j oj hoj hji hjun hnot) (fun cs b => hsel i oi cs b hi) (fun cs b => hsel j oj cs b hoj) hQ hy h1
      have hfree' : ∀ k ok, ops[k]? = some ok → k ≠ i → (listed.setIfInBounds j true).getD k true = false →
          (∀ e ∈ ok.after, Region.binds .any e = true → e.on ≠ i) → oi.apart ops ok = true := fun k ok hk hki hun hno => by
        refine hfree k ok hk hki ?_ hno
        by_cases hjk : j = k
        · subst hjk; exact hjun
        · rw [getD_set_ne true hjk] at hun; exact hun
      refine wpOp_mono (fun a' w' h3 => ?_) h2
      obtain ⟨hy', S', hS', hor, hG⟩ := h3
      have hzz : ∀ z oz, ops[z]? = some oz → (∃ e ∈ oz.after, Region.binds .any e = true ∧ e.on = i) → z ≠ j := by
        intro z oz hz hze e; subst e
        rw [hz] at hoj; cases hoj
        obtain ⟨e, he, hb, hon⟩ := hze
        exact hnot e he hb hon
      have hSw : S' w' := by
        rcases hor with ⟨hq, hall'⟩ | h
        · rcases hzl with h | ⟨z, oz, hz, hzi, hze, hzl⟩
          · rw [hq] at h; cases h
          have hzj := hzz z oz hz hze
          have := hall' z (Array.getElem?_eq_some_iff.1 hz).1
          rw [getD_set_ne false (Ne.symm hzj), getD_set_ne false (Ne.symm hzi), hzl] at this
          cases this
        · exact h
      refine ⟨S', hS', .inr hSw, ih S' (listed.setIfInBounds j true) a' w' hfree' (ready_mono hr (Ne.symm hji)) ?_ (YieldsIf.weaken hy' hS') hSw ?_⟩
      · rcases hzl with h | ⟨z, oz, hz, hzi, hze, hzl⟩
        · exact .inl h
        · exact .inr ⟨z, oz, hz, hzi, hze, by rw [getD_set_ne false (Ne.symm (hzz z oz hz hze))]; exact hzl⟩
      · rw [Array.setIfInBounds_comm _ _ hji]
        exact hG
def hasWaiter (ops : Array Oper) (listed : Array Bool) (i : Nat) : Bool :=
  (List.range ops.size).any fun z => match ops[z]? with
    | some oz => !(Nat.beq z i) && !(listed.getD z false) && oz.after.any (fun e => Region.binds .any e && Nat.beq e.on i)
    | none => false
def takeOk (q : Bool) (ops : Array Oper) (listed : Array Bool) (i : Nat) : Bool :=
  Region.noSelect ops && Region.free .any ops listed i && (Region.ready .any ops listed).contains i && (q || hasWaiter ops listed i)
theorem wpG_take {q : Bool} {i : Nat} {o : Oper} {v : Value} {fuel : Nat} {S : World → Prop} {listed : Array Bool} (hQ : ∀ c a a' w, a.defers = a'.defers → Q (.panic c) a w → Q (.panic c) a' w) (hi : ops[i]? = some o) (hk : takeOk q ops listed i = true)
    (hy : YieldsIf P ops S o v (actd n dl f)) (hS : S w) (h : wpG P ops Q q fuel S (listed.setIfInBounds i true) (actd n dl (updo f o.dst v)) w) : wpG P ops Q q (fuel + 1) S listed (actd n dl f) w := by
  unfold takeOk at hk
  simp only [Bool.and_eq_true] at hk
  obtain ⟨⟨⟨hsel, hfree⟩, hr⟩, hw⟩ := hk
  have hw' : q = true ∨ ∃ z oz, ops[z]? = some oz ∧ z ≠ i ∧ (∃ e ∈ oz.after, Region.binds .any e = true ∧ e.on = i) ∧ listed.getD z false = false := by
    cases q with
    | true => exact .inl rfl
    | false =>
      rw [Bool.false_or] at hw
      unfold hasWaiter at hw
      rw [List.any_eq_true] at hw
      obtain ⟨z, _, hz⟩ := hw
      split at hz
      · rename_i oz hoz
        simp only [Bool.and_eq_true, Bool.not_eq_true'] at hz
        obtain ⟨⟨hz1, hz2⟩, hz3⟩ := hz
        have hzi : z ≠ i := fun e => by subst e; rw [Nat.beq_refl] at hz1; cases hz1
        obtain ⟨e, he, hb⟩ := Array.any_eq_true'.1 hz3
        simp only [Bool.and_eq_true] at hb
        exact .inr ⟨z, oz, hoz, hzi, ⟨e, he, hb.1, Nat.eq_of_beq_eq_true hb.2⟩, hz2⟩
      · cases hz
  refine wpG_first hi (Region.noSelect_spec hsel) (fun c a w h => hQ c _ _ w (by cases o.dst <;> rfl) h) fuel S listed (actd n dl f) w (Region.free_spec hi hfree) (by simpa using hr) hw' hy hS ?_
  rw [act_put]
  exact h
theorem wpG_exec {q : Bool} {S : World → Prop} {fuel : Nat} {listed : Array Bool} (i : Nat) {o : Oper} {a : Act} (hr : Region.ready .any ops listed = [i]) (hi : ops[i]? = some o)
    (h : wpList P ops (Exit.then (fun a' w' => ∃ S' : World → Prop, (∀ x, S' x → S x) ∧ ((q = false ∧ AllListed ops (listed.setIfInBounds i true)) ∨ S' w') ∧ wpG P ops Q q fuel S' (listed.setIfInBounds i true) a' w') Q) [o] a w) :
    wpG P ops Q q (fuel + 1) S listed a w := by
  refine ⟨fun h0 => (by rw [h0] at hr; cases hr), fun j hj => ?_⟩
  rw [hr] at hj
  obtain rfl : j = i := by simpa using hj
  unfold wpOp
  simp only [hi]
  unfold wpList at h
  split
  · rename_i hw
    rw [if_pos hw] at h
    refine h.imp (fun h => ?_) (fun h => ⟨h.1, ?_⟩)
    · unfold Oper.wp at h ⊢
      generalize (execOp a.eval o).run P w = r at h ⊢
      cases r with
      | ok x w' =>
        cases x with
        | enter fid args => exact Calls.mono h fun e w'' he => by cases e <;> exact he
        | _ => exact h
      | halt x w' => cases x <;> exact h
    · obtain ⟨a0, w0, h0⟩ := h.2
      exact ⟨a0, w0, h0⟩
  · rename_i hw
    rw [if_neg hw] at h
    exact h
theorem wpG_pick {q : Bool} {S : World → Prop} {fuel : Nat} {listed : Array Bool} (is : List Nat) {a : Act} (hr : Region.ready .any ops listed = is) (hne : is ≠ [])
    (h : ∀ i ∈ is, ∃ o, ops[i]? = some o ∧ wpList P ops (Exit.then (fun a' w' => ∃ S' : World → Prop, (∀ x, S' x → S x) ∧ ((q = false ∧ AllListed ops (listed.setIfInBounds i true)) ∨ S' w') ∧ wpG P ops Q q fuel S' (listed.setIfInBounds i true) a' w') Q) [o] a w) :
    wpG P ops Q q (fuel + 1) S listed a w := by
  refine ⟨fun h0 => absurd (hr.symm.trans h0) hne, fun j hj => ?_⟩
  rw [hr] at hj
  obtain ⟨o, hi, h⟩ := h j hj
  unfold wpOp
  simp only [hi]
  unfold wpList at h
  split
  · rename_i hw
    rw [if_pos hw] at h
    refine h.imp (fun h => ?_) (fun h => ⟨h.1, ?_⟩)
    · unfold Oper.wp at h ⊢
      generalize (execOp a.eval o).run P w = r at h ⊢
      cases r with
      | ok x w' =>
        cases x with
        | enter fid args => exact Calls.mono h fun e w'' he => by cases e <;> exact he
        | _ => exact h
      | halt x w' => cases x <;> exact h
    · obtain ⟨a0, w0, h0⟩ := h.2
      exact ⟨a0, w0, h0⟩
  · rename_i hw
    rw [if_neg hw] at h
    exact h
theorem wpG_done {q : Bool} {S : World → Prop} {fuel : Nat} {listed : Array Bool} {a : Act} (hr : Region.ready .any ops listed = []) (h : Q .normal a w) : wpG P ops Q q fuel S listed a w := by
  cases fuel with
  | zero => exact ⟨hr, h⟩
  | succ fuel => exact ⟨fun _ => h, by rw [hr]; simp⟩
theorem wc_draw (q : Bool) {id : Nat} {a : Act} (S : World → Prop) (hm : P.follows .mixedOrders = true) (h : wpG P ops Q q ops.size S (Array.replicate ops.size false) a { w with drawn := w.drawn + 1 }) : (Code.region id ops true).wp P Q a w :=
  wp_region_any hm (wpAny_of_G _ _ _ _ _ h)
theorem allListed_of (listed : Array Bool) (h : (List.range ops.size).all (fun j => listed.getD j false) = true) : AllListed ops listed := by
  intro j hj
  rw [List.all_eq_true] at h
  exact h j (List.mem_range.2 hj)
end
def TInt (k : IntKind) : Ty Int := { size := 1, R := fun _ x cs => cs = [.int k x], mono := fun _ h => h, len := fun h => (by subst h; rfl), one := fun h v hv => (by subst h; simp at hv; subst hv; rfl) }
def TBool : Ty Bool := { size := 1, R := fun _ x cs => cs = [.bool x], mono := fun _ h => h, len := fun h => (by subst h; rfl), one := fun h v hv => (by subst h; simp at hv; subst hv; rfl) }
def TStr : Ty Str := { size := 1, R := fun _ x cs => cs = [vstr x], mono := fun _ h => h, len := fun h => (by subst h; rfl), one := fun h v hv => (by subst h; simp at hv; subst hv; rfl) }
def TSl {α : Type} (T : Ty α) : Ty (List α) := { size := 1, R := fun m x cs => ∃ v, cs = [v] ∧ RS T m v x, mono := fun h k => (by obtain ⟨v, e, k⟩ := k; exact ⟨v, e, k.mono h⟩), len := fun k => (by obtain ⟨v, e, _⟩ := k; subst e; rfl), one := fun k u hu => (by obtain ⟨v, e, k⟩ := k; subst e; simp at hu; subst hu; obtain ⟨A, c, rfl, _⟩ := k; rfl) }
theorem RC_int {k : IntKind} {m : Mem} {xs : List Int} {cs : List Value} (h : RC (TInt k) m xs cs) : cs = xs.map (Value.int k) := by
  obtain ⟨hl, hc⟩ := h
  apply List.ext_getElem?
  intro i
  simp only [TInt, Nat.mul_one] at hl hc
  rw [List.getElem?_map]
  cases hx : xs[i]? with
  | none =>
    have : xs.length ≤ i := by simpa using hx
    rw [List.getElem?_eq_none (by omega)]; rfl
  | some x =>
    have h1 := hc i x hx
    have h2 : ((cs.drop i).take 1)[0]? = some (.int k x) := by rw [h1]; rfl
    rw [List.getElem?_take, if_pos (by omega), List.getElem?_drop] at h2
    simpa using h2
section
variable {P : Program} {ops : Array Oper} {Q : Exit → Act → World → Prop} {n : Nat} {f : Fr} {w g : World} {m : Mem} {L : List Asr} {dl : List Deferred}
def elemSize (P : Program) (t : TypeId) : Option Nat := match P.underlying t with | some (.slice e) => (P.info? e).map (·.size) | _ => none
def zeroByte (P : Program) (e : TypeId) : Bool := match P.info? e with | some i => (match i.zero with | some (.int .u8 0) => true | _ => false) | none => false
theorem At.cell (h : Rd m L w) {b off : Nat} {cs : List Value} (k : At m ⟨b, off, none⟩ cs) {j : Nat} {v : Value} (hj : cs[j]? = some v) : w.cell? ⟨b, off + j, none⟩ = some v := by
  have := h.at_ k hj
  rwa [addr_add _ _ rfl] at this
theorem run_index_rs {α : Type} {T : Ty α} {A : Option Addr} {xs : List α} {len c : Nat} (hx : ∀ i x, xs[i]? = some x → ∃ ad cs, A = some ad ∧ T.R m x cs ∧ At m (ad.add (i * T.size)) cs) (hlen : len = xs.length)
    {o : Oper} {t : TypeId} {X Y : Operand} (ho : o.op = .indexAddr t X Y) (hsz : elemSize P t = some T.size) {k : IntKind} {i : Int} (h0 : 0 ≤ i) {x : α} (hi : xs[i.toNat]? = some x) :
    ∃ b off cs, T.R m x cs ∧ At m ⟨b, off, none⟩ cs ∧ ∀ (n : Nat) (f : Fr) (w : World), evo n f X = .slice A len c → evo n f Y = .int k i → (execOp (evo n f) o).run P w = .ok (.value (.pointer (some ⟨b, off, none⟩))) w := by
  subst hlen
  obtain ⟨ad, cs, rfl, hr, hat⟩ := hx _ x hi
  have hs := hat.1
  have hlt : i.toNat < xs.length := by
    rcases Nat.lt_or_ge i.toNat xs.length with h | h
    · exact h
    · rw [List.getElem?_eq_none h] at hi; cases hi
  have hb : ad.add (i.toNat * T.size) = ⟨(ad.add (i.toNat * T.size)).block, (ad.add (i.toNat * T.size)).off, none⟩ := by
    revert hs
    generalize ad.add (i.toNat * T.size) = q
    intro hs
    cases q; simp at hs; subst hs; rfl
  refine ⟨(ad.add (i.toNat * T.size)).block, (ad.add (i.toNat * T.size)).off, cs, hr, by rw [← hb]; exact hat, fun n f w hX hY => ?_⟩
  rw [← hb]
  unfold elemSize at hsz
  split at hsz
  · rename_i e hu
    cases hin : P.info? e with
    | none => simp [hin] at hsz
    | some inf =>
      simp only [hin, Option.map_some, Option.some.injEq] at hsz
      have h3 : i < (xs.length : Int) := by omega
      simp [execOp, ho, hX, hY, Instr.indexAt, asIntOf, run_underlying hu, sizeOf, typeInfo, hin, hsz, h0, h3]
  · cases hsz
theorem wl_append_str {o : Oper} {rest : List Oper} {t u e : TypeId} {s x : Operand} {A : Option Addr} {k c i : Nat} {xs : List Int} {l : Str}
    (ho : o.op = .call { callee := .builtin .append, args := #[s, x], argTypes := #[t, u] }) (hg : guardO ops n f o = some true) (hfit : rowFits P t e 1 1 = true) (hu : (P.underlying u matches some .string) = true) (hz : zeroByte P e = true)
    (hs : evo n f s = .slice A k c) (hx : evo n f x = vstr l) (hst : St g m L w) (hi : L[i]? = some (.row e 1 (.slice A k c) k (xs.map (.int .u8))))
    (hb : k + l.length ≤ 140737488355328)
    (kk : ∀ A1 c1 w1, St g m (L.set i (.row e 1 (.slice A1 (k + l.length) c1) (k + l.length) ((xs ++ l.map (fun b => (b.toNat : Int))).map (.int .u8)))) w1 → wpList P ops Q rest (actd n dl (updo f o.dst (.slice A1 (k + l.length) c1))) w1) :
    wpList P ops Q (o :: rest) (actd n dl f) w := by
  have hu' : P.underlying u = some .string := by
    split at hu
    · assumption
    · cases hu
  obtain ⟨hut, inf, z, hin, hzz, h2, h3, h4, h5⟩ := rowFits_spec hfit
  have hz' : inf.zero = some (.int .u8 0) := by
    unfold zeroByte at hz
    simp only [hin] at hz
    split at hz
    · assumption
    · cases hz
  have hown : w.ownsRow 0 e 1 (.slice A k c) k (xs.map (.int .u8)) := hst.own _ (List.mem_of_getElem? hi)
  have hbs : k + (⟨l.toArray⟩ : ByteArray).size ≤ 140737488355328 := hb
  have hm : k + (⟨l.toArray⟩ : ByteArray).size ≤ maxLen := by simp only [maxLen]; omega
  obtain ⟨v1, w1, hr, ho1, hgr, _⟩ := Lib.run_append_own_string (P := P) w 0 t u o.type e inf hut hu' hin hz' h2 h3 _ k _ hown ⟨l.toArray⟩ hm hbs (Nat.zero_le _)
  obtain ⟨A1, c1, rfl⟩ := slice_of_own ho1
  have hcells : Lib.strCells ⟨l.toArray⟩ = (l.map (fun b => (b.toNat : Int))).map (.int .u8) := by
    simp [Lib.strCells]
  have hblk : (Value.slice A1 (k + (⟨l.toArray⟩ : ByteArray).size) c1).ownBlock = (Value.slice A k c).ownBlock ∨ ∀ q, (Value.slice A1 (k + (⟨l.toArray⟩ : ByteArray).size) c1).ownBlock = some q → w.heap.size ≤ q := by
    rcases hown.2 with ⟨he, hk0⟩ | ⟨gb, cap, cur, he, _, hgb, hnc, hcm, hcs, htk⟩
    · right
      have hown' : w.ownsRow w.heap.size e 1 (.slice A k c) k (xs.map (.int .u8)) := ⟨hown.1, .inl ⟨he, hk0⟩⟩
      obtain ⟨v2, w2, hr2, ho2, _⟩ := Lib.run_append_own_string (P := P) w w.heap.size t u o.type e inf hut hu' hin hz' h2 h3 _ k _ hown' ⟨l.toArray⟩ hm hbs (Nat.le_refl _)
      rw [hr] at hr2
      cases hr2
      exact fun q hq => (World.ownsRow.lt ho2 q hq).1
    · cases he
      by_cases hroom : k + (⟨l.toArray⟩ : ByteArray).size ≤ c
      · have hr2 := Lib.run_append_room_string (P := P) w t u o.type e inf hut hu' hin h2 gb k c cur hgb ⟨l.toArray⟩ hroom (by omega)
        rw [hr] at hr2
        cases hr2
        exact .inl rfl
      · have holds : ∀ j u, (xs.map (Value.int .u8))[j]? = some u → w.cell? ((⟨gb, 0, none⟩ : Addr).add j) = some u := hown.cells (g := gb) rfl
        have hr2 := Lib.run_append_grow_string (P := P) w t u o.type e inf (.int .u8 0) hut hu' hin hz' ⟨gb, 0, none⟩ k c (xs.map (.int .u8)) (by rw [h2]; exact hown.1) holds ⟨l.toArray⟩ (by omega) (by omega) (by rw [h3]; exact growslice_fits (by omega) (by omega))
        rw [hr] at hr2
        cases hr2
        exact .inr fun q hq => by cases hq; exact Nat.le_refl _
  have hst1 : St g m (L.set i (.row e 1 (.slice A1 (k + l.length) c1) (k + l.length) ((xs ++ l.map (fun b => (b.toNat : Int))).map (.int .u8)))) w1 := by
    refine hst.upd_at hi ?_ hgr hblk
    rw [List.map_append, ← hcells]
    exact ho1
  refine wl_val hg (w' := w1) ?_ (kk A1 c1 w1 hst1)
  have hx' : evo n f x = .string ⟨l.toArray⟩ := hx
  unfold execOp
  simp only [ho, resolve, invoke, builtin, Sem.run_bind, Sem.run_pure, Result.andThen_ok, List.map_toArray, List.map_cons, List.map_nil, hs, hx', hr]
  rfl
theorem run_conv_row {xs : List Int} {A : Option Addr} {k c i : Nat} {e : TypeId} (h : Rd m L w) (hi : L[i]? = some (.row e 1 (.slice A k c) k (xs.map (.int .u8)))) {o : Oper} {src dst : TypeId} {x : Operand} (ho : o.op = .convert src dst x)
    (hs : (match P.underlying src with | some (.slice e') => (P.underlying e' matches some (.int .u8)) | _ => false) = true) (hd : (P.underlying dst matches some .string) = true) (hx : evo n f x = .slice A k c) :
    (execOp (evo n f) o).run P w = .ok (.value (vstr (xs.map fun q => UInt8.ofNat q.toNat))) w := by
  have hd' : P.underlying dst = some .string := by
    split at hd
    · assumption
    · cases hd
  obtain ⟨e', hs1, hs2⟩ : ∃ e', P.underlying src = some (.slice e') ∧ P.underlying e' = some (.int .u8) := by
    split at hs
    · rename_i e' he
      refine ⟨e', he, ?_⟩
      split at hs
      · assumption
      · cases hs
    · cases hs
  have hown : w.ownsRow 0 e 1 (.slice A k c) k (xs.map (.int .u8)) := h.own _ (List.mem_of_getElem? hi)
  have hl : xs.length = k := by have := hown.1; simpa using this
  have key : (convert src dst (.slice A k c)).run P w = .ok (vstr (xs.map fun q => UInt8.ofNat q.toNat)) w := by
    rcases hown.2 with ⟨he, hk0⟩ | ⟨gb, cap, cur, he, _⟩
    · cases he
      obtain rfl : xs = [] := List.eq_nil_of_length_eq_zero hl
      exact run_convert_bytes_nil w src e' hs1 hs2 0 0 dst hd'
    · cases he
      refine run_convert_bytes_arg w src e' hs1 hs2 gb 0 k c xs hl (fun j hj => ?_) dst hd'
      have := hown.cells (g := gb) rfl j (.int .u8 (xs.getD j 0)) (by simp [List.getElem?_eq_getElem (show j < xs.length by omega), List.getD_eq_getElem?_getD])
      rw [addr_add _ _ rfl] at this
      exact this
  simp only [execOp, ho, hx, Sem.run_bind, key, Result.andThen_ok, Sem.run_pure]
end
structure GInterval where
  From : Int
  To : Int
  deriving DecidableEq
def TGInterval : Ty GInterval := { size := 2, R := fun m x cs => cs = [.int .i64 x.From, .int .i64 x.To], mono := fun hm h => (by exact h), len := fun h => (by subst h; rfl), one := fun h v hv => (by subst h; simp at hv; rcases hv with rfl | rfl <;> rfl) }
theorem TGInterval.open_ {m : Mem} {x : GInterval} {cs : List Value} (h : TGInterval.R m x cs) : cs = [.int .i64 x.From, .int .i64 x.To] := h
theorem TGInterval.close_ {m : Mem} (x : GInterval) : TGInterval.R m x [.int .i64 x.From, .int .i64 x.To] := rfl
structure GValue where
  Kind : Int
  Text : Str
  Int : Int
  deriving DecidableEq
def TGValue : Ty GValue := { size := 3, R := fun m x cs => cs = [.int .i64 x.Kind, vstr x.Text, .int .i64 x.Int], mono := fun hm h => (by exact h), len := fun h => (by subst h; rfl), one := fun h v hv => (by subst h; simp at hv; rcases hv with rfl | rfl | rfl <;> rfl) }
theorem TGValue.open_ {m : Mem} {x : GValue} {cs : List Value} (h : TGValue.R m x cs) : cs = [.int .i64 x.Kind, vstr x.Text, .int .i64 x.Int] := h
theorem TGValue.close_ {m : Mem} (x : GValue) : TGValue.R m x [.int .i64 x.Kind, vstr x.Text, .int .i64 x.Int] := rfl
structure GPred where
  Op : Int
  Field : Str
  Key : Str
  Value : GValue
  Args : List GPred
inductive RGPred (m : Mem) : GPred → List Value → Prop
  | mk (x : GPred) (A : Option Addr) (c : Nat) (hc : x.Args.length ≤ c) (ad : Nat → Addr) (cf : Nat → List Value)
      (h1 : ∀ i y, x.Args[i]? = some y → RGPred m y (cf i)) (h2 : ∀ i y, x.Args[i]? = some y → A = some (ad i) ∧ At m ((ad i).add (i * 7)) (cf i)) :
      RGPred m x [.int .i64 x.Op, vstr x.Field, vstr x.Key, .int .i64 x.Value.Kind, vstr x.Value.Text, .int .i64 x.Value.Int, .slice A x.Args.length c]
theorem RGPred.mono {m m' : Mem} (hm : m.le m') {x : GPred} {cs : List Value} (h : RGPred m x cs) : RGPred m' x cs := by
  induction h with
  | mk x A c hc ad cf h1 h2 ih => exact .mk x A c hc ad cf ih (fun i y hy => ⟨(h2 i y hy).1, (h2 i y hy).2.mono hm⟩)
def TGPred : Ty GPred := { size := 7, R := RGPred, mono := fun hm h => h.mono hm, len := fun h => (by cases h; rfl), one := fun h v hv => (by cases h; simp at hv; rcases hv with rfl | rfl | rfl | rfl | rfl | rfl | rfl <;> rfl) }
theorem TGPred.open_ {m : Mem} {x : GPred} {cs : List Value} (h : TGPred.R m x cs) : ∃ v0, cs = [.int .i64 x.Op, vstr x.Field, vstr x.Key, .int .i64 x.Value.Kind, vstr x.Value.Text, .int .i64 x.Value.Int, v0] ∧ RS (TGPred) m v0 x.Args := by
  cases h with
  | mk x A c hc ad cf h1 h2 =>
    refine ⟨_, rfl, A, c, rfl, hc, fun i y hy => ⟨ad i, cf i, (h2 i y hy).1, h1 i y hy, (h2 i y hy).2⟩⟩
theorem TGPred.close_ {m : Mem} (x : GPred) {v0 : Value} (h : RS TGPred m v0 x.Args) : TGPred.R m x [.int .i64 x.Op, vstr x.Field, vstr x.Key, .int .i64 x.Value.Kind, vstr x.Value.Text, .int .i64 x.Value.Int, v0] := by
  obtain ⟨A, c, rfl, hc, hx⟩ := h
  have hx' : ∀ i, ∃ q : Addr × List Value, ∀ y, x.Args[i]? = some y → A = some q.1 ∧ RGPred m y q.2 ∧ At m (q.1.add (i * 7)) q.2 := by
    intro i
    cases hy : x.Args[i]? with
    | none => exact ⟨(⟨0, 0, none⟩, []), fun y e => by cases e⟩
    | some y =>
      obtain ⟨ad, cs, h1, h2, h3⟩ := hx i y hy
      exact ⟨(ad, cs), fun z e => by cases e; exact ⟨h1, h2, h3⟩⟩
  exact .mk x A c hc (fun i => (Classical.choose (hx' i)).1) (fun i => (Classical.choose (hx' i)).2) (fun i y hy => (Classical.choose_spec (hx' i) y hy).2.1)
    (fun i y hy => ⟨(Classical.choose_spec (hx' i) y hy).1, (Classical.choose_spec (hx' i) y hy).2.2⟩)
structure GVariable where
  Name : Str
  Where : GPred
def TGVariable : Ty GVariable := { size := 8, R := fun m x cs => ∃ v0, cs = [vstr x.Name, .int .i64 x.Where.Op, vstr x.Where.Field, vstr x.Where.Key, .int .i64 x.Where.Value.Kind, vstr x.Where.Value.Text, .int .i64 x.Where.Value.Int, v0] ∧ RS (TGPred) m v0 x.Where.Args, mono := fun hm h => (by obtain ⟨v0, e, h0⟩ := h; exact ⟨v0, e, h0.mono hm⟩), len := fun h => (by obtain ⟨v0, e, _⟩ := h; subst e; rfl), one := fun h v hv => (by obtain ⟨v0, e, h0⟩ := h; subst e; obtain ⟨_, _, rfl, _⟩ := h0; simp at hv; rcases hv with rfl | rfl | rfl | rfl | rfl | rfl | rfl | rfl <;> rfl) }
theorem TGVariable.open_ {m : Mem} {x : GVariable} {cs : List Value} (h : TGVariable.R m x cs) : ∃ v0, cs = [vstr x.Name, .int .i64 x.Where.Op, vstr x.Where.Field, vstr x.Where.Key, .int .i64 x.Where.Value.Kind, vstr x.Where.Value.Text, .int .i64 x.Where.Value.Int, v0] ∧ RS (TGPred) m v0 x.Where.Args := h
theorem TGVariable.close_ {m : Mem} (x : GVariable) {v0 : Value} (h0 : RS (TGPred) m v0 x.Where.Args) : TGVariable.R m x [vstr x.Name, .int .i64 x.Where.Op, vstr x.Where.Field, vstr x.Where.Key, .int .i64 x.Where.Value.Kind, vstr x.Where.Value.Text, .int .i64 x.Where.Value.Int, v0] := ⟨v0, rfl, h0⟩
structure GRelation where
  Kind : Int
  A : Str
  B : Str
  deriving DecidableEq
def TGRelation : Ty GRelation := { size := 3, R := fun m x cs => cs = [.int .i64 x.Kind, vstr x.A, vstr x.B], mono := fun hm h => (by exact h), len := fun h => (by subst h; rfl), one := fun h v hv => (by subst h; simp at hv; rcases hv with rfl | rfl | rfl <;> rfl) }
theorem TGRelation.open_ {m : Mem} {x : GRelation} {cs : List Value} (h : TGRelation.R m x cs) : cs = [.int .i64 x.Kind, vstr x.A, vstr x.B] := h
theorem TGRelation.close_ {m : Mem} (x : GRelation) : TGRelation.R m x [.int .i64 x.Kind, vstr x.A, vstr x.B] := rfl
structure GAbsence where
  Variable : GVariable
  Kind : Int
  Other : Str
  First : Bool
def TGAbsence : Ty GAbsence := { size := 11, R := fun m x cs => ∃ v0, cs = [vstr x.Variable.Name, .int .i64 x.Variable.Where.Op, vstr x.Variable.Where.Field, vstr x.Variable.Where.Key, .int .i64 x.Variable.Where.Value.Kind, vstr x.Variable.Where.Value.Text, .int .i64 x.Variable.Where.Value.Int, v0, .int .i64 x.Kind, vstr x.Other, .bool x.First] ∧ RS (TGPred) m v0 x.Variable.Where.Args, mono := fun hm h => (by obtain ⟨v0, e, h0⟩ := h; exact ⟨v0, e, h0.mono hm⟩), len := fun h => (by obtain ⟨v0, e, _⟩ := h; subst e; rfl), one := fun h v hv => (by obtain ⟨v0, e, h0⟩ := h; subst e; obtain ⟨_, _, rfl, _⟩ := h0; simp at hv; rcases hv with rfl | rfl | rfl | rfl | rfl | rfl | rfl | rfl | rfl | rfl | rfl <;> rfl) }
theorem TGAbsence.open_ {m : Mem} {x : GAbsence} {cs : List Value} (h : TGAbsence.R m x cs) : ∃ v0, cs = [vstr x.Variable.Name, .int .i64 x.Variable.Where.Op, vstr x.Variable.Where.Field, vstr x.Variable.Where.Key, .int .i64 x.Variable.Where.Value.Kind, vstr x.Variable.Where.Value.Text, .int .i64 x.Variable.Where.Value.Int, v0, .int .i64 x.Kind, vstr x.Other, .bool x.First] ∧ RS (TGPred) m v0 x.Variable.Where.Args := h
theorem TGAbsence.close_ {m : Mem} (x : GAbsence) {v0 : Value} (h0 : RS (TGPred) m v0 x.Variable.Where.Args) : TGAbsence.R m x [vstr x.Variable.Name, .int .i64 x.Variable.Where.Op, vstr x.Variable.Where.Field, vstr x.Variable.Where.Key, .int .i64 x.Variable.Where.Value.Kind, vstr x.Variable.Where.Value.Text, .int .i64 x.Variable.Where.Value.Int, v0, .int .i64 x.Kind, vstr x.Other, .bool x.First] := ⟨v0, rfl, h0⟩
structure GColumn where
  Var : Str
  Field : Str
  Key : Str
  deriving DecidableEq
def TGColumn : Ty GColumn := { size := 3, R := fun m x cs => cs = [vstr x.Var, vstr x.Field, vstr x.Key], mono := fun hm h => (by exact h), len := fun h => (by subst h; rfl), one := fun h v hv => (by subst h; simp at hv; rcases hv with rfl | rfl | rfl <;> rfl) }
theorem TGColumn.open_ {m : Mem} {x : GColumn} {cs : List Value} (h : TGColumn.R m x cs) : cs = [vstr x.Var, vstr x.Field, vstr x.Key] := h
theorem TGColumn.close_ {m : Mem} (x : GColumn) : TGColumn.R m x [vstr x.Var, vstr x.Field, vstr x.Key] := rfl
structure GFraction where
  Num : Int
  Den : Int
  deriving DecidableEq
def TGFraction : Ty GFraction := { size := 2, R := fun m x cs => cs = [.int .i64 x.Num, .int .i64 x.Den], mono := fun hm h => (by exact h), len := fun h => (by subst h; rfl), one := fun h v hv => (by subst h; simp at hv; rcases hv with rfl | rfl <;> rfl) }
theorem TGFraction.open_ {m : Mem} {x : GFraction} {cs : List Value} (h : TGFraction.R m x cs) : cs = [.int .i64 x.Num, .int .i64 x.Den] := h
theorem TGFraction.close_ {m : Mem} (x : GFraction) : TGFraction.R m x [.int .i64 x.Num, .int .i64 x.Den] := rfl
structure GAggregate where
  Kind : Int
  Column : GColumn
  Q : GFraction
  deriving DecidableEq
def TGAggregate : Ty GAggregate := { size := 6, R := fun m x cs => cs = [.int .i64 x.Kind, vstr x.Column.Var, vstr x.Column.Field, vstr x.Column.Key, .int .i64 x.Q.Num, .int .i64 x.Q.Den], mono := fun hm h => (by exact h), len := fun h => (by subst h; rfl), one := fun h v hv => (by subst h; simp at hv; rcases hv with rfl | rfl | rfl | rfl | rfl | rfl <;> rfl) }
theorem TGAggregate.open_ {m : Mem} {x : GAggregate} {cs : List Value} (h : TGAggregate.R m x cs) : cs = [.int .i64 x.Kind, vstr x.Column.Var, vstr x.Column.Field, vstr x.Column.Key, .int .i64 x.Q.Num, .int .i64 x.Q.Den] := h
theorem TGAggregate.close_ {m : Mem} (x : GAggregate) : TGAggregate.R m x [.int .i64 x.Kind, vstr x.Column.Var, vstr x.Column.Field, vstr x.Column.Key, .int .i64 x.Q.Num, .int .i64 x.Q.Den] := rfl
structure GOrderKey where
  Index : Int
  Descending : Bool
  deriving DecidableEq
def TGOrderKey : Ty GOrderKey := { size := 2, R := fun m x cs => cs = [.int .i64 x.Index, .bool x.Descending], mono := fun hm h => (by exact h), len := fun h => (by subst h; rfl), one := fun h v hv => (by subst h; simp at hv; rcases hv with rfl | rfl <;> rfl) }
theorem TGOrderKey.open_ {m : Mem} {x : GOrderKey} {cs : List Value} (h : TGOrderKey.R m x cs) : cs = [.int .i64 x.Index, .bool x.Descending] := h
theorem TGOrderKey.close_ {m : Mem} (x : GOrderKey) : TGOrderKey.R m x [.int .i64 x.Index, .bool x.Descending] := rfl
structure GQuery where
  Variables : List GVariable
  Relations : List GRelation
  Absences : List GAbsence
  Slots : GInterval
  Group : List GColumn
  Compute : List GAggregate
  Order : List GOrderKey
  Limit : Int
def TGQuery : Ty GQuery := { size := 9, R := fun m x cs => ∃ v0, ∃ v1, ∃ v2, ∃ v3, ∃ v4, ∃ v5, cs = [v0, v1, v2, .int .i64 x.Slots.From, .int .i64 x.Slots.To, v3, v4, v5, .int .i64 x.Limit] ∧ RS (TGVariable) m v0 x.Variables ∧ RS (TGRelation) m v1 x.Relations ∧ RS (TGAbsence) m v2 x.Absences ∧ RS (TGColumn) m v3 x.Group ∧ RS (TGAggregate) m v4 x.Compute ∧ RS (TGOrderKey) m v5 x.Order, mono := fun hm h => (by obtain ⟨v0, v1, v2, v3, v4, v5, e, h0, h1, h2, h3, h4, h5⟩ := h; exact ⟨v0, v1, v2, v3, v4, v5, e, h0.mono hm, h1.mono hm, h2.mono hm, h3.mono hm, h4.mono hm, h5.mono hm⟩), len := fun h => (by obtain ⟨v0, v1, v2, v3, v4, v5, e, _, _, _, _, _, _⟩ := h; subst e; rfl), one := fun h v hv => (by obtain ⟨v0, v1, v2, v3, v4, v5, e, h0, h1, h2, h3, h4, h5⟩ := h; subst e; obtain ⟨_, _, rfl, _⟩ := h0; obtain ⟨_, _, rfl, _⟩ := h1; obtain ⟨_, _, rfl, _⟩ := h2; obtain ⟨_, _, rfl, _⟩ := h3; obtain ⟨_, _, rfl, _⟩ := h4; obtain ⟨_, _, rfl, _⟩ := h5; simp at hv; rcases hv with rfl | rfl | rfl | rfl | rfl | rfl | rfl | rfl | rfl <;> rfl) }
theorem TGQuery.open_ {m : Mem} {x : GQuery} {cs : List Value} (h : TGQuery.R m x cs) : ∃ v0, ∃ v1, ∃ v2, ∃ v3, ∃ v4, ∃ v5, cs = [v0, v1, v2, .int .i64 x.Slots.From, .int .i64 x.Slots.To, v3, v4, v5, .int .i64 x.Limit] ∧ RS (TGVariable) m v0 x.Variables ∧ RS (TGRelation) m v1 x.Relations ∧ RS (TGAbsence) m v2 x.Absences ∧ RS (TGColumn) m v3 x.Group ∧ RS (TGAggregate) m v4 x.Compute ∧ RS (TGOrderKey) m v5 x.Order := h
theorem TGQuery.close_ {m : Mem} (x : GQuery) {v0 : Value} {v1 : Value} {v2 : Value} {v3 : Value} {v4 : Value} {v5 : Value} (h0 : RS (TGVariable) m v0 x.Variables) (h1 : RS (TGRelation) m v1 x.Relations) (h2 : RS (TGAbsence) m v2 x.Absences) (h3 : RS (TGColumn) m v3 x.Group) (h4 : RS (TGAggregate) m v4 x.Compute) (h5 : RS (TGOrderKey) m v5 x.Order) : TGQuery.R m x [v0, v1, v2, .int .i64 x.Slots.From, .int .i64 x.Slots.To, v3, v4, v5, .int .i64 x.Limit] := ⟨v0, v1, v2, v3, v4, v5, rfl, h0, h1, h2, h3, h4, h5⟩
structure A2_5 where
  a0 : Int
  a1 : Int
  deriving DecidableEq
def TA2_5 : Ty A2_5 := { size := 2, R := fun m x cs => cs = [.int .u8 x.a0, .int .u8 x.a1], mono := fun hm h => (by exact h), len := fun h => (by subst h; rfl), one := fun h v hv => (by subst h; simp at hv; rcases hv with rfl | rfl <;> rfl) }
theorem TA2_5.open_ {m : Mem} {x : A2_5} {cs : List Value} (h : TA2_5.R m x cs) : cs = [.int .u8 x.a0, .int .u8 x.a1] := h
theorem TA2_5.close_ {m : Mem} (x : A2_5) : TA2_5.R m x [.int .u8 x.a0, .int .u8 x.a1] := rfl
structure A3_5 where
  a0 : Int
  a1 : Int
  a2 : Int
  deriving DecidableEq
def TA3_5 : Ty A3_5 := { size := 3, R := fun m x cs => cs = [.int .u8 x.a0, .int .u8 x.a1, .int .u8 x.a2], mono := fun hm h => (by exact h), len := fun h => (by subst h; rfl), one := fun h v hv => (by subst h; simp at hv; rcases hv with rfl | rfl | rfl <;> rfl) }
theorem TA3_5.open_ {m : Mem} {x : A3_5} {cs : List Value} (h : TA3_5.R m x cs) : cs = [.int .u8 x.a0, .int .u8 x.a1, .int .u8 x.a2] := h
theorem TA3_5.close_ {m : Mem} (x : A3_5) : TA3_5.R m x [.int .u8 x.a0, .int .u8 x.a1, .int .u8 x.a2] := rfl
structure LAbsent where
  Name : Int
  Kind : Int
  Other : Int
  Where : List Int
  First : Bool
def TLAbsent : Ty LAbsent := { size := 5, R := fun m x cs => ∃ v0, cs = [.int .u8 x.Name, .int .u8 x.Kind, .int .u8 x.Other, v0, .bool x.First] ∧ RS (TInt .u8) m v0 x.Where, mono := fun hm h => (by obtain ⟨v0, e, h0⟩ := h; exact ⟨v0, e, h0.mono hm⟩), len := fun h => (by obtain ⟨v0, e, _⟩ := h; subst e; rfl), one := fun h v hv => (by obtain ⟨v0, e, h0⟩ := h; subst e; obtain ⟨_, _, rfl, _⟩ := h0; simp at hv; rcases hv with rfl | rfl | rfl | rfl | rfl <;> rfl) }
theorem TLAbsent.open_ {m : Mem} {x : LAbsent} {cs : List Value} (h : TLAbsent.R m x cs) : ∃ v0, cs = [.int .u8 x.Name, .int .u8 x.Kind, .int .u8 x.Other, v0, .bool x.First] ∧ RS (TInt .u8) m v0 x.Where := h
theorem TLAbsent.close_ {m : Mem} (x : LAbsent) {v0 : Value} (h0 : RS (TInt .u8) m v0 x.Where) : TLAbsent.R m x [.int .u8 x.Name, .int .u8 x.Kind, .int .u8 x.Other, v0, .bool x.First] := ⟨v0, rfl, h0⟩
structure A4_5 where
  a0 : Int
  a1 : Int
  a2 : Int
  a3 : Int
  deriving DecidableEq
def TA4_5 : Ty A4_5 := { size := 4, R := fun m x cs => cs = [.int .u8 x.a0, .int .u8 x.a1, .int .u8 x.a2, .int .u8 x.a3], mono := fun hm h => (by exact h), len := fun h => (by subst h; rfl), one := fun h v hv => (by subst h; simp at hv; rcases hv with rfl | rfl | rfl | rfl <;> rfl) }
theorem TA4_5.open_ {m : Mem} {x : A4_5} {cs : List Value} (h : TA4_5.R m x cs) : cs = [.int .u8 x.a0, .int .u8 x.a1, .int .u8 x.a2, .int .u8 x.a3] := h
theorem TA4_5.close_ {m : Mem} (x : A4_5) : TA4_5.R m x [.int .u8 x.a0, .int .u8 x.a1, .int .u8 x.a2, .int .u8 x.a3] := rfl
structure LPlan where
  Where : List (List Int)
  Relations : List A3_5
  Absences : List LAbsent
  Slots : A2_5
  Group : List A3_5
  Compute : List A4_5
  Order : List A2_5
  Limit : Int
  Wrong : Int
def TLPlan : Ty LPlan := { size := 10, R := fun m x cs => ∃ v0, ∃ v1, ∃ v2, ∃ v3, ∃ v4, ∃ v5, cs = [v0, v1, v2, .int .u8 x.Slots.a0, .int .u8 x.Slots.a1, v3, v4, v5, .int .u8 x.Limit, .int .u8 x.Wrong] ∧ RS (TSl (TInt .u8)) m v0 x.Where ∧ RS (TA3_5) m v1 x.Relations ∧ RS (TLAbsent) m v2 x.Absences ∧ RS (TA3_5) m v3 x.Group ∧ RS (TA4_5) m v4 x.Compute ∧ RS (TA2_5) m v5 x.Order, mono := fun hm h => (by obtain ⟨v0, v1, v2, v3, v4, v5, e, h0, h1, h2, h3, h4, h5⟩ := h; exact ⟨v0, v1, v2, v3, v4, v5, e, h0.mono hm, h1.mono hm, h2.mono hm, h3.mono hm, h4.mono hm, h5.mono hm⟩), len := fun h => (by obtain ⟨v0, v1, v2, v3, v4, v5, e, _, _, _, _, _, _⟩ := h; subst e; rfl), one := fun h v hv => (by obtain ⟨v0, v1, v2, v3, v4, v5, e, h0, h1, h2, h3, h4, h5⟩ := h; subst e; obtain ⟨_, _, rfl, _⟩ := h0; obtain ⟨_, _, rfl, _⟩ := h1; obtain ⟨_, _, rfl, _⟩ := h2; obtain ⟨_, _, rfl, _⟩ := h3; obtain ⟨_, _, rfl, _⟩ := h4; obtain ⟨_, _, rfl, _⟩ := h5; simp at hv; rcases hv with rfl | rfl | rfl | rfl | rfl | rfl | rfl | rfl | rfl | rfl <;> rfl) }
theorem TLPlan.open_ {m : Mem} {x : LPlan} {cs : List Value} (h : TLPlan.R m x cs) : ∃ v0, ∃ v1, ∃ v2, ∃ v3, ∃ v4, ∃ v5, cs = [v0, v1, v2, .int .u8 x.Slots.a0, .int .u8 x.Slots.a1, v3, v4, v5, .int .u8 x.Limit, .int .u8 x.Wrong] ∧ RS (TSl (TInt .u8)) m v0 x.Where ∧ RS (TA3_5) m v1 x.Relations ∧ RS (TLAbsent) m v2 x.Absences ∧ RS (TA3_5) m v3 x.Group ∧ RS (TA4_5) m v4 x.Compute ∧ RS (TA2_5) m v5 x.Order := h
theorem TLPlan.close_ {m : Mem} (x : LPlan) {v0 : Value} {v1 : Value} {v2 : Value} {v3 : Value} {v4 : Value} {v5 : Value} (h0 : RS (TSl (TInt .u8)) m v0 x.Where) (h1 : RS (TA3_5) m v1 x.Relations) (h2 : RS (TLAbsent) m v2 x.Absences) (h3 : RS (TA3_5) m v3 x.Group) (h4 : RS (TA4_5) m v4 x.Compute) (h5 : RS (TA2_5) m v5 x.Order) : TLPlan.R m x [v0, v1, v2, .int .u8 x.Slots.a0, .int .u8 x.Slots.a1, v3, v4, v5, .int .u8 x.Limit, .int .u8 x.Wrong] := ⟨v0, v1, v2, v3, v4, v5, rfl, h0, h1, h2, h3, h4, h5⟩
structure A4_59 where
  a0 : Int
  a1 : Int
  a2 : Int
  a3 : Int
  deriving DecidableEq
def TA4_59 : Ty A4_59 := { size := 4, R := fun m x cs => cs = [.int .u16 x.a0, .int .u16 x.a1, .int .u16 x.a2, .int .u16 x.a3], mono := fun hm h => (by exact h), len := fun h => (by subst h; rfl), one := fun h v hv => (by subst h; simp at hv; rcases hv with rfl | rfl | rfl | rfl <;> rfl) }
theorem TA4_59.open_ {m : Mem} {x : A4_59} {cs : List Value} (h : TA4_59.R m x cs) : cs = [.int .u16 x.a0, .int .u16 x.a1, .int .u16 x.a2, .int .u16 x.a3] := h
theorem TA4_59.close_ {m : Mem} (x : A4_59) : TA4_59.R m x [.int .u16 x.a0, .int .u16 x.a1, .int .u16 x.a2, .int .u16 x.a3] := rfl
structure LToken where
  kind : Int
  text : Str
  n_ : Int
  at_ : Int
  e_ : Int
  deriving DecidableEq
def TLToken : Ty LToken := { size := 5, R := fun m x cs => cs = [.int .i64 x.kind, vstr x.text, .int .i64 x.n_, .int .i64 x.at_, .int .i64 x.e_], mono := fun hm h => (by exact h), len := fun h => (by subst h; rfl), one := fun h v hv => (by subst h; simp at hv; rcases hv with rfl | rfl | rfl | rfl | rfl <;> rfl) }
theorem TLToken.open_ {m : Mem} {x : LToken} {cs : List Value} (h : TLToken.R m x cs) : cs = [.int .i64 x.kind, vstr x.text, .int .i64 x.n_, .int .i64 x.at_, .int .i64 x.e_] := h
theorem TLToken.close_ {m : Mem} (x : LToken) : TLToken.R m x [.int .i64 x.kind, vstr x.text, .int .i64 x.n_, .int .i64 x.at_, .int .i64 x.e_] := rfl
structure SFailure where
  at_ : Int
  e_ : Int
  deriving DecidableEq
def TSFailure : Ty SFailure := { size := 2, R := fun m x cs => cs = [.int .i64 x.at_, .int .i64 x.e_], mono := fun hm h => (by exact h), len := fun h => (by subst h; rfl), one := fun h v hv => (by subst h; simp at hv; rcases hv with rfl | rfl <;> rfl) }
theorem TSFailure.open_ {m : Mem} {x : SFailure} {cs : List Value} (h : TSFailure.R m x cs) : cs = [.int .i64 x.at_, .int .i64 x.e_] := h
theorem TSFailure.close_ {m : Mem} (x : SFailure) : TSFailure.R m x [.int .i64 x.at_, .int .i64 x.e_] := rfl
structure LReader where
  l_ : List LToken
  i_ : Int
  at_ : Int
  e_ : Int
def TLReader : Ty LReader := { size := 4, R := fun m x cs => ∃ v0, cs = [v0, .int .i64 x.i_, .int .i64 x.at_, .int .i64 x.e_] ∧ RS (TLToken) m v0 x.l_, mono := fun hm h => (by obtain ⟨v0, e, h0⟩ := h; exact ⟨v0, e, h0.mono hm⟩), len := fun h => (by obtain ⟨v0, e, _⟩ := h; subst e; rfl), one := fun h v hv => (by obtain ⟨v0, e, h0⟩ := h; subst e; obtain ⟨_, _, rfl, _⟩ := h0; simp at hv; rcases hv with rfl | rfl | rfl | rfl <;> rfl) }
theorem TLReader.open_ {m : Mem} {x : LReader} {cs : List Value} (h : TLReader.R m x cs) : ∃ v0, cs = [v0, .int .i64 x.i_, .int .i64 x.at_, .int .i64 x.e_] ∧ RS (TLToken) m v0 x.l_ := h
theorem TLReader.close_ {m : Mem} (x : LReader) {v0 : Value} (h0 : RS (TLToken) m v0 x.l_) : TLReader.R m x [v0, .int .i64 x.i_, .int .i64 x.at_, .int .i64 x.e_] := ⟨v0, rfl, h0⟩
structure SToken where
  kind : Int
  at_ : Int
  s_ : Str
  n_ : Int
  deriving DecidableEq
def TSToken : Ty SToken := { size := 4, R := fun m x cs => cs = [.int .i64 x.kind, .int .i64 x.at_, vstr x.s_, .int .i64 x.n_], mono := fun hm h => (by exact h), len := fun h => (by subst h; rfl), one := fun h v hv => (by subst h; simp at hv; rcases hv with rfl | rfl | rfl | rfl <;> rfl) }
theorem TSToken.open_ {m : Mem} {x : SToken} {cs : List Value} (h : TSToken.R m x cs) : cs = [.int .i64 x.kind, .int .i64 x.at_, vstr x.s_, .int .i64 x.n_] := h
theorem TSToken.close_ {m : Mem} (x : SToken) : TSToken.R m x [.int .i64 x.kind, .int .i64 x.at_, vstr x.s_, .int .i64 x.n_] := rfl
structure SWriter where
  out : List Int
  last : SToken
def TSWriter : Ty SWriter := { size := 5, R := fun m x cs => ∃ v0, cs = [v0, .int .i64 x.last.kind, .int .i64 x.last.at_, vstr x.last.s_, .int .i64 x.last.n_] ∧ RS (TInt .u8) m v0 x.out, mono := fun hm h => (by obtain ⟨v0, e, h0⟩ := h; exact ⟨v0, e, h0.mono hm⟩), len := fun h => (by obtain ⟨v0, e, _⟩ := h; subst e; rfl), one := fun h v hv => (by obtain ⟨v0, e, h0⟩ := h; subst e; obtain ⟨_, _, rfl, _⟩ := h0; simp at hv; rcases hv with rfl | rfl | rfl | rfl | rfl <;> rfl) }
theorem TSWriter.open_ {m : Mem} {x : SWriter} {cs : List Value} (h : TSWriter.R m x cs) : ∃ v0, cs = [v0, .int .i64 x.last.kind, .int .i64 x.last.at_, vstr x.last.s_, .int .i64 x.last.n_] ∧ RS (TInt .u8) m v0 x.out := h
theorem TSWriter.close_ {m : Mem} (x : SWriter) {v0 : Value} (h0 : RS (TInt .u8) m v0 x.out) : TSWriter.R m x [v0, .int .i64 x.last.kind, .int .i64 x.last.at_, vstr x.last.s_, .int .i64 x.last.n_] := ⟨v0, rfl, h0⟩
structure SLexer where
  s_ : Str
  at_ : Int
  deriving DecidableEq
def TSLexer : Ty SLexer := { size := 2, R := fun m x cs => cs = [vstr x.s_, .int .i64 x.at_], mono := fun hm h => (by exact h), len := fun h => (by subst h; rfl), one := fun h v hv => (by subst h; simp at hv; rcases hv with rfl | rfl <;> rfl) }
theorem TSLexer.open_ {m : Mem} {x : SLexer} {cs : List Value} (h : TSLexer.R m x cs) : cs = [vstr x.s_, .int .i64 x.at_] := h
theorem TSLexer.close_ {m : Mem} (x : SLexer) : TSLexer.R m x [vstr x.s_, .int .i64 x.at_] := rfl
structure SParser where
  x_ : SLexer
  t_ : SToken
  deriving DecidableEq
def TSParser : Ty SParser := { size := 6, R := fun m x cs => cs = [vstr x.x_.s_, .int .i64 x.x_.at_, .int .i64 x.t_.kind, .int .i64 x.t_.at_, vstr x.t_.s_, .int .i64 x.t_.n_], mono := fun hm h => (by exact h), len := fun h => (by subst h; rfl), one := fun h v hv => (by subst h; simp at hv; rcases hv with rfl | rfl | rfl | rfl | rfl | rfl <;> rfl) }
theorem TSParser.open_ {m : Mem} {x : SParser} {cs : List Value} (h : TSParser.R m x cs) : cs = [vstr x.x_.s_, .int .i64 x.x_.at_, .int .i64 x.t_.kind, .int .i64 x.t_.at_, vstr x.t_.s_, .int .i64 x.t_.n_] := h
theorem TSParser.close_ {m : Mem} (x : SParser) : TSParser.R m x [vstr x.x_.s_, .int .i64 x.x_.at_, .int .i64 x.t_.kind, .int .i64 x.t_.at_, vstr x.t_.s_, .int .i64 x.t_.n_] := rfl
structure A3_9 where
  a0 : Str
  a1 : Str
  a2 : Str
  deriving DecidableEq
def TA3_9 : Ty A3_9 := { size := 3, R := fun m x cs => cs = [vstr x.a0, vstr x.a1, vstr x.a2], mono := fun hm h => (by exact h), len := fun h => (by subst h; rfl), one := fun h v hv => (by subst h; simp at hv; rcases hv with rfl | rfl | rfl <;> rfl) }
theorem TA3_9.open_ {m : Mem} {x : A3_9} {cs : List Value} (h : TA3_9.R m x cs) : cs = [vstr x.a0, vstr x.a1, vstr x.a2] := h
theorem TA3_9.close_ {m : Mem} (x : A3_9) : TA3_9.R m x [vstr x.a0, vstr x.a1, vstr x.a2] := rfl
structure A2_9 where
  a0 : Str
  a1 : Str
  deriving DecidableEq
def TA2_9 : Ty A2_9 := { size := 2, R := fun m x cs => cs = [vstr x.a0, vstr x.a1], mono := fun hm h => (by exact h), len := fun h => (by subst h; rfl), one := fun h v hv => (by subst h; simp at hv; rcases hv with rfl | rfl <;> rfl) }
theorem TA2_9.open_ {m : Mem} {x : A2_9} {cs : List Value} (h : TA2_9.R m x cs) : cs = [vstr x.a0, vstr x.a1] := h
theorem TA2_9.close_ {m : Mem} (x : A2_9) : TA2_9.R m x [vstr x.a0, vstr x.a1] := rfl
def chk {α : Type} (b : Bool) (x : Option α) : Option α := if b = true then x else none
theorem chk_some {α : Type} {b : Bool} {x : Option α} {r : α} (h : chk b x = some r) : b = true ∧ x = some r := by
  unfold chk at h; split at h
  · exact ⟨by assumption, h⟩
  · cases h
abbrev Pan := Int × Int
abbrev XR (α : Type) := Option (Except Pan α)
def xbind {α β : Type} (x : XR α) (f : α → XR β) : XR β := match x with | none => none | some (.error p) => some (.error p) | some (.ok a) => f a
theorem xbind_some {α β : Type} {x : XR α} {f : α → XR β} {r : Except Pan β} (h : xbind x f = some r) : (∃ p, x = some (.error p) ∧ r = .error p) ∨ (∃ a, x = some (.ok a) ∧ f a = some r) := by
  unfold xbind at h
  split at h
  · cases h
  · rename_i p; cases h; exact .inl ⟨p, rfl, rfl⟩
  · rename_i a; exact .inr ⟨a, rfl, h⟩
def w64 (x : Int) : Int := IntKind.i64.wrap x
theorem RS.shape {α : Type} {T : Ty α} {m : Mem} {v : Value} {xs : List α} (h : RS T m v xs) : ∃ A c, v = .slice A xs.length c := by
  obtain ⟨A, c, e, _⟩ := h; exact ⟨A, c, e⟩
theorem RS.get {α : Type} {T : Ty α} {m : Mem} {A : Option Addr} {k c : Nat} {xs : List α} (h : RS T m (.slice A k c) xs) :
    ∀ i x, xs[i]? = some x → ∃ ad cs, A = some ad ∧ T.R m x cs ∧ At m (ad.add (i * T.size)) cs := by
  obtain ⟨A', c', e, _, hx⟩ := h
  cases e; exact hx
def AllF (f : Fr) : List (Nat × Value) → Prop
  | [] => True
  | (d, v) :: us => f d = v ∧ AllF f us
theorem upd_same {f : Fr} {d : Nat} {v : Value} (h : f d = v) : upd f d v = f := by
  funext i
  unfold upd
  by_cases e : i = d
  · subst e; rw [Nat.beq_refl]; exact h.symm
  · rw [beq_f e]; rfl
theorem upds_same {f : Fr} : ∀ {us : List (Nat × Value)}, AllF f us → upds f us = f
  | [], _ => rfl
  | (d, v) :: us, h => by simp only [upds]; rw [upd_same h.1]; exact upds_same h.2
theorem Rd.none_ {m : Mem} {L : List Asr} {w : World} (h : Rd m L w) : Rd m [] w := ⟨h.mem, fun A hA => by cases hA⟩
theorem Rd.with_ {m : Mem} {L LS : List Asr} {w : World} (h : Rd m L w) (i : Nat) {A : Asr} (hi : L[i]? = some A) (k : Rd m LS w) : Rd m (A :: LS) w :=
  ⟨h.mem, fun B hB => by
    rcases List.mem_cons.1 hB with rfl | hB
    · exact h.own _ (List.mem_of_getElem? hi)
    · exact k.own _ hB⟩
theorem Rd.lower {m m' : Mem} {L : List Asr} {w : World} (hl : m.le m') (h : Rd m' L w) : Rd m L w := ⟨fun b o hb => h.mem b o (hl b o hb), h.own⟩
def PQ (Q : Exit → Act → World → Prop) : Prop := ∀ c a a' w, a.defers = a'.defers → Q (.panic c) a w → Q (.panic c) a' w
theorem PQ.body {P : Program} {fn : Func} {R : Ending → World → Prop} : PQ (bodyPost P fn R) := fun c a a' w hd hq => ⟨hd ▸ hq.1, hq.2⟩
theorem PQ.then_ {N : Act → World → Prop} {Q : Exit → Act → World → Prop} (h : PQ Q) : PQ (Exit.then N Q) := fun c a a' w hd hq => h c a a' w hd hq
theorem PQ.block_ {id : Nat} {Q : Exit → Act → World → Prop} (h : PQ Q) : PQ (Exit.inBlock id Q) := fun c a a' w hd hq => h c a a' w hd hq
def RP (g : World) (m : Mem) (F : List Asr) (p : Pan) (c : List PanicEntry) (w' : World) : Prop :=
  c = [{ v := .iface 84 (.agg ⟨[.int .i64 p.1, .int .i64 p.2]⟩), recovered := false }] ∧ ∃ m', m.le m' ∧ St g m' F w'
def OPost {α : Type} (okP : α → Value → World → Prop) (r : α) (e : Ending) (w' : World) : Prop := ∃ v, e = .returned v ∧ okP r v w'
def XPost {α : Type} (okP : α → Value → World → Prop) (g : World) (m : Mem) (F : List Asr) : Except Pan α → Ending → World → Prop
  | .ok r, e, w' => ∃ v, e = .returned v ∧ okP r v w'
  | .error p, e, w' => ∃ c, e = .panicked c ∧ RP g m F p c w'
def mx (x y : Int) : Int := if y > x then y else x
theorem act_upds {n : Nat} {dl : List Deferred} {f : Fr} {us : List (Nat × Value)} (h : AllF f us) : actd n dl f = actd n dl (upds f us) := by rw [upds_same h]
section
variable {P : Program} {ops : Array Oper} {Q : Exit → Act → World → Prop} {n : Nat} {f : Fr} {w g : World} {m : Mem} {L : List Asr} {dl : List Deferred}
theorem wc_join (J : Act → World → Prop) {x y : Code} {a : Act} (hJ : ∀ a w, J a w → y.wp P Q a w) (h : x.wp P (Exit.then J Q) a w) : (Code.seq x y).wp P Q a w :=
  wp_seq (Code.wp_mono (fun e a w q => by cases e <;> first | exact hJ _ _ q | exact q) h)
theorem wc_loop (I : Nat → Act → World → Prop) (k : Nat) {c : Code} {a : Act} (h0 : I k a w)
    (step : ∀ k, (∀ j, j < k → ∀ a w, I j a w → LoopFrom P c Q a w) → ∀ a w, I k a w → c.wp P (Exit.then (LoopFrom P c Q) Q) a w) : (Code.loop c).wp P Q a w := by
  have key : ∀ k a w, I k a w → LoopFrom P c Q a w := by
    intro k
    induction k using Nat.strongRecOn with
    | _ k ih => exact fun a w h => loop_round (step k ih a w h)
  exact wp_loop_from (key k a w h0)
theorem wl_call_ok {o : Oper} {rest : List Oper} {fid : FuncId} {A : Array Value} {B : Value → World → Prop} (hc : Calls P fid A w (fun e w' => ∃ v, e = .returned v ∧ B v w')) (hg : guardO ops n f o = some true)
    (hr : semO P (execOp (evo n f) o) [] = some (.enter fid A, [], [])) (k : ∀ v w1, B v w1 → wpList P ops Q rest (actd n dl (updo f o.dst v)) w1) : wpList P ops Q (o :: rest) (actd n dl f) w :=
  wl_call hg hr hc (fun v w1 ⟨v', e, hb⟩ => (by cases e; exact k v w1 hb)) (fun c w1 ⟨v', e, hb⟩ => (by cases e)) (fun w1 ⟨v', e, hb⟩ => (by cases e))
theorem wl_call_pan {o : Oper} {rest : List Oper} {fid : FuncId} {A : Array Value} {B : List PanicEntry → World → Prop} (hc : Calls P fid A w (fun e w' => ∃ c, e = .panicked c ∧ B c w')) (hg : guardO ops n f o = some true)
    (hr : semO P (execOp (evo n f) o) [] = some (.enter fid A, [], [])) (k : ∀ c w1, B c w1 → Q (.panic c) (actd n dl f) w1) : wpList P ops Q (o :: rest) (actd n dl f) w :=
  wl_call hg hr hc (fun v w1 ⟨v', e, hb⟩ => (by cases e)) (fun c w1 ⟨v', e, hb⟩ => (by cases e; exact k c w1 hb)) (fun w1 ⟨v', e, hb⟩ => (by cases e))
theorem Rd.cells_obj (h : Rd m L w) {i b : Nat} {t : TypeId} {cs : List Value} (hi : L[i]? = some (.obj b t cs)) : ∃ ad, some (⟨b, 0, none⟩ : Addr) = some ad ∧ ∀ q u, cs[q]? = some u → w.cell? (ad.add q) = some u :=
  ⟨_, rfl, fun q u hq => by rw [addr_add _ _ rfl]; simpa using h.cell hi (off := q) hq⟩
theorem wl_append_t {α : Type} (T : Ty α) {o : Oper} {rest : List Oper} {t e : TypeId} {s x : Operand} {A : Option Addr} {c i i2 b bytes j : Nat} {cs ds : List Value} {xs ys : List α} {t2 : TypeId}
    (ho : o.op = .call { callee := .builtin .append, args := #[s, x], argTypes := #[t, t] }) (hg : guardO ops n f o = some true) (hfit : rowFits P t e T.size bytes = true)
    (hs : evo n f s = .slice A xs.length c) (hx : evo n f x = .slice (some ⟨b, 0, none⟩) j j) (hst : St g m L w) (hi : L[i]? = some (.row e T.size (.slice A xs.length c) xs.length cs))
    (hi2 : L[i2]? = some (.obj b t2 ds)) (hrc : RC T m xs cs) (hrd : RC T m ys ds) (hj : j = ys.length) (hb : decide ((xs ++ ys).length * bytes ≤ 140737488355328) = true) (hby : Nat.blt 0 bytes = true)
    (kk : ∀ A1 c1 cs1 w1, RC T m (xs ++ ys) cs1 → St g m (L.set i (.row e T.size (.slice A1 (xs ++ ys).length c1) (xs ++ ys).length cs1)) w1 → wpList P ops Q rest (actd n dl (updo f o.dst (.slice A1 (xs ++ ys).length c1))) w1) :
    wpList P ops Q (o :: rest) (actd n dl f) w := by
  subst hj
  have hb' := of_decide_eq_true hb
  rw [List.length_append] at hb'
  have hby' : 0 < bytes := by rw [Nat.blt_eq] at hby; exact hby
  have hsz : 0 < T.size := (rowFits_spec hfit).2.choose_spec.choose_spec.2.2.2.2.2
  have hle : xs.length + ys.length ≤ 140737488355328 := Nat.le_trans (Nat.le_mul_of_pos_right _ hby') hb'
  refine wl_append ho hg hfit hs hx hst hi (hst.rd.cells_obj hi2) (by rw [hrd.1]) (hrd.one hsz) hb' (by omega) fun A1 c1 w1 h => ?_
  have he : xs.length + ys.length = (xs ++ ys).length := List.length_append.symm
  rw [he] at h ⊢
  exact kk A1 c1 _ w1 (hrc.append hrd) h
theorem RC_int_map {k : IntKind} {m : Mem} (xs : List Int) : RC (TInt k) m xs (xs.map (Value.int k)) := by
  induction xs with
  | nil => exact RC.nil _ _
  | cons x xs ih => exact RC.cons (T := TInt k) (x := x) (cs := [.int k x]) rfl ih
theorem wl_append_str_t {o : Oper} {rest : List Oper} {t u e : TypeId} {s x : Operand} {A : Option Addr} {c i : Nat} {xs : List Int} {l : Str} {cs : List Value}
    (ho : o.op = .call { callee := .builtin .append, args := #[s, x], argTypes := #[t, u] }) (hg : guardO ops n f o = some true) (hfit : rowFits P t e 1 1 = true) (hu : (P.underlying u matches some .string) = true) (hz : zeroByte P e = true)
    (hs : evo n f s = .slice A xs.length c) (hx : evo n f x = vstr l) (hst : St g m L w) (hi : L[i]? = some (.row e 1 (.slice A xs.length c) xs.length cs)) (hrc : RC (TInt .u8) m xs cs)
    (hb : decide ((xs ++ l.map (fun b => (b.toNat : Int))).length ≤ 140737488355328) = true)
    (kk : ∀ A1 c1 cs1 w1, RC (TInt .u8) m (xs ++ l.map (fun b => (b.toNat : Int))) cs1 → St g m (L.set i (.row e 1 (.slice A1 (xs ++ l.map (fun b => (b.toNat : Int))).length c1) (xs ++ l.map (fun b => (b.toNat : Int))).length cs1)) w1 →
      wpList P ops Q rest (actd n dl (updo f o.dst (.slice A1 (xs ++ l.map (fun b => (b.toNat : Int))).length c1))) w1) :
    wpList P ops Q (o :: rest) (actd n dl f) w := by
  have hcs := RC_int hrc
  subst hcs
  have hb' := of_decide_eq_true hb
  have he : xs.length + l.length = (xs ++ l.map (fun b => (b.toNat : Int))).length := by simp
  refine wl_append_str ho hg hfit hu hz hs hx hst hi (by rw [he]; exact hb') fun A1 c1 w1 h => ?_
  rw [he] at h ⊢
  exact kk A1 c1 _ w1 (RC_int_map _) h
theorem run_conv_row_t {xs : List Int} {A : Option Addr} {c i : Nat} {e : TypeId} {cs : List Value} (h : Rd m L w) (hi : L[i]? = some (.row e 1 (.slice A xs.length c) xs.length cs)) (hrc : RC (TInt .u8) m xs cs) {o : Oper} {src dst : TypeId} {x : Operand} (ho : o.op = .convert src dst x)
    (hs : (match P.underlying src with | some (.slice e') => (P.underlying e' matches some (.int .u8)) | _ => false) = true) (hd : (P.underlying dst matches some .string) = true) (hx : evo n f x = .slice A xs.length c) :
    (execOp (evo n f) o).run P w = .ok (.value (vstr (xs.map fun q => UInt8.ofNat q.toNat))) w := by
  have hcs := RC_int hrc
  subst hcs
  exact run_conv_row h hi ho hs hd hx
theorem run_str_slice2 (l : Str) (lo hi : Int) (o : Oper) (t : TypeId) (x a b : Operand) (ho : o.op = .slice t x (some a) (some b) none) (hu : (P.underlying t matches some .string) = true) (hx : evo n f x = vstr l)
    (ha : evo n f a = .int .i64 lo) (hb : evo n f b = .int .i64 hi) (h : (decide (0 ≤ lo) && decide (lo ≤ hi) && decide (hi ≤ l.length)) = true) :
    (execOp (evo n f) o).run P w = .ok (.value (vstr ((l.drop lo.toNat).take (hi.toNat - lo.toNat)))) w := by
  simp only [Bool.and_eq_true, decide_eq_true_eq] at h
  obtain ⟨⟨h1, h2⟩, h3⟩ := h
  refine run_str_slice l lo.toNat hi.toNat (some a) (some b) o t x ho hu hx ⟨.i64, ?_⟩ ⟨.i64, ?_⟩ (by omega) (by omega)
  · rw [ha, Int.toNat_of_nonneg h1]
  · rw [hb, Int.toNat_of_nonneg (by omega)]
theorem run_str_slice1 (l : Str) (lo : Int) (o : Oper) (t : TypeId) (x a : Operand) (ho : o.op = .slice t x (some a) none none) (hu : (P.underlying t matches some .string) = true) (hx : evo n f x = vstr l)
    (ha : evo n f a = .int .i64 lo) (h : (decide (0 ≤ lo) && decide (lo ≤ l.length)) = true) :
    (execOp (evo n f) o).run P w = .ok (.value (vstr (l.drop lo.toNat))) w := by
  simp only [Bool.and_eq_true, decide_eq_true_eq] at h
  obtain ⟨h1, h2⟩ := h
  have := run_str_slice (P := P) (w := w) l lo.toNat l.length (some a) none o t x ho hu hx ⟨.i64, by rw [ha, Int.toNat_of_nonneg h1]⟩ rfl (by omega) (Nat.le_refl _)
  rw [List.take_of_length_le (by simp)] at this
  exact this
theorem run_str_slice0 (l : Str) (hi : Int) (o : Oper) (t : TypeId) (x b : Operand) (ho : o.op = .slice t x none (some b) none) (hu : (P.underlying t matches some .string) = true) (hx : evo n f x = vstr l)
    (hb : evo n f b = .int .i64 hi) (h : (decide (0 ≤ hi) && decide (hi ≤ l.length)) = true) :
    (execOp (evo n f) o).run P w = .ok (.value (vstr (l.take hi.toNat))) w := by
  simp only [Bool.and_eq_true, decide_eq_true_eq] at h
  obtain ⟨h1, h2⟩ := h
  have := run_str_slice (P := P) (w := w) l 0 hi.toNat none (some b) o t x ho hu hx rfl ⟨.i64, by rw [hb, Int.toNat_of_nonneg h1]⟩ (by omega) (by omega)
  simpa using this
theorem run_str_at (l : Str) (i : Int) (c : UInt8) (o : Oper) (t : TypeId) (x y : Operand) (ho : o.op = .index t x y) (hu : (P.underlying t matches some .string) = true) (hx : evo n f x = vstr l) (hy : evo n f y = .int .i64 i)
    (h0 : decide (0 ≤ i) = true) (hc : l[i.toNat]? = some c) : (execOp (evo n f) o).run P w = .ok (.value (.int .u8 c.toNat)) w :=
  run_str_index l i .i64 c o t x y ho hu hx hy (of_decide_eq_true h0) hc
theorem run_str_add_t (l k : Str) (o : Oper) (t t' : TypeId) (x y : Operand) (ho : o.op = .binOp .add t x y t') (hx : evo n f x = vstr l) (hy : evo n f y = vstr k) (hb : decide ((l ++ k).length ≤ 9223372036854775807) = true) :
    (execOp (evo n f) o).run P w = .ok (.value (vstr (l ++ k))) w :=
  run_str_add l k o t t' x y ho hx hy (by have := of_decide_eq_true hb; rw [List.length_append] at this; exact this)
end
def partB (P : Program) (t : TypeId) (cs : Array Value) (off : Nat) : Option Value :=
  match P.underlying t with
  | some (.struct _) | some (.array _ _) => match P.info? t with | some i => some (.agg (cs.extract off (off + i.size))) | none => none
  | some _ => cs[off]?
  | none => none
def eqFieldsB (P : Program) (rec : TypeId → Value → Value → Option Bool) (xs ys : Array Value) : List Field → Option Bool
  | [] => some true
  | f :: fs => if f.name ≠ "_" then
      match partB P f.type xs f.offset, partB P f.type ys f.offset with
      | some a, some b => match rec f.type a b, eqFieldsB P rec xs ys fs with
        | some r, some s => some (r && s)
        | _, _ => none
      | _, _ => none
    else eqFieldsB P rec xs ys fs
def eqB (P : Program) : Nat → TypeId → Value → Value → Option Bool
  | 0, _, _, _ => none
  | d + 1, t, x, y => match P.underlying t, x, y with
    | some .bool, .bool a, .bool b => some (a == b)
    | some (.int _), .int k a, .int k' b => if k = k' then some (a == b) else none
    | some .string, .string a, .string b => some (a.data.toList == b.data.toList)
    | some (.struct fs), .agg xs, .agg ys => if P.stoodInHeld t then none else eqFieldsB P (eqB P d) xs ys fs.toList
    | _, _, _ => none
section
variable {P : Program} {ops : Array Oper} {Q : Exit → Act → World → Prop} {n : Nat} {f : Fr} {w g : World} {m : Mem} {L : List Asr} {dl : List Deferred}
theorem partB_run {t : TypeId} {cs : Array Value} {off : Nat} {v : Value} (h : partB P t cs off = some v) (w : World) : (part t cs off).run P w = .ok v w := by
  unfold partB at h
  split at h
  · rename_i fs hu
    split at h
    · rename_i i hi; cases h
      simp [part, isAgg, run_underlying hu, sizeOf, typeInfo, hi]
    · cases h
  · rename_i k e hu
    split at h
    · rename_i i hi; cases h
      simp [part, isAgg, run_underlying hu, sizeOf, typeInfo, hi]
    · cases h
  · rename_i d hu1 hu2 hu
    have : (isAgg t).run P w = .ok false w := by
      unfold isAgg
      simp only [Sem.run_bind, run_underlying hu, Result.andThen_ok]
      cases d <;> first | rfl | (exact absurd rfl (hu1 _)) | (exact absurd rfl (hu2 _ _))
    simp [part, this, h]
  · cases h
theorem eqFieldsB_run {d : Nat} (ih : ∀ t x y b, eqB P d t x y = some b → ∀ w, (Op.equalIn d t x y).run P w = .ok b w) (xs ys : Array Value) :
    ∀ (fs : List Field) (b : Bool), eqFieldsB P (eqB P d) xs ys fs = some b → ∀ w, (Op.eqFields d xs ys fs).run P w = .ok b w
  | [], b, h, w => by simp only [eqFieldsB, Option.some.injEq] at h; subst h; rfl
  | f :: fs, b, h, w => by
    simp only [eqFieldsB] at h
    simp only [Op.eqFields]
    split at h
    · rename_i hn
      rw [if_pos hn]
      split at h
      · rename_i a1 b1 h1 h2
        split at h
        · rename_i r s h3 h4
          simp only [Option.some.injEq] at h
          subst h
          simp only [Sem.run_bind, partB_run h1, partB_run h2, Result.andThen_ok, ih _ _ _ _ h3]
          cases r
          · simp
          · simp only [Bool.not_true, Bool.false_eq_true, if_false, Bool.true_and]
            exact eqFieldsB_run ih xs ys fs s h4 w
        · cases h
      · cases h
    · rename_i hn
      rw [if_neg hn]
      exact eqFieldsB_run ih xs ys fs b h w
theorem eqB_run : ∀ (d : Nat) (t : TypeId) (x y : Value) (b : Bool), eqB P d t x y = some b → ∀ w, (Op.equalIn d t x y).run P w = .ok b w
  | 0, t, x, y, b, h, w => by simp [eqB] at h
  | d + 1, t, x, y, b, h, w => by
    unfold eqB at h
    split at h
    · rename_i a1 b1 hu; cases h; exact run_equalIn_bool' w d t _ _ hu
    · rename_i k0 k a1 k' b1 hu
      split at h
      · rename_i e; subst e; cases h; exact run_equalIn_int w d t _ _ _ _ hu
      · cases h
    · rename_i a1 b1 hu
      cases h
      have := run_equalIn_string (P := P) w d t a1 b1 hu
      rw [this, Lib.toList_data, Lib.toList_data]
    · rename_i fs xs ys hu
      split at h
      · cases h
      · rename_i hs
        have hf : P.fieldsOf t = fs := by simp [Program.fieldsOf, hu]
        rw [run_equalIn_struct w d t xs ys (by rw [hf]; exact hu) (by simpa using hs), hf]
        exact eqFieldsB_run (fun t x y b h w => eqB_run d t x y b h w) xs ys fs.toList b h w
    · cases h
theorem run_agg_eql (b : Bool) (xs ys : Array Value) (o : Oper) (t t' : TypeId) (x y : Operand) (ho : o.op = .binOp .eql t x y t') (hx : evo n f x = .agg xs) (hy : evo n f y = .agg ys) (hm : P.eqGuardType P.depth t = false)
    (hb : eqB P 10000 t (.agg xs) (.agg ys) = some b) : (execOp (evo n f) o).run P w = .ok (.value (.bool b)) w := by
  simp only [execOp, ho, hx, hy, Sem.run_bind, run_eqGuard_agg w _ t _ _ xs ys hm, Result.andThen_ok, run_eql_struct, eqB_run _ _ _ _ _ hb, Sem.run_pure]
theorem run_agg_neq (b : Bool) (xs ys : Array Value) (o : Oper) (t t' : TypeId) (x y : Operand) (ho : o.op = .binOp .neq t x y t') (hx : evo n f x = .agg xs) (hy : evo n f y = .agg ys) (hm : P.eqGuardType P.depth t = false)
    (hb : eqB P 10000 t (.agg xs) (.agg ys) = some b) : (execOp (evo n f) o).run P w = .ok (.value (.bool (!b))) w := by
  simp only [execOp, ho, hx, hy, Sem.run_bind, run_eqGuard_agg w _ t _ _ xs ys hm, Result.andThen_ok, run_neq_struct, eqB_run _ _ _ _ _ hb, Sem.run_pure]
theorem wpG_take_val {q : Bool} {i : Nat} {o : Oper} {v : Value} {fuel : Nat} {S : World → Prop} {listed : Array Bool} (hQ : PQ Q) (hi : ops[i]? = some o) (hk : takeOk q ops listed i = true) (hg : guardO ops n f o = some true)
    (hS : S w) (hv : ∀ x, S x → (execOp (evo n f) o).run P x = .ok (.value v) x) (h : wpG P ops Q q fuel S (listed.setIfInBounds i true) (actd n dl (updo f o.dst v)) w) : wpG P ops Q q (fuel + 1) S listed (actd n dl f) w :=
  wpG_take hQ hi hk (.inl ⟨guardO_wanted hg, fun x hx => by rw [act_eval]; exact hv x hx⟩) hS h
theorem index_rs {α : Type} {T : Ty α} {A : Option Addr} {xs : List α} {c : Nat} (hrs : RS T m (.slice A xs.length c) xs) {i : Int} (h0 : decide (0 ≤ i) = true) {x : α} (hi : xs[i.toNat]? = some x) :
    ∃ b off cs, T.R m x cs ∧ At m ⟨b, off, none⟩ cs ∧ ∀ {o : Oper} {t : TypeId} {X Y : Operand} {k : IntKind} {n : Nat} {f : Fr} {w : World}, o.op = .indexAddr t X Y → elemSize P t = some T.size → evo n f X = .slice A xs.length c → evo n f Y = .int k i →
      (execOp (evo n f) o).run P w = .ok (.value (.pointer (some ⟨b, off, none⟩))) w := by
  obtain ⟨ad, cs, rfl, hr, hat⟩ := hrs.get _ x hi
  have h0 := of_decide_eq_true h0
  have hs := hat.1
  have hb : ad.add (i.toNat * T.size) = ⟨(ad.add (i.toNat * T.size)).block, (ad.add (i.toNat * T.size)).off, none⟩ := by
    revert hs
    generalize ad.add (i.toNat * T.size) = q
    intro hs
    cases q; simp at hs; subst hs; rfl
  refine ⟨(ad.add (i.toNat * T.size)).block, (ad.add (i.toNat * T.size)).off, cs, hr, by rw [← hb]; exact hat, fun {o t X Y k n f w} ho hsz hX hY => ?_⟩
  obtain ⟨b', off', cs', hr', hat', hrun⟩ := run_index_rs (P := P) hrs.get rfl ho hsz h0 hi (k := k)
  have h1 := hrun n f w hX hY
  have h2 : (execOp (evo n f) o).run P w = .ok (.value (.pointer (some (ad.add (i.toNat * T.size))))) w := by
    have hlt : i.toNat < xs.length := by
      rcases Nat.lt_or_ge i.toNat xs.length with h | h
      · exact h
      · rw [List.getElem?_eq_none h] at hi; cases hi
    have h3 : i < (xs.length : Int) := by omega
    unfold elemSize at hsz
    split at hsz
    · rename_i e hu
      cases hin : P.info? e with
      | none => simp [hin] at hsz
      | some inf =>
        simp only [hin, Option.map_some, Option.some.injEq] at hsz
        simp [execOp, ho, hX, hY, Instr.indexAt, asIntOf, run_underlying hu, sizeOf, typeInfo, hin, hsz, h0, h3]
    · cases hsz
  rw [h2, hb]
theorem run_arr_str {xs : List Str} {i : Int} {s : Str} (o : Oper) (t e : TypeId) (x y : Operand) {k : IntKind} {l : Nat} (ho : o.op = .index t x y) (hu : P.underlying t = some (.array l e)) (he : (P.underlying e matches some .string) = true) (hl : l = xs.length) (hs : (P.info? e).map (·.size) = some 1)
    (hx : evo n f x = .agg ⟨xs.map vstr⟩) (hy : evo n f y = .int k i) (h0 : decide (0 ≤ i) = true) (hc : xs[i.toNat]? = some s) : (execOp (evo n f) o).run P w = .ok (.value (vstr s)) w := by
  have h0 := of_decide_eq_true h0
  subst hl
  have he' : P.underlying e = some .string := by
    split at he
    · assumption
    · cases he
  have hlt : i.toNat < xs.length := by
    rcases Nat.lt_or_ge i.toNat xs.length with h | h
    · exact h
    · rw [List.getElem?_eq_none h] at hc; cases hc
  have h3 : i < (xs.length : Int) := by omega
  cases hin : P.info? e with
  | none => simp [hin] at hs
  | some inf =>
    simp only [hin, Option.map_some, Option.some.injEq] at hs
    have hq : (⟨xs.map vstr⟩ : Array Value)[i.toNat]? = some (vstr s) := by
      simp only [List.getElem?_toArray, List.getElem?_map, hc, Option.map_some]
    have hq2 : xs[i.toNat] = s := by rw [List.getElem?_eq_getElem hlt] at hc; cases hc; rfl
    have hag : (isAgg e).run P w = .ok false w := by simp [isAgg, run_underlying he']
    simp [execOp, ho, hx, hy, Instr.index, asIntOf, run_underlying hu, h0, h3, sizeOf, typeInfo, hin, hs, part, hag, hq, hlt, hq2]
end
def namesR : List Str := [[], [112, 97, 114, 101, 110, 116], [97, 110, 99, 101, 115, 116, 111, 114], [115, 105, 98, 108, 105, 110, 103], [98, 101, 102, 111, 114, 101], [108, 105, 110, 107]]
def namesA : List Str := [[], [109, 97, 116, 99, 104, 101, 115], [116, 114, 97, 99, 101, 115], [101, 115, 116, 105, 109, 97, 116, 101], [115, 117, 109], [108, 101, 97, 115, 116], [103, 114, 101, 97, 116, 101, 115, 116], [113, 117, 97, 110, 116, 105, 108, 101], [100, 105, 115, 116, 105, 110, 99, 116]]
def namesT : List Str := [[123], [40], [46]]
def namesC : List Str := [[125], [41], [44], [123], [46]]
def GlobAt (m : Mem) (b : Nat) (xs : List Str) : Prop := ∃ v, At m ⟨b, 0, none⟩ [v] ∧ RS TStr m v xs
theorem GlobAt.mono {m m' : Mem} (h : m.le m') {b : Nat} {xs : List Str} (k : GlobAt m b xs) : GlobAt m' b xs := by
  obtain ⟨v, h1, h2⟩ := k; exact ⟨v, h1.mono h, h2.mono h⟩
structure Glob (m : Mem) : Prop where
  r : GlobAt m 0 namesR
  a : GlobAt m 2 namesA
  t : GlobAt m 4 namesT
  c : GlobAt m 5 namesC
  p : ∀ w : World, (∀ b o, m b = some o → w.heap[b]? = some o) → Lib.TabIs Tryz.prog w "internal/strconv.uint64pow10" .u64 Lib.pow10Tab
  s : ∀ w : World, (∀ b o, m b = some o → w.heap[b]? = some o) → Lib.TabIs Tryz.prog w "strings.asciiSpace" .u8 Lib.asciiSpaceTab
theorem Glob.mono {m m' : Mem} (h : m.le m') (k : Glob m) : Glob m' := ⟨k.r.mono h, k.a.mono h, k.t.mono h, k.c.mono h, fun w hw => k.p w fun b o hb => hw b o (h b o hb), fun w hw => k.s w fun b o hb => hw b o (h b o hb)⟩
def orI (k : IntKind) (a b : Int) : Int := k.wrap (((BitVec.ofInt k.bits a) ||| (BitVec.ofInt k.bits b)).toNat : Int)
theorem mem2 {a b i : Nat} (h : i ∈ [a, b]) : i = a ∨ i = b := by simpa using h
def pickr : List Nat → List Asr → Option (List Asr × List Asr)
  | [], pre => some ([], pre)
  | i :: is, pre => match pre[i]? with
    | some A => match pickr is (pre.eraseIdx i) with
      | some (es, rest) => some (A :: es, rest)
      | none => none
    | none => none
def picks (n : Nat) (is : List Nat) (L : List Asr) : Option (List Asr) :=
  match pickr is (L.take n) with
  | some (es, _) => some (es ++ L.drop n)
  | none => none
theorem pickr_perm : ∀ (is : List Nat) (pre es rest : List Asr), pickr is pre = some (es, rest) → (es ++ rest).Perm pre
  | [], pre, es, rest, h => by simp only [pickr, Option.some.injEq, Prod.mk.injEq] at h; obtain ⟨rfl, rfl⟩ := h; exact List.Perm.refl _
  | i :: is, pre, es, rest, h => by
    simp only [pickr] at h
    split at h
    · rename_i A hA
      split at h
      · rename_i es' rest' h2
        simp only [Option.some.injEq, Prod.mk.injEq] at h
        obtain ⟨rfl, rfl⟩ := h
        exact ((pickr_perm is _ _ _ h2).cons A).trans (perm_front hA)
      · cases h
    · cases h
theorem St.pick {g : World} {m : Mem} {L L' : List Asr} {w : World} (n : Nat) (is : List Nat) (hst : St g m L w) (h : picks n is L = some L') : St g m L' w := by
  unfold picks at h
  split at h
  · rename_i es rest hp
    simp only [Option.some.injEq] at h
    subst h
    have h1 := pickr_perm _ _ _ _ hp
    have h2 : ((es ++ rest) ++ L.drop n).Perm L := by
      have := h1.append_right (L.drop n)
      rwa [List.take_append_drop] at this
    refine (hst.perm h2).sub ?_
    exact (List.sublist_append_left es rest).append_right _
  · cases h
section
variable {P : Program} {ops : Array Oper} {Q : Exit → Act → World → Prop} {n : Nat} {f : Fr} {w g : World} {m : Mem} {L : List Asr} {dl : List Deferred}
theorem wpG_strong {q : Bool} {fuel : Nat} {S S2 : World → Prop} {listed : Array Bool} {a : Act} (hs : ∀ x, S2 x → S x) (h : wpG P ops Q q fuel S2 listed a w) : wpG P ops Q q fuel S listed a w := by
  cases fuel with
  | zero => exact h
  | succ k => exact ⟨h.1, fun i hi => wpOp_mono (fun a' w' ⟨S', h1, h2, h3⟩ => ⟨S', fun x hx => hs x (h1 x hx), h2, h3⟩) (h.2 i hi)⟩
theorem addr_add_add (ad : Addr) (i j : Nat) : (ad.add i).add j = ad.add (i + j) := by
  unfold Addr.add
  by_cases hi : i = 0
  · subst hi; simp
  · by_cases hj : j = 0
    · subst hj; simp [hi]
    · simp [hi, hj, Nat.add_assoc]
theorem slice_rs {α : Type} {T : Ty α} {A : Option Addr} {xs : List α} {c : Nat} (hrs : RS T m (.slice A xs.length c) xs) {lo : Int} (hb : (decide (0 ≤ lo) && decide (lo ≤ xs.length)) = true) :
    ∃ A' c', RS T m (.slice A' (xs.drop lo.toNat).length c') (xs.drop lo.toNat) ∧ ∀ {o : Oper} {t : TypeId} {X Y : Operand} {k : IntKind} {n : Nat} {f : Fr} {w : World}, o.op = .slice t X (some Y) none none → elemSize P t = some T.size →
      evo n f X = .slice A xs.length c → evo n f Y = .int k lo → (execOp (evo n f) o).run P w = .ok (.value (.slice A' (xs.drop lo.toNat).length c')) w := by
  simp only [Bool.and_eq_true, decide_eq_true_eq] at hb
  obtain ⟨h0, h1⟩ := hb
  obtain ⟨A0, c0, e, hc, hx⟩ := hrs
  cases e
  refine ⟨if c = lo.toNat then A else A.map (·.add (lo.toNat * T.size)), c - lo.toNat, ⟨_, _, rfl, by rw [List.length_drop]; omega, fun i x hi => ?_⟩, fun {o t X Y k n f w} ho hsz hX hY => ?_⟩
  · rw [List.getElem?_drop] at hi
    obtain ⟨ad, cs, rfl, hR, hat⟩ := hx _ x hi
    have hlt : lo.toNat + i < xs.length := by
      rcases Nat.lt_or_ge (lo.toNat + i) xs.length with h | h
      · exact h
      · rw [List.getElem?_eq_none h] at hi; cases hi
    rw [if_neg (by omega)]
    refine ⟨_, cs, rfl, hR, ?_⟩
    rw [addr_add_add, ← Nat.add_mul]
    exact hat
  · unfold elemSize at hsz
    split at hsz
    · rename_i e hu
      cases hin : P.info? e with
      | none => simp [hin] at hsz
      | some inf =>
        simp only [hin, Option.map_some, Option.some.injEq] at hsz
        simp [execOp, ho, hX, hY, Instr.sliceAt, Instr.slice, Instr.sliceBounds, Instr.sliceBound, asIntOf, run_underlying hu, sizeOf, typeInfo, hin, hsz, h0, h1, List.length_drop]
    · cases hsz
def ErrV (v : Value) (b : Bool) : Prop := (b = false ∧ v = .nilIface) ∨ (b = true ∧ ∃ t x, v = .iface t x)
theorem run_err_neq {v : Value} {b : Bool} (hv : ErrV v b) (o : Oper) (t t' : TypeId) (x : Operand) (ho : o.op = .binOp .neq t x (.const .nilIface) t') (hx : evo n f x = v) (ht : P.underlying t = some (.interface (P.methodsAt t))) :
    (execOp (evo n f) o).run P w = .ok (.value (.bool b)) w := by
  have hy : evo n f (.const .nilIface) = .nilIface := rfl
  rcases hv with ⟨rfl, rfl⟩ | ⟨rfl, t1, x1, rfl⟩
  · have hgd : eqGuard .neq t x (.const .nilIface) .nilIface .nilIface = pure () := by cases x <;> rfl
    simp [execOp, ho, hx, hy, hgd, run_neq_nil_nil w _ ht]
  · have hgd : eqGuard .neq t x (.const .nilIface) (.iface t1 x1) .nilIface = pure () := by cases x <;> rfl
    simp [execOp, ho, hx, hy, hgd, run_neq_held_nil w _ _ _ ht]
end
section
variable {P : Program} {ops : Array Oper} {Q : Exit → Act → World → Prop} {n : Nat} {f : Fr} {w g : World} {m : Mem} {L : List Asr} {dl : List Deferred}
theorem calls_enter_d {fid : FuncId} {fn : Func} {c : Code} {args : List Value} {R : Ending → World → Prop} (hf : P.funcs[fid]? = some fn) (hb : fn.body = some c) (hl : Nat.ble args.length fn.ntmps = true)
    (h : c.wp P (bodyPostD P fn R) (act fn.ntmps (frOf args)) w) : Calls P fid ⟨args⟩ w R := by
  refine calls_of_wp_defers hf hb ?_
  rw [act_enter _ _ (by simpa using Nat.le_of_ble_eq_true hl)]
  exact h
theorem wl_defer {o : Oper} {rest : List Oper} {d : Deferred} (hg : guardO ops n f o = some true) (h : (execOp (evo n f) o).run P w = .ok (.defer d) w)
    (k : wpList P ops Q rest (actd n (d :: dl) (updo f o.dst undef)) w) : wpList P ops Q (o :: rest) (actd n dl f) w := by
  refine wl_run hg ?_
  unfold Oper.wp
  rw [act_eval, h]
  have : Act.put { (actd n dl f) with defers := d :: (actd n dl f).defers } o.dst undef = actd n (d :: dl) (updo f o.dst undef) := by
    rw [← act_put]; rfl
  rw [Oper.upon_defer, this]
  exact k
theorem wpOpsS_val {QS : Exit → Act → List Frame → World → Prop} {i : Nat} {rest : List Nat} {o : Oper} {v : Value} {cs : List Frame} (hi : ops[i]? = some o) (hg : guardO ops n f o = some true)
    (h : (execOp (evo n f) o).run P w = .ok (.value v) w) (k : wpOpsS P ops QS rest (actd n dl (updo f o.dst v)) cs w) : wpOpsS P ops QS (i :: rest) (actd n dl f) cs w := by
  unfold wpOpsS
  simp only [hi, guardO_wanted hg, if_true, act_eval, h, Oper.upon, act_put]
  exact k
theorem wpOpsS_recover {QS : Exit → Act → List Frame → World → Prop} {i : Nat} {rest : List Nat} {o : Oper} {v : Value} {cs cs' : List Frame} (hi : ops[i]? = some o) (hg : guardO ops n f o = some true)
    (h : (execOp (evo n f) o).run P w = .ok .recover w) (hr : recoverD cs = some (v, cs')) (k : wpOpsS P ops QS rest (actd n dl (updo f o.dst v)) cs' w) : wpOpsS P ops QS (i :: rest) (actd n dl f) cs w := by
  unfold wpOpsS
  simp only [hi, guardO_wanted hg, if_true, act_eval, h, hr, act_put]
  exact k
theorem wpOpsS_recover_none {QS : Exit → Act → List Frame → World → Prop} {i : Nat} {rest : List Nat} {o : Oper} {cs : List Frame} (hi : ops[i]? = some o) (hg : guardO ops n f o = some true)
    (h : (execOp (evo n f) o).run P w = .ok .recover w) (hr : recoverD cs = none) (k : wpOpsS P ops QS rest (actd n dl (updo f o.dst .nilIface)) cs w) : wpOpsS P ops QS (i :: rest) (actd n dl f) cs w := by
  unfold wpOpsS
  simp only [hi, guardO_wanted hg, if_true, act_eval, h, hr, act_put]
  exact k
theorem wpOpsS_nil {QS : Exit → Act → List Frame → World → Prop} {a : Act} {cs : List Frame} (k : QS .normal a cs w) : wpOpsS P ops QS [] a cs w := k
end
def panE (p : Pan) : PanicEntry := { v := .iface 84 (.agg ⟨[.int .i64 p.1, .int .i64 p.2]⟩), recovered := false }
def panR (p : Pan) : PanicEntry := { v := .iface 84 (.agg ⟨[.int .i64 p.1, .int .i64 p.2]⟩), recovered := true }
set_option maxRecDepth 10000 in
theorem rec_pan {g : World} {m : Mem} {F : List Asr} {w : World} {b : Nat} {c1 c2 : Value} {p : Pan} (hst : St g m (.obj b 84 [c1, c2] :: F) w) :
    CallsD Tryz.prog 101 ⟨[.pointer (some ⟨b, 0, none⟩)]⟩ (.panicking [panE p]) w fun e u' w' => ∃ v, e = .returned v ∧ u' = .panicking [panR p] ∧ St g m (.obj b 84 [.int .i64 p.1, .int .i64 p.2] :: F) w' := by
  refine callsD_of_wpS Tryz.func101 rfl ?_
  intro c₀ cs hc
  rw [act_enter _ _ (by simp)]
  refine wpS_seq (wpS_region ?_)
  refine wpOpsS_recover (cs' := { c₀ with mode := .panicking [panR p] } :: cs) (v := .iface 84 (.agg ⟨[.int .i64 p.1, .int .i64 p.2]⟩)) rfl rfl rfl ?_ ?_
  · simp [recoverD, hc, panE, panR]
  refine wpOpsS_val (v := .iface 84 (.agg ⟨[.int .i64 p.1, .int .i64 p.2]⟩)) rfl rfl rfl ?_
  refine wpOpsS_nil ?_
  refine wpS_of_wp ?_
  refine wp_seq (wp_region_lit ?_)
  refine wl_seg 1 [(3, .iface 84 (.agg ⟨[.int .i64 p.1, .int .i64 p.2]⟩))] [] (by kernel_rfl) trivial ?_
  refine wl_val (v := .bool true) rfl (run_err_neq (v := .iface 84 (.agg ⟨[.int .i64 p.1, .int .i64 p.2]⟩)) (b := true) (.inr ⟨rfl, _, _, rfl⟩) _ _ _ _ rfl (by kernel_rfl) (by kernel_rfl)) ?_
  refine wl_nil (then_n ?_)
  refine wc_true (by kernel_rfl) ?_
  refine wp_region_lit ?_
  refine wl_seg 2 [(5, .iface 84 (.agg ⟨[.int .i64 p.1, .int .i64 p.2]⟩)), (6, .agg ⟨[.int .i64 p.1, .int .i64 p.2]⟩)] [] (by kernel_rfl) trivial ?_
  refine wl_store (vs := [.int .i64 p.1, .int .i64 p.2]) (off := 0) (L' := .obj b 84 [.int .i64 p.1, .int .i64 p.2] :: F) rfl rfl (by kernel_rfl) (by kernel_rfl) (by kernel_rfl) (by kernel_rfl) hst (i := 0) rfl (Nat.le_of_ble_eq_true rfl) rfl (fun w1 hst => ?_)
  refine wl_nil ?_
  exact ⟨rfl, _, rfl, _, run_results (vs := []) (semO_run _ _ _ [] [] [] [] rfl trivial), _, rfl, rfl, hst⟩
set_option maxRecDepth 10000 in
theorem rec_ret {w : World} {b : Nat} :
    CallsD Tryz.prog 101 ⟨[.pointer (some ⟨b, 0, none⟩)]⟩ .returning w fun e u' w' => ∃ v, e = .returned v ∧ u' = .returning ∧ w' = w := by
  refine callsD_of_wpS Tryz.func101 rfl ?_
  intro c₀ cs hc
  rw [act_enter _ _ (by simp)]
  refine wpS_seq (wpS_region ?_)
  refine wpOpsS_recover_none rfl rfl rfl ?_ ?_
  · simp [recoverD, hc]
  refine wpOpsS_val (v := .nilIface) rfl rfl rfl ?_
  refine wpOpsS_nil ?_
  refine wpS_of_wp ?_
  refine wp_seq (wp_region_lit ?_)
  refine wl_seg 1 [(3, .nilIface)] [] (by kernel_rfl) trivial ?_
  refine wl_val (v := .bool false) rfl (run_err_neq (v := .nilIface) (b := false) (.inl ⟨rfl, rfl⟩) _ _ _ _ rfl (by kernel_rfl) (by kernel_rfl)) ?_
  refine wl_nil (then_n ?_)
  refine wc_false (by kernel_rfl) ?_
  refine wp_skip ?_
  exact ⟨rfl, _, (by rw [← hc]), _, run_results (vs := []) (semO_run _ _ _ [] [] [] [] rfl trivial), _, rfl, rfl, rfl⟩
theorem wc_ret_rec {n : Nat} {f : Fr} {w : World} {b : Nat} {dargs : Array Value} {R : Ending → World → Prop} {fn : Func} {cap : Array Value} {fv : Fn}
    (hi : ∀ w, (invoke (.fn fv cap) dargs).run Tryz.prog w = .ok (.enter 101 ⟨[.pointer (some ⟨b, 0, none⟩)]⟩) w) (vs : List Value) (rs : List (Addr × Value)) (h : semO Tryz.prog (resL n f fn.results.toList) rs = some (vs, rs, [])) (hc : AllC w rs) (hR : R (.returned (oneOrTuple vs)) w) :
    bodyPostD Tryz.prog fn R .ret (actd n [{ target := .fn fv cap, args := dargs }] f) w := by
  refine leaves_cons (by simp) (hi w) ?_
  refine rec_ret.mono ?_
  rintro e u' w' ⟨v, rfl, rfl, rfl⟩
  exact ⟨_, run_results (semO_run _ _ _ _ _ _ _ h hc), hR⟩
theorem wc_pan_rec {n : Nat} {f : Fr} {g : World} {m : Mem} {F : List Asr} {w : World} {b : Nat} {c1 c2 : Value} {p : Pan} {dargs : Array Value} {R : Ending → World → Prop} {fn : Func} {cap : Array Value} {fv : Fn}
    (hst : St g m (.obj b 84 [c1, c2] :: F) w) (hi : ∀ w, (invoke (.fn fv cap) dargs).run Tryz.prog w = .ok (.enter 101 ⟨[.pointer (some ⟨b, 0, none⟩)]⟩) w)
    (h : ∃ vs rs, semO Tryz.prog (resL n f fn.results.toList) rs = some (vs, rs, []) ∧ ∀ w', St g m (.obj b 84 [.int .i64 p.1, .int .i64 p.2] :: F) w' → AllC w' rs ∧ R (.returned (oneOrTuple vs)) w') :
    bodyPostD Tryz.prog fn R (.panic [panE p]) (actd n [{ target := .fn fv cap, args := dargs }] f) w := by
  obtain ⟨vs, rs, h1, h2⟩ := h
  refine leaves_cons (by simp) (hi w) ?_
  refine (rec_pan hst).mono ?_
  rintro e u' w' ⟨v, rfl, rfl, hst'⟩
  obtain ⟨hc, hR⟩ := h2 w' hst'
  exact ⟨_, run_results (semO_run _ _ _ _ _ _ _ h1 hc), hR⟩
theorem St.wider {g : World} {m : Mem} {L : List Asr} {w w' : World} (h : St g m L w) (hh : ∀ b, b < w.heap.size → w'.heap[b]? = w.heap[b]?) (ho : w'.os = w.os) (ht : w'.tape = w.tape) (hu : w'.output = w.output) : St g m L w' :=
  ⟨fun b o hb => (hh b (h.heap_lt hb)).trans (h.mem b o hb), fun A hA => Asr.holds_of_heap (h.own A hA) (fun b hb => hh b (Asr.blk_lt (h.own A hA) hb)), h.nod, h.sep, ho.trans h.os, ht.trans h.tape, hu.trans h.output⟩
theorem RP.pick {g : World} {m m' : Mem} {F L : List Asr} {p : Pan} {c : List PanicEntry} {w' : World} (hl : m.le m') (h : RP g m' L p c w') (n : Nat) (is : List Nat) (hp : picks n is L = some F) : RP g m F p c w' := by
  obtain ⟨e, m1, h1, h2⟩ := h
  exact ⟨e, m1, hl.trans h1, h2.pick n is hp⟩
def xcatch {α β : Type} (x : XR α) (fe : Pan → Option β) (f : α → Option β) : Option β := match x with | none => none | some (.error p) => fe p | some (.ok a) => f a
theorem xcatch_some {α β : Type} {x : XR α} {fe : Pan → Option β} {f : α → Option β} {r : β} (h : xcatch x fe f = some r) : (∃ p, x = some (.error p) ∧ fe p = some r) ∨ (∃ a, x = some (.ok a) ∧ f a = some r) := by
  unfold xcatch at h
  split at h
  · cases h
  · rename_i p; exact .inl ⟨p, rfl, h⟩
  · rename_i a; exact .inr ⟨a, rfl, h⟩
theorem wc_ret_d0 {n : Nat} {f : Fr} {w : World} {R : Ending → World → Prop} {fn : Func} (vs : List Value) (rs : List (Addr × Value)) (h : semO Tryz.prog (resL n f fn.results.toList) rs = some (vs, rs, [])) (hc : AllC w rs)
    (hR : R (.returned (oneOrTuple vs)) w) : bodyPostD Tryz.prog fn R .ret (actd n [] f) w :=
  ⟨_, run_results (semO_run _ _ _ _ _ _ _ h hc), hR⟩
end Go.Proofs.YtfnaahkgegfbnaaGreatDoor
namespace Go.Proofs
def Tryz.lays172_ren : Go.Shelf.Ren := ⟨fun | 172 => 173 | 244 => 183 | 245 => 184 | 247 => 188 | 279 => 189 | 280 => 190 | 281 => 191 | 282 => 192 | 287 => 197 | 316 => 198 | 171 => 167 | 205 => 199 | 321 => 205 | 322 => 206 | 243 => 180 | 246 => 187 | 283 => 193 | 284 => 194 | 285 => 195 | 286 => 196 | 129 => 201 | 317 => 200 | 318 => 202 | 319 => 203 | 320 => 204 | 337 => 207 | 338 => 208 | n => n, fun | 9 => 9 | 3 => 3 | 75 => 201 | 76 => 202 | 4 => 4 | 5 => 5 | 167 => 222 | 37 => 49 | 0 => 0 | 85 => 223 | 2 => 2 | 168 => 225 | 53 => 229 | 175 => 234 | 46 => 220 | 210 => 237 | 127 => 245 | 145 => 248 | 143 => 246 | 21 => 21 | 171 => 228 | 173 => 232 | 212 => 241 | 51 => 195 | 20 => 20 | 213 => 242 | 232 => 250 | 233 => 251 | 80 => 186 | n => n, fun | 15 => 6 | 16 => 7 | 17 => 8 | 18 => 9 | 19 => 10 | n => n⟩
theorem Tryz.lays172 : Go.Proofs.Lays.n172 Tryz.prog Tryz.lays172_ren := {
  mixed := by kernel_rfl
  f129 := Tryz.func201.trans (congrArg some (by kernel_rfl))
  f171 := Tryz.func167.trans (congrArg some (by kernel_rfl))
  f172 := Tryz.func173.trans (congrArg some (by kernel_rfl))
  f205 := Tryz.func199.trans (congrArg some (by kernel_rfl))
  f243 := Tryz.func180.trans (congrArg some (by kernel_rfl))
  f244 := Tryz.func183.trans (congrArg some (by kernel_rfl))
  f245 := Tryz.func184.trans (congrArg some (by kernel_rfl))
  f246 := Tryz.func187.trans (congrArg some (by kernel_rfl))
  f247 := Tryz.func188.trans (congrArg some (by kernel_rfl))
  f279 := Tryz.func189.trans (congrArg some (by kernel_rfl))
  f280 := Tryz.func190.trans (congrArg some (by kernel_rfl))
  f281 := Tryz.func191.trans (congrArg some (by kernel_rfl))
  f282 := Tryz.func192.trans (congrArg some (by kernel_rfl))
  f283 := Tryz.func193.trans (congrArg some (by kernel_rfl))
  f284 := Tryz.func194.trans (congrArg some (by kernel_rfl))
  f285 := Tryz.func195.trans (congrArg some (by kernel_rfl))
  f286 := Tryz.func196.trans (congrArg some (by kernel_rfl))
  f287 := Tryz.func197.trans (congrArg some (by kernel_rfl))
  f316 := Tryz.func198.trans (congrArg some (by kernel_rfl))
  f317 := Tryz.func200.trans (congrArg some (by kernel_rfl))
  f318 := Tryz.func202.trans (congrArg some (by kernel_rfl))
  f319 := Tryz.func203.trans (congrArg some (by kernel_rfl))
  f320 := Tryz.func204.trans (congrArg some (by kernel_rfl))
  f321 := Tryz.func205.trans (congrArg some (by kernel_rfl))
  f322 := Tryz.func206.trans (congrArg some (by kernel_rfl))
  f337 := Tryz.func207.trans (congrArg some (by kernel_rfl))
  f338 := Tryz.func208.trans (congrArg some (by kernel_rfl))
  t0 := Tryz.underlying0
  a0 := Tryz.isAgg0
  z0 := Tryz.sizeOf0
  v0 := Tryz.zeroValue0
  t2 := Tryz.underlying2
  a2 := Tryz.isAgg2
  z2 := Tryz.sizeOf2
  v2 := Tryz.zeroValue2
  t3 := Tryz.underlying3
  a3 := Tryz.isAgg3
  z3 := Tryz.sizeOf3
  v3 := Tryz.zeroValue3
  t4 := Tryz.underlying4
  a4 := Tryz.isAgg4
  z4 := Tryz.sizeOf4
  v4 := Tryz.zeroValue4
  t5 := Tryz.underlying5
  a5 := Tryz.isAgg5
  z5 := Tryz.sizeOf5
  v5 := Tryz.zeroValue5
  t9 := Tryz.underlying9
  a9 := Tryz.isAgg9
  z9 := Tryz.sizeOf9
  v9 := Tryz.zeroValue9
  t20 := Tryz.underlying20
  a20 := Tryz.isAgg20
  z20 := Tryz.sizeOf20
  v20 := Tryz.zeroValue20
  t21 := Tryz.underlying21
  a21 := Tryz.isAgg21
  z21 := Tryz.sizeOf21
  v21 := Tryz.zeroValue21
  t37 := Tryz.underlying49
  a37 := Tryz.isAgg49
  z37 := Tryz.sizeOf49
  v37 := Tryz.zeroValue49
  t46 := Tryz.underlying220
  a46 := Tryz.isAgg220
  z46 := Tryz.sizeOf220
  v46 := Tryz.zeroValue220
  t51 := Tryz.underlying195
  a51 := Tryz.isAgg195
  z51 := Tryz.sizeOf195
  v51 := Tryz.zeroValue195
  t53 := Tryz.underlying229
  a53 := Tryz.isAgg229
  z53 := Tryz.sizeOf229
  v53 := Tryz.zeroValue229
  t75 := Tryz.underlying201
  a75 := Tryz.isAgg201
  z75 := Tryz.sizeOf201
  v75 := Tryz.zeroValue201
  t76 := Tryz.underlying202
  a76 := Tryz.isAgg202
  z76 := Tryz.sizeOf202
  v76 := Tryz.zeroValue202
  t85 := Tryz.underlying223
  a85 := Tryz.isAgg223
  z85 := Tryz.sizeOf223
  v85 := Tryz.zeroValue223
  t127 := Tryz.underlying245
  a127 := Tryz.isAgg245
  z127 := Tryz.sizeOf245
  v127 := Tryz.zeroValue245
  t143 := Tryz.underlying246
  a143 := Tryz.isAgg246
  z143 := Tryz.sizeOf246
  v143 := Tryz.zeroValue246
  t145 := Tryz.underlying248
  a145 := Tryz.isAgg248
  z145 := Tryz.sizeOf248
  v145 := Tryz.zeroValue248
  t167 := Tryz.underlying222
  a167 := Tryz.isAgg222
  z167 := Tryz.sizeOf222
  v167 := Tryz.zeroValue222
  t168 := Tryz.underlying225
  a168 := Tryz.isAgg225
  z168 := Tryz.sizeOf225
  v168 := Tryz.zeroValue225
  t171 := Tryz.underlying228
  a171 := Tryz.isAgg228
  z171 := Tryz.sizeOf228
  v171 := Tryz.zeroValue228
  t173 := Tryz.underlying232
  a173 := Tryz.isAgg232
  z173 := Tryz.sizeOf232
  v173 := Tryz.zeroValue232
  t175 := Tryz.underlying234
  a175 := Tryz.isAgg234
  z175 := Tryz.sizeOf234
  v175 := Tryz.zeroValue234
  t210 := Tryz.underlying237
  a210 := Tryz.isAgg237
  z210 := Tryz.sizeOf237
  v210 := Tryz.zeroValue237
  t212 := Tryz.underlying241
  a212 := Tryz.isAgg241
  z212 := Tryz.sizeOf241
  v212 := Tryz.zeroValue241
  t213 := Tryz.underlying242
  a213 := Tryz.isAgg242
  z213 := Tryz.sizeOf242
  t232 := Tryz.underlying250
  a232 := Tryz.isAgg250
  z232 := Tryz.sizeOf250
  v232 := Tryz.zeroValue250
  t233 := Tryz.underlying251
  a233 := Tryz.isAgg251
  z233 := Tryz.sizeOf251
  v233 := Tryz.zeroValue251
  g15 := by kernel_rfl
  g16 := by kernel_rfl
  g17 := by kernel_rfl
  g18 := by kernel_rfl
  g19 := by kernel_rfl }
open Go.RowKit in
theorem Tryz.strconv_Atoi (s : ByteArray) (n : Int) (hl : s.size ≤ 18) (h : Lib.atoi s.data.toList = some n) (w : World) :
    Calls Tryz.prog 173 #[.string s] w fun e w' => e = .returned (.tuple #[.int .i64 n, .nilIface]) ∧ ∃ t, w' = Lib.bytesWorld w 5 t := Any.strconv_Atoi Tryz.lays172 s n hl h w
def Tryz.laysM171_ren : Go.Shelf.Ren := ⟨fun | 171 => 167 | 243 => 180 | 246 => 187 | 283 => 193 | 284 => 194 | 285 => 195 | 286 => 196 | 129 => 201 | 317 => 200 | 318 => 202 | 319 => 203 | 320 => 204 | 337 => 207 | 338 => 208 | n => n, fun | 3 => 3 | 9 => 9 | 2 => 2 | 4 => 4 | 171 => 228 | 0 => 0 | 53 => 229 | 37 => 49 | 5 => 5 | 173 => 232 | 212 => 241 | 51 => 195 | 20 => 20 | 213 => 242 | 46 => 220 | 232 => 250 | 233 => 251 | n => n, fun | 17 => 8 | 18 => 9 | 19 => 10 | n => n⟩
theorem Tryz.laysM171 : Go.Proofs.LaysM.n171 Tryz.prog Tryz.laysM171_ren := {
  mixed := by kernel_rfl
  f129 := Tryz.func201.trans (congrArg some (by kernel_rfl))
  f171 := Tryz.func167.trans (congrArg some (by kernel_rfl))
  f243 := Tryz.func180.trans (congrArg some (by kernel_rfl))
  f246 := Tryz.func187.trans (congrArg some (by kernel_rfl))
  f283 := Tryz.func193.trans (congrArg some (by kernel_rfl))
  f284 := Tryz.func194.trans (congrArg some (by kernel_rfl))
  f285 := Tryz.func195.trans (congrArg some (by kernel_rfl))
  f286 := Tryz.func196.trans (congrArg some (by kernel_rfl))
  f317 := Tryz.func200.trans (congrArg some (by kernel_rfl))
  f318 := Tryz.func202.trans (congrArg some (by kernel_rfl))
  f319 := Tryz.func203.trans (congrArg some (by kernel_rfl))
  f320 := Tryz.func204.trans (congrArg some (by kernel_rfl))
  f337 := Tryz.func207.trans (congrArg some (by kernel_rfl))
  f338 := Tryz.func208.trans (congrArg some (by kernel_rfl))
  t0 := Tryz.underlying0
  a0 := Tryz.isAgg0
  z0 := Tryz.sizeOf0
  v0 := Tryz.zeroValue0
  t2 := Tryz.underlying2
  a2 := Tryz.isAgg2
  z2 := Tryz.sizeOf2
  v2 := Tryz.zeroValue2
  t3 := Tryz.underlying3
  a3 := Tryz.isAgg3
  z3 := Tryz.sizeOf3
  v3 := Tryz.zeroValue3
  t4 := Tryz.underlying4
  a4 := Tryz.isAgg4
  z4 := Tryz.sizeOf4
  v4 := Tryz.zeroValue4
  t5 := Tryz.underlying5
  a5 := Tryz.isAgg5
  z5 := Tryz.sizeOf5
  v5 := Tryz.zeroValue5
  t9 := Tryz.underlying9
  a9 := Tryz.isAgg9
  z9 := Tryz.sizeOf9
  v9 := Tryz.zeroValue9
  t20 := Tryz.underlying20
  a20 := Tryz.isAgg20
  z20 := Tryz.sizeOf20
  v20 := Tryz.zeroValue20
  t37 := Tryz.underlying49
  a37 := Tryz.isAgg49
  z37 := Tryz.sizeOf49
  v37 := Tryz.zeroValue49
  t46 := Tryz.underlying220
  a46 := Tryz.isAgg220
  z46 := Tryz.sizeOf220
  v46 := Tryz.zeroValue220
  t51 := Tryz.underlying195
  a51 := Tryz.isAgg195
  z51 := Tryz.sizeOf195
  v51 := Tryz.zeroValue195
  t53 := Tryz.underlying229
  a53 := Tryz.isAgg229
  z53 := Tryz.sizeOf229
  v53 := Tryz.zeroValue229
  t171 := Tryz.underlying228
  a171 := Tryz.isAgg228
  z171 := Tryz.sizeOf228
  v171 := Tryz.zeroValue228
  t173 := Tryz.underlying232
  a173 := Tryz.isAgg232
  z173 := Tryz.sizeOf232
  v173 := Tryz.zeroValue232
  t212 := Tryz.underlying241
  a212 := Tryz.isAgg241
  z212 := Tryz.sizeOf241
  v212 := Tryz.zeroValue241
  t213 := Tryz.underlying242
  a213 := Tryz.isAgg242
  z213 := Tryz.sizeOf242
  t232 := Tryz.underlying250
  a232 := Tryz.isAgg250
  z232 := Tryz.sizeOf250
  v232 := Tryz.zeroValue250
  t233 := Tryz.underlying251
  a233 := Tryz.isAgg251
  z233 := Tryz.sizeOf251
  v233 := Tryz.zeroValue251
  g17 := by kernel_rfl
  g18 := by kernel_rfl
  g19 := by kernel_rfl
  i0 := by kernel_rfl
  i2 := by kernel_rfl
  i3 := by kernel_rfl
  i4 := by kernel_rfl
  i5 := by kernel_rfl
  i9 := by kernel_rfl
  i20 := by kernel_rfl
  i37 := by kernel_rfl
  i46 := by kernel_rfl
  i51 := by kernel_rfl
  i53 := by kernel_rfl
  i171 := by kernel_rfl
  i173 := by kernel_rfl
  i212 := by kernel_rfl
  i232 := by kernel_rfl
  i233 := by kernel_rfl
  m17 := by kernel_rfl
  m18 := by kernel_rfl
  m19 := by kernel_rfl }
open Go.RowKit Go.Sort Go.Lib in
theorem Tryz.strconv_Itoa (n : Int) (h0 : -9223372036854775808 ≤ n) (h1 : n ≤ 9223372036854775807) (w : World) (htab : Lib.TabIs Tryz.prog w "internal/strconv.uint64pow10" .u64 Lib.pow10Tab) :
    Calls Tryz.prog 167 #[.int .i64 n] w fun e w' => e = .returned (.string ⟨(Lib.itoa n).toArray⟩) ∧ ∃ k os, w' = grow (w.drewN k) os := Any.strconv_Itoa Tryz.laysM171 n h0 h1 w htab
def Tryz.lays157_ren : Go.Shelf.Ren := ⟨fun | 157 => 98 | 229 => 153 | 199 => 154 | 261 => 171 | 311 => 181 | 312 => 182 | n => n, fun | 9 => 9 | 31 => 22 | 3 => 3 | 5 => 5 | 4 => 4 | 119 => 179 | 0 => 0 | 40 => 181 | 152 => 192 | 21 => 21 | 154 => 194 | 51 => 195 | 141 => 197 | 196 => 210 | 193 => 207 | 198 => 212 | 49 => 59 | 194 => 208 | 201 => 215 | 226 => 219 | 46 => 220 | 227 => 221 | n => n, fun | 0 => 1 | 6 => 3 | n => n⟩
theorem Tryz.lays157 : Go.Proofs.Lays.n157 Tryz.prog Tryz.lays157_ren := {
  mixed := by kernel_rfl
  f157 := Tryz.func98.trans (congrArg some (by kernel_rfl))
  f199 := Tryz.func154.trans (congrArg some (by kernel_rfl))
  f229 := Tryz.func153.trans (congrArg some (by kernel_rfl))
  f261 := Tryz.func171.trans (congrArg some (by kernel_rfl))
  f311 := Tryz.func181.trans (congrArg some (by kernel_rfl))
  f312 := Tryz.func182.trans (congrArg some (by kernel_rfl))
  t0 := Tryz.underlying0
  a0 := Tryz.isAgg0
  z0 := Tryz.sizeOf0
  v0 := Tryz.zeroValue0
  t3 := Tryz.underlying3
  a3 := Tryz.isAgg3
  z3 := Tryz.sizeOf3
  v3 := Tryz.zeroValue3
  t4 := Tryz.underlying4
  a4 := Tryz.isAgg4
  z4 := Tryz.sizeOf4
  v4 := Tryz.zeroValue4
  t5 := Tryz.underlying5
  a5 := Tryz.isAgg5
  z5 := Tryz.sizeOf5
  v5 := Tryz.zeroValue5
  t9 := Tryz.underlying9
  a9 := Tryz.isAgg9
  z9 := Tryz.sizeOf9
  v9 := Tryz.zeroValue9
  t21 := Tryz.underlying21
  a21 := Tryz.isAgg21
  z21 := Tryz.sizeOf21
  v21 := Tryz.zeroValue21
  t31 := Tryz.underlying22
  a31 := Tryz.isAgg22
  z31 := Tryz.sizeOf22
  v31 := Tryz.zeroValue22
  t40 := Tryz.underlying181
  a40 := Tryz.isAgg181
  z40 := Tryz.sizeOf181
  v40 := Tryz.zeroValue181
  t46 := Tryz.underlying220
  a46 := Tryz.isAgg220
  z46 := Tryz.sizeOf220
  v46 := Tryz.zeroValue220
  t49 := Tryz.underlying59
  a49 := Tryz.isAgg59
  z49 := Tryz.sizeOf59
  v49 := Tryz.zeroValue59
  t51 := Tryz.underlying195
  a51 := Tryz.isAgg195
  z51 := Tryz.sizeOf195
  v51 := Tryz.zeroValue195
  t119 := Tryz.underlying179
  a119 := Tryz.isAgg179
  z119 := Tryz.sizeOf179
  t141 := Tryz.underlying197
  a141 := Tryz.isAgg197
  z141 := Tryz.sizeOf197
  v141 := Tryz.zeroValue197
  t152 := Tryz.underlying192
  a152 := Tryz.isAgg192
  z152 := Tryz.sizeOf192
  v152 := Tryz.zeroValue192
  t154 := Tryz.underlying194
  a154 := Tryz.isAgg194
  z154 := Tryz.sizeOf194
  v154 := Tryz.zeroValue194
  t193 := Tryz.underlying207
  a193 := Tryz.isAgg207
  z193 := Tryz.sizeOf207
  v193 := Tryz.zeroValue207
  t194 := Tryz.underlying208
  a194 := Tryz.isAgg208
  z194 := Tryz.sizeOf208
  v194 := Tryz.zeroValue208
  t196 := Tryz.underlying210
  a196 := Tryz.isAgg210
  z196 := Tryz.sizeOf210
  v196 := Tryz.zeroValue210
  t198 := Tryz.underlying212
  a198 := Tryz.isAgg212
  z198 := Tryz.sizeOf212
  v198 := Tryz.zeroValue212
  t201 := Tryz.underlying215
  a201 := Tryz.isAgg215
  z201 := Tryz.sizeOf215
  v201 := Tryz.zeroValue215
  t226 := Tryz.underlying219
  a226 := Tryz.isAgg219
  z226 := Tryz.sizeOf219
  v226 := Tryz.zeroValue219
  t227 := Tryz.underlying221
  a227 := Tryz.isAgg221
  z227 := Tryz.sizeOf221
  v227 := Tryz.zeroValue221
  g0 := by kernel_rfl
  g6 := by kernel_rfl }
open Go.RowKit Go.Lib in
theorem Tryz.strings_Fields (s : ByteArray) (w : World) (hs : s.size < 4294967281) (hascii : ∀ (j : Nat) b, s.data.toList[j]? = some b → b.toNat < 128) (htab : Lib.TabIs Tryz.prog w "strings.asciiSpace" .u8 Lib.asciiSpaceTab) :
    Calls Tryz.prog 98 #[.string s] w fun e w' =>
      e = .returned (.slice (some ⟨w.heap.size, 0, none⟩) (Lib.fields s.data.toList).length (Lib.fields s.data.toList).length) ∧ w' = w.alloc (.cells ((Lib.fields s.data.toList).map fun l => Value.string ⟨l.toArray⟩).toArray 9) := Any.strings_Fields Tryz.lays157 (by kernel_rfl) (by kernel_rfl) s w hs hascii htab
end Go.Proofs
namespace Go.Proofs.YtfnaahkgegfbnaaGreatDoor
def ent (p : Str × Nat) : MapEntry := { key := vstr p.1, val := .bool true, born := p.2 }
def ents (xs : List Str) (j : Nat) : List MapEntry := (xs.zipIdx j).map ent
theorem ents_cons (x : Str) (xs : List Str) (j : Nat) : ents (x :: xs) j = ent (x, j) :: ents xs (j + 1) := rfl
theorem vstr_beq (s t : Str) : ((⟨⟨s⟩⟩ : ByteArray) == ⟨⟨t⟩⟩) = (s == t) := by
  rw [beq_toListBytes, Lib.toList_data, Lib.toList_data]
theorem findNow_ents (s : Str) : ∀ (xs : List Str) (j i : Nat), ∃ r, Instr.findNow .string (vstr s) (ents xs j) i = some r ∧ (s ∉ xs → r = none) ∧ (s ∈ xs → ∃ k, r = some (k, .bool true))
  | [], j, i => ⟨none, rfl, fun _ => rfl, fun h => by cases h⟩
  | x :: xs, j, i => by
    rw [ents_cons]
    have e : Instr.sameNow .string (vstr s) (vstr x) = some (s == x) := by
      show some ((⟨⟨s⟩⟩ : ByteArray) == ⟨⟨x⟩⟩) = _
      rw [vstr_beq]
    by_cases h : s = x
    · subst h
      refine ⟨some (i, .bool true), ?_, fun hn => absurd List.mem_cons_self hn, fun _ => ⟨i, rfl⟩⟩
      simp only [Instr.findNow, ent, e, beq_self_eq_true]
    · obtain ⟨r, h1, h2, h3⟩ := findNow_ents s xs (j + 1) (i + 1)
      refine ⟨r, ?_, fun hn => h2 (fun hm => hn (List.mem_cons_of_mem _ hm)), fun hm => h3 ?_⟩
      · simp only [Instr.findNow, ent, e, beq_eq_false_iff_ne.2 h]
        exact h1
      · rcases List.mem_cons.1 hm with rfl | hm
        · exact absurd rfl h
        · exact hm
section
variable {P : Program} {n : Nat} {f : Fr} {w : World}
theorem run_lookup_ents {b c : Nat} {xs : List Str} {s : Str} {o : Oper} {t k e : TypeId} {x y : Operand} (ho : o.op = .lookup t x y false) (ht : P.underlying t = some (.map k e)) (hk : P.underlying k = some .string) (hz : (zeroValue e).run P w = .ok (.bool false) w)
    (hx : evo n f x = .map (some b)) (hy : evo n f y = vstr s) (hb : w.heap[b]? = some (.map ⟨ents xs 0⟩ c)) : (execOp (evo n f) o).run P w = .ok (.value (.bool (xs.contains s))) w := by
  obtain ⟨r, h1, h2, h3⟩ := findNow_ents s xs 0 0
  have hfk := MapKept.run_findKey (P := P) (w := w) hk h1
  have hck : ∀ em, (Instr.checkKey em 10000 k (vstr s)).run P w = .ok () w := by
    intro em
    unfold Instr.checkKey
    simp [run_underlying hk]
  unfold execOp
  simp only [ho, hx, hy]
  by_cases hm : s ∈ xs
  · obtain ⟨i, rfl⟩ := h3 hm
    have hcon : xs.contains s = true := by simpa using hm
    simp [Instr.lookup, run_underlying ht, MapKept.run_getObj_map hb, hck, hfk, hcon, hm]
  · have := h2 hm; subst this
    have hcon : xs.contains s = false := by simpa using hm
    simp [Instr.lookup, run_underlying ht, MapKept.run_getObj_map hb, hck, hfk, hcon, hz, hm]
theorem run_mapUpdate_ents {b c : Nat} {xs : List Str} {s : Str} {o : Oper} {t k e : TypeId} {x y z : Operand} (ho : o.op = .mapUpdate t x y z) (ht : P.underlying t = some (.map k e)) (hk : P.underlying k = some .string)
    (hx : evo n f x = .map (some b)) (hy : evo n f y = vstr s) (hz : evo n f z = .bool true) (hb : w.heap[b]? = some (.map ⟨ents xs 0⟩ xs.length)) (hn : s ∉ xs) :
    (execOp (evo n f) o).run P w = .ok .skip { w with heap := w.heap.setIfInBounds b (.map ⟨ents (xs ++ [s]) 0⟩ (xs ++ [s]).length) } := by
  obtain ⟨r, h1, h2, h3⟩ := findNow_ents s xs 0 0
  have := h2 hn; subst this
  have hfk := MapKept.run_findKey (P := P) (w := w) hk h1
  have hck : ∀ em, (Instr.checkKey em 10000 k (vstr s)).run P w = .ok () w := by
    intro em
    unfold Instr.checkKey
    simp [run_underlying hk]
  have e1 : ents (xs ++ [s]) 0 = ents xs 0 ++ [{ key := vstr s, val := .bool true, born := xs.length }] := by
    simp [ents, List.zipIdx_append, ent]
  unfold execOp
  simp only [ho, hx, hy, hz]
  rw [e1]
  simp [Instr.mapUpdate, run_underlying ht, MapKept.run_getObj_map hb, hck, hfk, setObj, Sem.run, hb]
end
theorem w64_id {x : Int} (h0 : -9223372036854775808 ≤ x) (h1 : x ≤ 9223372036854775807) : w64 x = x := by
  have e : w64 x = if x % 18446744073709551616 ≥ 9223372036854775808 then x % 18446744073709551616 - 18446744073709551616 else x % 18446744073709551616 := by
    simp [w64, IntKind.wrap, IntKind.bits, IntKind.signed]
  rw [e]
  split <;> omega
def resText : Str := [97, 110, 100, 32, 97, 110, 99, 101, 115, 116, 111, 114, 32, 97, 116, 116, 114, 32, 98, 101, 102, 111, 114, 101, 32, 98, 121, 32, 99, 111, 109, 112, 117, 116, 101, 32, 100, 101, 115, 99, 32, 100, 105, 115, 116, 105, 110, 99, 116, 32, 101, 115, 116, 105, 109, 97, 116, 101, 32, 102, 97, 108, 115, 101, 32, 102, 105, 110, 100, 32, 103, 114, 101, 97, 116, 101, 115, 116, 32, 103, 114, 111, 117, 112, 32, 104, 97, 115, 32, 108, 101, 97, 115, 116, 32, 108, 105, 109, 105, 116, 32, 108, 105, 110, 107, 32, 109, 97, 116, 99, 104, 101, 115, 32, 110, 111, 116, 32, 111, 114, 32, 111, 114, 100, 101, 114, 32, 112, 97, 114, 101, 110, 116, 32, 112, 114, 101, 102, 105, 120, 32, 113, 117, 97, 110, 116, 105, 108, 101, 32, 115, 105, 98, 108, 105, 110, 103, 32, 115, 108, 111, 116, 115, 32, 115, 117, 109, 32, 116, 114, 97, 99, 101, 115, 32, 116, 114, 117, 101, 32, 119, 104, 101, 114, 101]
def resWords : List Str := Lib.fields resText
def resCells : List Value := resWords.map fun l => vstr l
theorem resWords_length : resWords.length = 30 := by kernel_rfl
theorem St.other {g : World} {m : Mem} {L : List Asr} {w : World} {b : Nat} {o : Obj} (h : St g m L w) (hm : m b = none) (hL : ∀ A ∈ L, A.blk ≠ some b) : St g m L { w with heap := w.heap.setIfInBounds b o } := by
  have hne : ∀ c, c ≠ b → (w.heap.setIfInBounds b o)[c]? = w.heap[c]? := fun c hc => by rw [Array.getElem?_setIfInBounds_ne (Ne.symm hc)]
  refine ⟨fun c o' hb => ?_, fun A hA => ?_, h.nod, h.sep, h.os, h.tape, h.output⟩
  · have : c ≠ b := fun e => by subst e; rw [hm] at hb; cases hb
    rw [hne c this]; exact h.mem c o' hb
  · exact Asr.holds_of_heap (h.own A hA) fun c hc => hne c fun e => hL A hA (by rw [hc, e])
theorem run_index_at {P : Program} {n : Nat} {f : Fr} {w : World} {N i c bf : Nat} {o : Oper} {t : TypeId} {X Y : Operand} (ho : o.op = .indexAddr t X Y) (hsz : elemSize P t = some 1) (hX : evo n f X = .slice (some ⟨bf, 0, none⟩) N c) (hY : evo n f Y = .int .i64 (i : Int)) (hi : i < N) :
    (execOp (evo n f) o).run P w = .ok (.value (.pointer (some ⟨bf, i, none⟩))) w := by
  have ha : (⟨bf, 0, none⟩ : Addr).add i = ⟨bf, i, none⟩ := by rw [addr_add _ _ rfl]; simp
  unfold elemSize at hsz
  split at hsz
  · rename_i e hu
    cases hin : P.info? e with
    | none => simp [hin] at hsz
    | some inf =>
      simp only [hin, Option.map_some, Option.some.injEq] at hsz
      simp [execOp, ho, hX, hY, Instr.indexAt, asIntOf, run_underlying hu, sizeOf, typeInfo, hin, hsz, hi, ha]
  · cases hsz
set_option maxRecDepth 10000 in
theorem c_reserved {g : World} {m : Mem} {F : List Asr} {w : World} (hst : St g m F w) (hG : Glob m) :
    Calls Tryz.prog 44 ⟨[]⟩ w (fun e w' => ∃ v, e = .returned v ∧ ∃ b, v = .map (some b) ∧ St g m F w' ∧ w'.heap[b]? = some (.map ⟨ents resWords 0⟩ resWords.length)) := by
  refine calls_enter Tryz.func44 rfl rfl ?_
  refine wp_seq (wp_region_lit (wl_seg 1 [(0, .map none)] [] (by kernel_rfl) trivial (wl_nil (then_n ?_))))
  refine wp_seq (wp_region_lit ?_)
  refine wl_val (v := .map (some w.heap.size)) (w' := w.alloc (.map #[] 0)) rfl rfl ?_
  have hb0 : (w.alloc (.map #[] 0)).heap[w.heap.size]? = some (.map #[] 0) := heap_alloc_new _ _
  have hst1 : St g m F (w.alloc (.map #[] 0)) := hst.wider (fun b hb => heap_alloc_old _ _ hb) rfl rfl rfl
  have hmb : m w.heap.size = none := by
    cases hm : m w.heap.size with
    | none => rfl
    | some o => exact absurd (hst.heap_lt hm) (Nat.lt_irrefl _)
  have hFb : ∀ A ∈ F, A.blk ≠ some w.heap.size := fun A hA e => Nat.lt_irrefl _ (Asr.blk_lt (hst.own A hA) e)
  generalize hw1 : w.alloc (.map #[] 0) = w1 at hb0 hst1 ⊢
  generalize hbb : w.heap.size = b at hb0 hmb hFb ⊢
  refine wl_seg 1 [(1, .map (some b))] [] (by kernel_rfl) trivial (wl_nil (then_n ?_))
  refine wp_seq (wp_seq (wp_region_lit ?_))
  have hF := Tryz.strings_Fields ⟨⟨resText⟩⟩ w1 (Nat.le_of_ble_eq_true (by kernel_rfl)) (fun j b hj => ?hasc) (hG.s w1 hst1.mem)
  case hasc =>
    have h1 : resText.all (fun b => Nat.blt b.toNat 128) = true := by kernel_rfl
    have h2 := List.all_eq_true.1 h1 b (List.mem_of_getElem? hj)
    simpa [Nat.blt_eq] using h2
  refine wl_call_ok (B := fun v w' => v = .slice (some ⟨w1.heap.size, 0, none⟩) resWords.length resWords.length ∧ w' = w1.alloc (.cells ⟨resCells⟩ 9)) (fid := 98) (A := ⟨[vstr resText]⟩) (hF.mono ?_) rfl (by kernel_rfl) ?_
  · rintro e w' ⟨rfl, rfl⟩
    exact ⟨_, rfl, rfl, rfl⟩
  rintro v w2 ⟨rfl, rfl⟩
  have hst2 := hst1.alloc 9 resCells
  have hbf : w1.heap.size ≠ b := fun e => by have := (Array.getElem?_eq_some_iff.1 hb0).1; omega
  have hb1 : (w1.alloc (.cells ⟨resCells⟩ 9 (0, 0))).heap[b]? = some (.map #[] 0) := by
    rw [heap_alloc_old _ _ (Array.getElem?_eq_some_iff.1 hb0).1]; exact hb0
  generalize hw2 : w1.alloc (.cells ⟨resCells⟩ 9 (0, 0)) = w2 at hst2 hb1 ⊢
  generalize hbb2 : w1.heap.size = bf at hbf hst2 ⊢
  rw [resWords_length]
  refine wl_seg 2 [(6, .int .i64 30), (7, .int .i64 0)] [] (by kernel_rfl) trivial (wl_nil (then_n ?_))
  have hLb : ∀ A ∈ (.obj bf 9 resCells :: F : List Asr), A.blk ≠ some b := by
    intro A hA
    rcases List.mem_cons.1 hA with rfl | hA
    · simpa [Asr.blk] using hbf
    · exact hFb A hA
  refine wp_block ?_
  refine wc_loop (fun k a w => ∃ (f0 : Fr) (i : Nat), a = act Tryz.f44.ntmps (upds f0 [(1, .map (some b)), (5, .slice (some ⟨bf, 0, none⟩) 30 30), (6, .int .i64 30), (7, .int .i64 i)]) ∧ i ≤ 30 ∧ k = 30 - i ∧ St g m (.obj bf 9 resCells :: F) w ∧ w.heap[b]? = some (.map ⟨ents (resWords.take i) 0⟩ (resWords.take i).length)) 30 ?_ ?_
  ·exact ⟨_, 0, act_upds ⟨by kernel_rfl, by kernel_rfl, by kernel_rfl, by kernel_rfl, trivial⟩, Nat.zero_le _, rfl, hst2, hb1⟩
  rintro k ih _ w3 ⟨f0, i, rfl, hi, hk, hst3, hb3⟩
  refine wp_seq (wp_region_lit (wl_seg 1 [(8, .bool (decide ((i : Int) < 30)))] [] (by kernel_rfl) trivial (wl_nil (then_n (wp_seq ?_)))))
  refine wc_cond (t := decide ((i : Int) < 30)) (by kernel_rfl) (fun hc => ?_) (fun hc => ?_)
  ·have hc := of_decide_eq_true hc
   have hi' : i < resWords.length := by rw [resWords_length]; omega
   have hcell : resCells[i]? = some (vstr resWords[i]) := by simp [resCells, hi']
   refine wp_skip (then_n (wp_seq (wp_block (wp_seq (wp_region_lit ?_)))))
   refine wl_val (v := .pointer (some ⟨bf, i, none⟩)) (w' := w3) rfl (run_index_at (N := 30) (c := 30) rfl (by kernel_rfl) (by kernel_rfl) (by kernel_rfl) (by omega)) ?_
   refine wl_seg 2 [(10, vstr resWords[i]), (3, vstr resWords[i])] [(⟨bf, i, none⟩, vstr resWords[i])] (by kernel_rfl) ⟨hst3.rd.cell (i := 0) rfl hcell, trivial⟩ (wl_nil (then_n ?_))
   refine wp_region_lit (wl_seg 2 [(11, .map (some b)), (12, vstr resWords[i])] [] (by kernel_rfl) trivial ?_)
   refine wl_unit rfl (run_mapUpdate_ents (c := 0) (k := 9) (e := 4) (s := resWords[i]) rfl (by kernel_rfl) (by kernel_rfl) (by kernel_rfl) (by kernel_rfl) (by kernel_rfl) hb3 ?_) ?_
   · have hnd : resWords.Nodup := of_decide_eq_true (by kernel_rfl)
     exact fun hm => by
       obtain ⟨j, hj, e⟩ := List.mem_take_iff_getElem.1 hm
       have := (List.getElem_inj hnd).1 e
       omega
   refine wl_nil (block_n (then_n ?_))
   refine wp_region_lit (wl_seg 2 [(13, .int .i64 (w64 ((i : Int) + 1))), (7, .int .i64 (w64 ((i : Int) + 1)))] [] (by kernel_rfl) trivial (wl_nil (then_n ?_)))
   have hw : w64 ((i : Int) + 1) = ((i + 1 : Nat) : Int) := by
     exact w64_id (by omega) (by omega)
   rw [hw]
   refine ih (30 - (i + 1)) (by omega) _ _ ⟨_, i + 1, act_upds ⟨by kernel_rfl, by kernel_rfl, by kernel_rfl, by kernel_rfl, trivial⟩, by omega, rfl, hst3.other hmb hLb, ?_⟩
   have hlt := (Array.getElem?_eq_some_iff.1 hb3).1
   rw [List.take_add_one, List.getElem?_eq_getElem hi', Option.toList_some]
   simp [hlt]
  have hc := of_decide_eq_false hc
  have hin : i = 30 := by omega
  subst hin
  refine wp_exit (then_x (then_x (block_x (then_n ?_))))
  refine wp_seq (wp_region_lit (wl_seg 2 [(14, .map (some b)), (0, .map (some b))] [] (by kernel_rfl) trivial (wl_nil (then_n ?_))))
  refine wp_ret ?_
  refine wc_ret [.map (some b)] [] (by kernel_rfl) trivial ?_
  refine ⟨_, rfl, b, rfl, hst3.drop 0, ?_⟩
  have ht : resWords.take 30 = resWords := List.take_of_length_le (by rw [resWords_length]; exact Nat.le_refl _)
  rw [ht] at hb3
  exact hb3
section
variable {P : Program} {n : Nat} {f : Fr} {w g : World} {m : Mem} {L : List Asr}
end
abbrev vi (x : Int) : Value := .int .i64 x
abbrev vu (x : Int) : Value := .int .u8 x
abbrev vb (x : Bool) : Value := .bool x
abbrev vp (b n : Nat) : Value := .pointer (some ⟨b, n, none⟩)
abbrev ad (b n : Nat) : Addr := ⟨b, n, none⟩
abbrev vn : Value := .slice none 0 0
abbrev vs {α : Type} (A : Option Addr) (x : List α) (c : Nat) : Value := .slice A x.length c
abbrev va (cs : List Value) : Value := .agg ⟨cs⟩
abbrev vt (cs : List Value) : Value := .tuple ⟨cs⟩
abbrev vf (f : Nat) (a b : List Value) : Value := .func (.func f) ⟨a⟩ ⟨b⟩
abbrev oo (b : Nat) (t : TypeId) (cs : List Value) : Asr := .obj b t cs
abbrev rw_ {α : Type} (e : TypeId) (s : Nat) (A : Option Addr) (x : List α) (c : Nat) (cs : List Value) : Asr := .row e s (.slice A x.length c) x.length cs
abbrev rn (e : TypeId) (s : Nat) : Asr := .row e s (.slice none 0 0) 0 []
def rdL (b off : Nat) : Nat → List Value → List (Addr × Value)
  | _, [] => []
  | j, v :: l => (⟨b, off + j, none⟩, v) :: rdL b off (j + 1) l
theorem allC_rdL {w : World} {b off : Nat} : ∀ (l : List Value) (j : Nat), (∀ q v, l[q]? = some v → w.cell? ⟨b, off + (j + q), none⟩ = some v) → AllC w (rdL b off j l)
  | [], j, h => trivial
  | v :: l, j, h => ⟨h 0 v rfl, allC_rdL l (j + 1) fun q v' hq => by
      have := h (q + 1) v' hq
      rw [show j + 1 + q = j + (q + 1) by omega]
      exact this⟩
theorem drop_take_get {cs : List Value} {j n q : Nat} {v : Value} (h : ((cs.drop j).take n)[q]? = some v) : cs[j + q]? = some v := by
  rw [List.getElem?_take] at h
  split at h
  · rw [List.getElem?_drop] at h; exact h
  · cases h
theorem Rd.q {m : Mem} {L : List Asr} {w : World} (h : Rd m L w) (i j n : Nat) {b : Nat} {t : TypeId} {cs : List Value} (hi : L[i]? = some (.obj b t cs) := by rfl) : AllC w (rdL b 0 j ((cs.drop j).take n)) :=
  allC_rdL _ j fun q v hq => by rw [Nat.zero_add]; exact h.cell hi (drop_take_get hq)
theorem St.q {g : World} {m : Mem} {L : List Asr} {w : World} (h : St g m L w) (i j n : Nat) {b : Nat} {t : TypeId} {cs : List Value} (hi : L[i]? = some (.obj b t cs) := by rfl) : AllC w (rdL b 0 j ((cs.drop j).take n)) := h.rd.q i j n hi
theorem Rd.f {m : Mem} {L : List Asr} {w : World} (h : Rd m L w) {b off : Nat} {cs : List Value} (k : At m ⟨b, off, none⟩ cs) (j n : Nat) : AllC w (rdL b off j ((cs.drop j).take n)) :=
  allC_rdL _ j fun q v hq => At.cell h k (drop_take_get hq)
theorem St.f {g : World} {m : Mem} {L : List Asr} {w : World} (h : St g m L w) {b off : Nat} {cs : List Value} (k : At m ⟨b, off, none⟩ cs) (j n : Nat) : AllC w (rdL b off j ((cs.drop j).take n)) := h.rd.f k j n
theorem AllC.app {w : World} : ∀ {l r : List (Addr × Value)}, AllC w l → AllC w r → AllC w (l ++ r)
  | [], _, _, h => h
  | _ :: _, _, h, k => ⟨h.1, AllC.app h.2 k⟩
section
variable {P : Program} {ops : Array Oper} {Q : Exit → Act → World → Prop} {n : Nat} {f : Fr} {w g : World} {m : Mem} {L : List Asr} {dl : List Deferred} {o : Oper} {rest l : List Oper}
theorem sq {x y : Code} {a : Act} (h : x.wp P (Exit.then (y.wp P Q) Q) a w) : (Code.seq x y).wp P Q a w := wp_seq h
theorem rg {id : Nat} {a : Act} (h : wpList P l.toArray Q l a w) : (Code.region id l.toArray false).wp P Q a w := wp_region_lit h
theorem qr {id : Nat} {y : Code} {a : Act} (h : wpList P l.toArray (Exit.then (y.wp P Q) Q) l a w) : (Code.seq (Code.region id l.toArray false) y).wp P Q a w := wp_seq (wp_region_lit h)
theorem nl (h : Q .normal (actd n dl f) w) : wpList P ops Q [] (actd n dl f) w := h
theorem tn {N : Act → World → Prop} {a : Act} (h : N a w) : Exit.then N Q .normal a w := h
theorem bn {id : Nat} {a : Act} (h : Q .normal a w) : Exit.inBlock id Q .normal a w := h
theorem tx {N : Act → World → Prop} {a : Act} {id : Nat} (h : Q (.exit id) a w) : Exit.then N Q (.exit id) a w := h
theorem bx {a : Act} {id : Nat} (h : Q .normal a w) : Exit.inBlock id Q (.exit id) a w := block_x h
theorem tr {N : Act → World → Prop} {a : Act} (h : Q .ret a w) : Exit.then N Q .ret a w := h
theorem br {a : Act} {id : Nat} (h : Q .ret a w) : Exit.inBlock id Q .ret a w := h
theorem tp {N : Act → World → Prop} {a : Act} {c : List PanicEntry} (h : Q (.panic c) a w) : Exit.then N Q (.panic c) a w := h
theorem bp {a : Act} {id : Nat} {c : List PanicEntry} (h : Q (.panic c) a w) : Exit.inBlock id Q (.panic c) a w := h
theorem bk {id : Nat} {c : Code} {a : Act} (h : c.wp P (Exit.inBlock id Q) a w) : (Code.block id c).wp P Q a w := wp_block h
theorem ct {c : Operand} {x y : Code} (h : x.wp P Q (actd n dl f) w) (hc : evo n f c = .bool true := by kernel_rfl) : (Code.cond c x y).wp P Q (actd n dl f) w := wc_true hc h
theorem cf {c : Operand} {x y : Code} (h : y.wp P Q (actd n dl f) w) (hc : evo n f c = .bool false := by kernel_rfl) : (Code.cond c x y).wp P Q (actd n dl f) w := wc_false hc h
theorem cn {α : Type} {c : Operand} {x y : Code} {t : Bool} {X Y : Option α} {r : α} (h : (if t = true then X else Y) = some r) (ht : X = some r → x.wp P Q (actd n dl f) w) (hf : Y = some r → y.wp P Q (actd n dl f) w)
    (hc : evo n f c = .bool t := by kernel_rfl) : (Code.cond c x y).wp P Q (actd n dl f) w :=
  wc_cond hc (fun e => ht (by rw [if_pos e] at h; exact h)) (fun e => hf (by rw [if_neg (ne_true_of_eq_false e)] at h; exact h))
theorem sp {α : Type} {t : Bool} {X Y : Option α} {r : α} (h : (if t = true then X else Y) = some r) : (t = true ∧ X = some r) ∨ (t = false ∧ Y = some r) := by
  cases t
  · exact .inr ⟨rfl, by simpa using h⟩
  · exact .inl ⟨rfl, by simpa using h⟩
theorem Rd.c (h : Rd m L w) (i : Nat) {b : Nat} {t : TypeId} {cs : List Value} {off : Nat} {v : Value} (hi : L[i]? = some (.obj b t cs) := by rfl) (hc : cs[off]? = some v := by first | kernel_rfl | rfl) :
    w.cell? ⟨b, off, none⟩ = some v := h.cell hi hc
theorem St.c (h : St g m L w) (i : Nat) {b : Nat} {t : TypeId} {cs : List Value} {off : Nat} {v : Value} (hi : L[i]? = some (.obj b t cs) := by rfl) (hc : cs[off]? = some v := by first | kernel_rfl | rfl) :
    w.cell? ⟨b, off, none⟩ = some v := h.rd.cell hi hc
theorem St.e (h : St g m L w) {b off : Nat} {cs : List Value} (k : At m ⟨b, off, none⟩ cs) (j : Nat) {v : Value} (hj : cs[j]? = some v := by rfl) : w.cell? ⟨b, off + j, none⟩ = some v := At.cell h.rd k hj
theorem Rd.e (h : Rd m L w) {b off : Nat} {cs : List Value} (k : At m ⟨b, off, none⟩ cs) (j : Nat) {v : Value} (hj : cs[j]? = some v := by rfl) : w.cell? ⟨b, off + j, none⟩ = some v := At.cell h k hj
theorem vl {v : Value} (h : (execOp (evo n f) o).run P w = .ok (.value v) w) (k : wpList P ops Q rest (actd n dl (updo f o.dst v)) w) (hg : guardO ops n f o = some true := by kernel_rfl) :
    wpList P ops Q (o :: rest) (actd n dl f) w := wl_val hg h k
section
variable {t t' : TypeId} {x y a b : Operand}
theorem re (l k : Str) (ho : o.op = .binOp .eql t x y t' := by rfl) (hx : evo n f x = vstr l := by kernel_rfl) (hy : evo n f y = vstr k := by kernel_rfl) : (execOp (evo n f) o).run P w = .ok (.value (.bool (l == k))) w :=
  run_str_eql l k o t t' x y ho hx hy
theorem rne (l k : Str) (ho : o.op = .binOp .neq t x y t' := by rfl) (hx : evo n f x = vstr l := by kernel_rfl) (hy : evo n f y = vstr k := by kernel_rfl) : (execOp (evo n f) o).run P w = .ok (.value (.bool (!(l == k)))) w :=
  run_str_neq l k o t t' x y ho hx hy
theorem rad {l k : Str} (hb : decide ((l ++ k).length ≤ 9223372036854775807) = true) (ho : o.op = .binOp .add t x y t' := by rfl) (hx : evo n f x = vstr l := by kernel_rfl) (hy : evo n f y = vstr k := by kernel_rfl) :
    (execOp (evo n f) o).run P w = .ok (.value (vstr (l ++ k))) w := run_str_add_t l k o t t' x y ho hx hy hb
theorem rer {v : Value} {e : Bool} (hv : ErrV v e) (ho : o.op = .binOp .neq t x (.const .nilIface) t' := by rfl) (hx : evo n f x = v := by kernel_rfl) (ht : P.underlying t = some (.interface (P.methodsAt t)) := by kernel_rfl) :
    (execOp (evo n f) o).run P w = .ok (.value (.bool e)) w := run_err_neq hv o t t' x ho hx ht
theorem rae (e : Bool) (xs ys : List Value) (ho : o.op = .binOp .eql t x y t' := by rfl) (hx : evo n f x = va xs := by kernel_rfl) (hy : evo n f y = va ys := by kernel_rfl) (hm : P.eqGuardType P.depth t = false := by kernel_rfl)
    (hb : eqB P 10000 t (va xs) (va ys) = some e := by kernel_rfl) : (execOp (evo n f) o).run P w = .ok (.value (.bool e)) w := run_agg_eql e ⟨xs⟩ ⟨ys⟩ o t t' x y ho hx hy hm hb
theorem ran (e : Bool) (xs ys : List Value) (ho : o.op = .binOp .neq t x y t' := by rfl) (hx : evo n f x = va xs := by kernel_rfl) (hy : evo n f y = va ys := by kernel_rfl) (hm : P.eqGuardType P.depth t = false := by kernel_rfl)
    (hb : eqB P 10000 t (va xs) (va ys) = some e := by kernel_rfl) : (execOp (evo n f) o).run P w = .ok (.value (.bool (!e))) w := run_agg_neq e ⟨xs⟩ ⟨ys⟩ o t t' x y ho hx hy hm hb
theorem ria {l : Str} {i : Int} {c : UInt8} (h0 : decide (0 ≤ i) = true) (hc : l[i.toNat]? = some c) (ho : o.op = .index t x y := by rfl) (hu : (P.underlying t matches some .string) = true := by kernel_rfl) (hx : evo n f x = vstr l := by kernel_rfl)
    (hy : evo n f y = .int .i64 i := by kernel_rfl) : (execOp (evo n f) o).run P w = .ok (.value (.int .u8 c.toNat)) w := run_str_at l i c o t x y ho hu hx hy h0 hc
theorem ras (e : TypeId) (k : IntKind) (xs : List Str) {i : Int} {s : Str} (h0 : decide (0 ≤ i) = true) (hc : xs[i.toNat]? = some s) (ho : o.op = .index t x y := by rfl) (hu : P.underlying t = some (.array xs.length e) := by kernel_rfl)
    (he : (P.underlying e matches some .string) = true := by kernel_rfl) (hs : (P.info? e).map (·.size) = some 1 := by kernel_rfl) (hx : evo n f x = .agg ⟨xs.map vstr⟩ := by kernel_rfl) (hy : evo n f y = .int k i := by kernel_rfl) :
    (execOp (evo n f) o).run P w = .ok (.value (vstr s)) w := run_arr_str o t e x y ho hu he rfl hs hx hy h0 hc
theorem rs2 {l : Str} {lo hi : Int} (h : (decide (0 ≤ lo) && decide (lo ≤ hi) && decide (hi ≤ l.length)) = true) (ho : o.op = .slice t x (some a) (some b) none := by rfl) (hu : (P.underlying t matches some .string) = true := by kernel_rfl)
    (hx : evo n f x = vstr l := by kernel_rfl) (ha : evo n f a = .int .i64 lo := by kernel_rfl) (hb : evo n f b = .int .i64 hi := by kernel_rfl) :
    (execOp (evo n f) o).run P w = .ok (.value (vstr ((l.drop lo.toNat).take (hi.toNat - lo.toNat)))) w := run_str_slice2 l lo hi o t x a b ho hu hx ha hb h
theorem rs1 {l : Str} {lo : Int} (h : (decide (0 ≤ lo) && decide (lo ≤ l.length)) = true) (ho : o.op = .slice t x (some a) none none := by rfl) (hu : (P.underlying t matches some .string) = true := by kernel_rfl)
    (hx : evo n f x = vstr l := by kernel_rfl) (ha : evo n f a = .int .i64 lo := by kernel_rfl) :
    (execOp (evo n f) o).run P w = .ok (.value (vstr (l.drop lo.toNat))) w := run_str_slice1 l lo o t x a ho hu hx ha h
theorem rs0 {l : Str} {hi : Int} (h : (decide (0 ≤ hi) && decide (hi ≤ l.length)) = true) (ho : o.op = .slice t x none (some b) none := by rfl) (hu : (P.underlying t matches some .string) = true := by kernel_rfl)
    (hx : evo n f x = vstr l := by kernel_rfl) (hb : evo n f b = .int .i64 hi := by kernel_rfl) :
    (execOp (evo n f) o).run P w = .ok (.value (vstr (l.take hi.toNat))) w := run_str_slice0 l hi o t x b ho hu hx hb h
end
structure Elt {α : Type} (P : Program) (m : Mem) (T : Ty α) (A : Option Addr) (xs : List α) (c : Nat) (i : Int) (b off : Nat) (cs : List Value) : Prop where
  run : ∀ {o : Oper} {t : TypeId} {X Y : Operand} {k : IntKind} {n : Nat} {f : Fr} {w : World}, o.op = .indexAddr t X Y → elemSize P t = some T.size → evo n f X = .slice A xs.length c → evo n f Y = .int k i →
      (execOp (evo n f) o).run P w = .ok (.value (.pointer (some ⟨b, off, none⟩))) w
theorem ix {α β : Type} {xs : List α} {i : Int} {F : α → Option β} {r : β} (h : chk (decide ((0 : Int) ≤ i)) ((xs[Int.toNat i]?).bind F) = some r) : ∃ x, (decide ((0 : Int) ≤ i) = true ∧ xs[Int.toNat i]? = some x) ∧ F x = some r := by
  obtain ⟨hb, h⟩ := chk_some h
  obtain ⟨x, hx, h⟩ := Option.bind_eq_some_iff.1 h
  exact ⟨x, ⟨hb, hx⟩, h⟩
theorem bs {α β : Type} {x : Option α} {F : α → Option β} {r : β} (h : x.bind F = some r) : ∃ a, x = some a ∧ F a = some r := Option.bind_eq_some_iff.1 h
theorem RS.ix {α : Type} {T : Ty α} {A : Option Addr} {xs : List α} {c : Nat} (hrs : RS T m (.slice A xs.length c) xs) {i : Int} {x : α} (h : decide (0 ≤ i) = true ∧ xs[i.toNat]? = some x) :
    ∃ b off cs, T.R m x cs ∧ At m ⟨b, off, none⟩ cs ∧ Elt P m T A xs c i b off cs := by
  obtain ⟨b, off, cs, h1, h2, h3⟩ := index_rs (P := P) hrs h.1 h.2
  exact ⟨b, off, cs, h1, h2, ⟨h3⟩⟩
theorem Elt.r {α : Type} {T : Ty α} {A : Option Addr} {xs : List α} {c : Nat} {i : Int} {b off : Nat} {cs : List Value} (h : Elt P m T A xs c i b off cs) (k : IntKind) {t : TypeId} {X Y : Operand}
    (ho : o.op = .indexAddr t X Y := by rfl) (hs : elemSize P t = some T.size := by kernel_rfl) (hX : evo n f X = .slice A xs.length c := by kernel_rfl) (hY : evo n f Y = .int k i := by kernel_rfl) :
    (execOp (evo n f) o).run P w = .ok (.value (.pointer (some ⟨b, off, none⟩))) w := h.run ho hs hX hY
structure Sub {α : Type} (P : Program) (m : Mem) (T : Ty α) (A : Option Addr) (xs : List α) (c : Nat) (lo : Int) (A' : Option Addr) (c' : Nat) : Prop where
  run : ∀ {o : Oper} {t : TypeId} {X Y : Operand} {k : IntKind} {n : Nat} {f : Fr} {w : World}, o.op = .slice t X (some Y) none none → elemSize P t = some T.size →
      evo n f X = .slice A xs.length c → evo n f Y = .int k lo → (execOp (evo n f) o).run P w = .ok (.value (.slice A' (xs.drop lo.toNat).length c')) w
theorem RS.sub {α : Type} {T : Ty α} {A : Option Addr} {xs : List α} {c : Nat} (hrs : RS T m (.slice A xs.length c) xs) {lo : Int} (hb : (decide (0 ≤ lo) && decide (lo ≤ xs.length)) = true) :
    ∃ A' c', RS T m (.slice A' (xs.drop lo.toNat).length c') (xs.drop lo.toNat) ∧ Sub P m T A xs c lo A' c' := by
  obtain ⟨A', c', h1, h2⟩ := slice_rs (P := P) hrs hb
  exact ⟨A', c', h1, ⟨h2⟩⟩
theorem Sub.r {α : Type} {T : Ty α} {A : Option Addr} {xs : List α} {c : Nat} {lo : Int} {A' : Option Addr} {c' : Nat} (h : Sub P m T A xs c lo A' c') (k : IntKind) {t : TypeId} {X Y : Operand}
    (ho : o.op = .slice t X (some Y) none none := by rfl) (hs : elemSize P t = some T.size := by kernel_rfl) (hX : evo n f X = .slice A xs.length c := by kernel_rfl) (hY : evo n f Y = .int k lo := by kernel_rfl) :
    (execOp (evo n f) o).run P w = .ok (.value (.slice A' (xs.drop lo.toNat).length c')) w := h.run ho hs hX hY
theorem al (cs : List Value) {t : TypeId} (hst : St g m L w) (k : ∀ b w1, St g m (.obj b t cs :: L) w1 → wpList P ops Q rest (actd n dl (updo f o.dst (vp b 0))) w1)
    (ho : o.op = .alloc t := by rfl) (hg : guardO ops n f o = some true := by kernel_rfl) (hz : zeroCs P t = some cs := by kernel_rfl) : wpList P ops Q (o :: rest) (actd n dl f) w := wl_alloc ho hg hz hst k
theorem bo_ (cs : List Value) {t : TypeId} {x : Operand} (hst : St g m L w) (k : ∀ b w1, St g m (.obj b t cs :: L) w1 → wpList P ops Q rest (actd n dl (updo f o.dst (vp b 0))) w1)
    (ho : o.op = .box t x := by rfl) (hg : guardO ops n f o = some true := by kernel_rfl) (hx : (evo n f x).cells.toList = cs := by kernel_rfl) : wpList P ops Q (o :: rest) (actd n dl f) w := wl_box ho hg hx hst k
theorem li (e : TypeId) (j : Nat) (cs : List Value) {t : TypeId} {parts : Array (Nat × Operand)} (hst : St g m L w) (k : ∀ b w1, St g m (.obj b e cs :: L) w1 → wpList P ops Q rest (actd n dl (updo f o.dst (.slice (some ⟨b, 0, none⟩) j j))) w1)
    (ho : o.op = .buildSlice t j parts := by rfl) (hg : guardO ops n f o = some true := by kernel_rfl)
    (hr : ∀ w : World, (execOp (evo n f) o).run P w = .ok (.value (.slice (some ⟨w.heap.size, 0, none⟩) j j)) (w.alloc (.cells ⟨cs⟩ e (0, 0))) := by intro; kernel_rfl) : wpList P ops Q (o :: rest) (actd n dl f) w := wl_lit ho hg hr hst k
theorem cal {fid : FuncId} {A : Array Value} {B : Value → World → Prop} (hc : Calls P fid A w (fun e w' => ∃ v, e = .returned v ∧ B v w')) (k : ∀ v w1, B v w1 → wpList P ops Q rest (actd n dl (updo f o.dst v)) w1)
    (hg : guardO ops n f o = some true := by kernel_rfl) (hr : semO P (execOp (evo n f) o) [] = some (.enter fid A, [], []) := by kernel_rfl) : wpList P ops Q (o :: rest) (actd n dl f) w := wl_call_ok hc hg hr k
theorem cpa {fid : FuncId} {A : Array Value} {B : List PanicEntry → World → Prop} (hc : Calls P fid A w (fun e w' => ∃ c, e = .panicked c ∧ B c w')) (k : ∀ c w1, B c w1 → Q (.panic c) (actd n dl f) w1)
    (hg : guardO ops n f o = some true := by kernel_rfl) (hr : semO P (execOp (evo n f) o) [] = some (.enter fid A, [], []) := by kernel_rfl) : wpList P ops Q (o :: rest) (actd n dl f) w := wl_call_pan hc hg hr k
theorem pa {v : Value} (k : Q (.panic [{ v, recovered := false }]) (actd n dl f) w) (hg : guardO ops n f o = some true := by kernel_rfl) (hr : (execOp (evo n f) o).run P w = .halt (.panic v) w := by kernel_rfl) :
    wpList P ops Q (o :: rest) (actd n dl f) w := wl_panic hg hr k
theorem RP.p {m' : Mem} {F : List Asr} {p : Pan} {c : List PanicEntry} {w' : World} (h : RP g m' L p c w') (hl : m.le m') (n : Nat) (is : List Nat) (hp : picks n is L = some F := by kernel_rfl) : RP g m F p c w' := h.pick hl n is hp
theorem cro {xs : List Int} {A : Option Addr} {c : Nat} {e : TypeId} {cs : List Value} (h : Rd m L w) (i : Nat) (hrc : RC (TInt .u8) m xs cs) {src dst : TypeId} {x : Operand} (hi : L[i]? = some (.row e 1 (.slice A xs.length c) xs.length cs) := by rfl)
    (ho : o.op = .convert src dst x := by rfl) (hs : (match P.underlying src with | some (.slice e') => (P.underlying e' matches some (.int .u8)) | _ => false) = true := by kernel_rfl)
    (hd : (P.underlying dst matches some .string) = true := by kernel_rfl) (hx : evo n f x = .slice A xs.length c := by kernel_rfl) :
    (execOp (evo n f) o).run P w = .ok (.value (vstr (xs.map fun q => UInt8.ofNat q.toNat))) w := run_conv_row_t h hi hrc ho hs hd hx
theorem wr {fn : Func} {R : Ending → World → Prop} (vs : List Value) (hR : R (.returned (oneOrTuple vs)) w) (h : semO P (resL n f fn.results.toList) [] = some (vs, [], []) := by kernel_rfl) : bodyPost P fn R .ret (act n f) w := wc_ret vs [] h trivial hR
theorem wrr {fn : Func} {R : Ending → World → Prop} (vs : List Value) (rs : List (Addr × Value)) (hc : AllC w rs) (hR : R (.returned (oneOrTuple vs)) w) (h : semO P (resL n f fn.results.toList) rs = some (vs, rs, []) := by kernel_rfl) : bodyPost P fn R .ret (act n f) w := wc_ret vs rs h hc hR
theorem we {fn : Func} {R : Ending → World → Prop} (vs : List Value) (hR : R (.returned (oneOrTuple vs)) w) (h : semO P (resL n f fn.results.toList) [] = some (vs, [], []) := by kernel_rfl) : bodyPost P fn R .normal (act n f) w := wc_end vs [] h trivial hR
theorem wpn {fn : Func} {R : Ending → World → Prop} {c : List PanicEntry} (hR : R (.panicked c) w) : bodyPost P fn R (.panic c) (act n f) w := ⟨rfl, hR⟩
end
def mvOf (o : Oper) : Option Nat := match o.op with
  | .move (.tmp j) => some j
  | .assign (.tmp j) => some j
  | _ => none
def segF (n : Nat) : Nat → List Oper → Fr → List Value → Fr
  | 0, _, f, _ => f
  | _ + 1, [], f, _ => f
  | c + 1, o :: l, f, us => match mvOf o with
    | some j => segF n c l (updo f o.dst (evo n f (.tmp j))) us
    | none => match us with
      | u :: us => segF n c l (updo f o.dst u) us
      | [] => f
def segV (P : Program) (ops : Array Oper) (n : Nat) : Nat → List Oper → Fr → List Value → List (Addr × Value) → Option (List Value × List (Addr × Value))
  | 0, _, _, _, _ => some ([], [])
  | _ + 1, [], _, _, _ => none
  | c + 1, o :: l, f, us, vs => match guardO ops n f o with
    | some true => match mvOf o with
      | some j => segV P ops n c l (updo f o.dst (evo n f (.tmp j))) us vs
      | none => match us with
        | u :: us => match opO P n f o vs with
          | some (v, rs, vs') => match segV P ops n c l (updo f o.dst u) us vs' with
            | some (ws, rs') => some (v :: ws, rs ++ rs')
            | none => none
          | none => none
        | [] => none
    | _ => none
def skF : Nat → List Oper → Fr → Fr
  | 0, _, f => f
  | _ + 1, [], f => f
  | c + 1, o :: l, f => skF c l (updo f o.dst undef)
def skV (ops : Array Oper) (n : Nat) : Nat → List Oper → Fr → Bool
  | 0, _, _ => true
  | _ + 1, [], _ => false
  | c + 1, o :: l, f => match guardO ops n f o with
    | some false => skV ops n c l (updo f o.dst undef)
    | _ => false
section
variable {P : Program} {ops : Array Oper} {Q : Exit → Act → World → Prop} {n : Nat} {f : Fr} {w : World} {dl : List Deferred}
theorem mvOf_run {o : Oper} {j : Nat} (h : mvOf o = some j) : (execOp (evo n f) o).run P w = .ok (.value (evo n f (.tmp j))) w := by
  unfold mvOf at h
  split at h
  · rename_i j' ho
    cases h
    simp [execOp, ho]
  · rename_i j' ho
    cases h
    simp [execOp, ho]
  · cases h
theorem segV_run : ∀ (c : Nat) (l : List Oper) (f : Fr) (us : List Value) (vs : List (Addr × Value)) (rs : List (Addr × Value)),
    segV P ops n c l f us vs = some (us, rs) → AllC w rs → wpList P ops Q (l.drop c) (actd n dl (segF n c l f us)) w → wpList P ops Q l (actd n dl f) w
  | 0, l, f, us, vs, rs, h, _, k => by
    simpa [segF] using k
  | c + 1, [], f, us, vs, rs, h, _, k => by simp [segV] at h
  | c + 1, o :: l, f, us, vs, rs, h, hc, k => by
    simp only [segV] at h
    simp only [segF] at k
    split at h
    · rename_i hg
      split at h
      · rename_i j hm
        rw [hm] at k
        exact wl_val hg (mvOf_run hm) (segV_run c l _ us vs rs h hc (by simpa using k))
      · rename_i hm
        rw [hm] at k
        split at h
        · rename_i u us'
          split at h
          · rename_i v rs1 vs1 hop
            split at h
            · rename_i ws rs2 hseg
              simp only [Option.some.injEq, Prod.mk.injEq, List.cons.injEq] at h
              obtain ⟨⟨rfl, rfl⟩, rfl⟩ := h
              have hrun : (execOp (evo n f) o).run P w = .ok (.value v) w := by
                unfold opO at hop
                split at hop
                · rename_i v' rs' vs' hsem
                  simp only [Option.some.injEq, Prod.mk.injEq] at hop
                  obtain ⟨rfl, rfl, rfl⟩ := hop
                  exact semO_run P w _ _ _ _ _ hsem hc.left
                · cases hop
              exact wl_val hg hrun (segV_run c l _ ws vs1 rs2 hseg hc.right (by simpa using k))
            · cases h
          · cases h
        · cases h
    · cases h
theorem skV_run : ∀ (c : Nat) (l : List Oper) (f : Fr), skV ops n c l f = true → wpList P ops Q (l.drop c) (actd n dl (skF c l f)) w → wpList P ops Q l (actd n dl f) w
  | 0, l, f, h, k => by simpa [skF] using k
  | c + 1, [], f, h, k => by simp [skV] at h
  | c + 1, o :: l, f, h, k => by
    simp only [skV] at h
    simp only [skF] at k
    split at h
    · rename_i hg
      exact wl_skip hg (skV_run c l _ h (by simpa using k))
    · cases h
theorem sg (c : Nat) (us : List Value) (rs : List (Addr × Value)) {l : List Oper} (hc : AllC w rs) (k : wpList P ops Q (l.drop c) (actd n dl (segF n c l f us)) w)
    (h : segV P ops n c l f us rs = some (us, rs) := by kernel_rfl) : wpList P ops Q l (actd n dl f) w := segV_run c l f us rs rs h hc k
theorem s0 (c : Nat) (us : List Value) {l : List Oper} (k : wpList P ops Q (l.drop c) (actd n dl (segF n c l f us)) w)
    (h : segV P ops n c l f us [] = some (us, []) := by kernel_rfl) : wpList P ops Q l (actd n dl f) w := segV_run c l f us [] [] h trivial k
theorem sk (c : Nat) {l : List Oper} (k : wpList P ops Q (l.drop c) (actd n dl (skF c l f)) w) (h : skV ops n c l f = true := by kernel_rfl) : wpList P ops Q l (actd n dl f) w := skV_run c l f h k
theorem au {us : List (Nat × Value)} (h : us.map (fun p => f p.1) = us.map (·.2) := by kernel_rfl) : actd n dl f = actd n dl (upds f us) := by
  refine act_upds ?_
  induction us with
  | nil => trivial
  | cons p us ih =>
    simp only [List.map_cons, List.cons.injEq] at h
    exact ⟨h.1, ih h.2⟩
def mvG (o : Oper) : Option Nat := match o.guard with | none => mvOf o | some _ => none
theorem mvG_mv {o : Oper} {j : Nat} (h : mvG o = some j) : mvOf o = some j := by
  unfold mvG at h
  split at h
  · exact h
  · cases h
def takeF (ops : Array Oper) (n : Nat) : List Nat → Fr → List Value → Fr
  | [], f, _ => f
  | i :: is, f, us => match ops[i]? with
    | none => f
    | some o => match mvG o with
      | some j => takeF ops n is (updo f o.dst (evo n f (.tmp j))) us
      | none => match us with
        | u :: us => takeF ops n is (updo f o.dst u) us
        | [] => f
def setL (is : List Nat) (listed : Array Bool) : Array Bool := is.foldl (fun l i => l.setIfInBounds i true) listed
def takeV (q : Bool) (P : Program) (ops : Array Oper) (n : Nat) : List Nat → Array Bool → Fr → List Value → List (Addr × Value) → Option (List Value × List (Addr × Value))
  | [], _, _, _, _ => some ([], [])
  | i :: is, listed, f, us, vs => match ops[i]? with
    | none => none
    | some o => match takeOk q ops listed i with
      | false => none
      | true => match mvG o with
        | some j => match guardO ops n f o with
          | some true => takeV q P ops n is (listed.setIfInBounds i true) (updo f o.dst (evo n f (.tmp j))) us vs
          | _ => none
        | none => match us with
          | [] => none
          | u :: us => match guardO ops n f o with
            | some true => match opO P n f o vs with
              | some (v, rs, vs') => match takeV q P ops n is (listed.setIfInBounds i true) (updo f o.dst u) us vs' with
                | some (ws, rs') => some (v :: ws, rs ++ rs')
                | none => none
              | none => none
            | some false => match takeV q P ops n is (listed.setIfInBounds i true) (updo f o.dst u) us vs with
              | some (ws, rs') => some (undef :: ws, rs')
              | none => none
            | none => none
theorem takeV_run {q : Bool} (hQ : PQ Q) {S : World → Prop} (hS : S w) : ∀ (is : List Nat) (listed : Array Bool) (f : Fr) (us : List Value) (vs : List (Addr × Value)) (rs : List (Addr × Value)) (fuel : Nat),
    takeV q P ops n is listed f us vs = some (us, rs) → (∀ x, S x → AllC x rs) → wpG P ops Q q fuel S (setL is listed) (actd n dl (takeF ops n is f us)) w → wpG P ops Q q (fuel + is.length) S listed (actd n dl f) w
  | [], listed, f, us, vs, rs, fuel, h, _, k => k
  | i :: is, listed, f, us, vs, rs, fuel, h, hc, k => by
    simp only [takeV] at h
    split at h
    · cases h
    · rename_i o hi
      simp only [takeF, hi] at k
      split at h
      · cases h
      · rename_i hk
        split at h
        · rename_i j hm
          rw [hm] at k
          split at h
          · rename_i hg
            exact wpG_take hQ hi hk (.inl ⟨guardO_wanted hg, fun x hx => by rw [act_eval]; exact mvOf_run (mvG_mv hm)⟩) hS (takeV_run hQ hS is _ _ us vs rs fuel h hc k)
          · cases h
        · rename_i hm
          rw [hm] at k
          split at h
          · cases h
          · rename_i u us'
            split at h
            · rename_i hg
              split at h
              · rename_i v rs1 vs1 hop
                split at h
                · rename_i ws rs2 hseg
                  simp only [Option.some.injEq, Prod.mk.injEq, List.cons.injEq] at h
                  obtain ⟨⟨rfl, rfl⟩, rfl⟩ := h
                  refine wpG_take hQ hi hk (.inl ⟨guardO_wanted hg, fun x hx => ?_⟩) hS (takeV_run hQ hS is _ _ ws vs1 rs2 fuel hseg (fun x hx => (hc x hx).right) k)
                  rw [act_eval]
                  unfold opO at hop
                  split at hop
                  · rename_i v' rs' vs' hsem
                    simp only [Option.some.injEq, Prod.mk.injEq] at hop
                    obtain ⟨rfl, rfl, rfl⟩ := hop
                    exact semO_run P x _ _ _ _ _ hsem (hc x hx).left
                  · cases hop
                · cases h
              · cases h
            · rename_i hg
              split at h
              · rename_i ws rs2 hseg
                simp only [Option.some.injEq, Prod.mk.injEq, List.cons.injEq] at h
                obtain ⟨⟨rfl, rfl⟩, rfl⟩ := h
                exact wpG_take hQ hi hk (.inr ⟨guardO_wanted hg, rfl⟩) hS (takeV_run hQ hS is _ _ ws vs rs2 fuel hseg hc k)
              · cases h
            · cases h
theorem gs {q : Bool} {S : World → Prop} (is : List Nat) (us : List Value) (rs : List (Addr × Value)) (fuel : Nat) {fuel' : Nat} {listed : Array Bool} (hQ : PQ Q) (hS : S w) (hc : ∀ x, S x → AllC x rs)
    (k : wpG P ops Q q fuel S (setL is listed) (actd n dl (takeF ops n is f us)) w) (h : takeV q P ops n is listed f us rs = some (us, rs) := by kernel_rfl) (hf : fuel' = fuel + is.length := by kernel_rfl) : wpG P ops Q q fuel' S listed (actd n dl f) w := by
  subst hf
  exact takeV_run hQ hS is listed f us rs rs fuel h hc k
theorem gv {q : Bool} (i : Nat) {o : Oper} {v : Value} {fuel : Nat} {S : World → Prop} {listed : Array Bool} (hQ : PQ Q) (hS : S w) (hi : ops[i]? = some o) (hv : ∀ x, S x → (execOp (evo n f) o).run P x = .ok (.value v) x)
    (h : wpG P ops Q q fuel S (listed.setIfInBounds i true) (actd n dl (updo f o.dst v)) w) (hk : takeOk q ops listed i = true := by kernel_rfl) (hg : guardO ops n f o = some true := by kernel_rfl) :
    wpG P ops Q q (fuel + 1) S listed (actd n dl f) w := wpG_take_val hQ hi hk hg hS hv h
theorem ge {q : Bool} {S : World → Prop} {fuel : Nat} {listed : Array Bool} (i : Nat) {o : Oper} {a : Act} (hi : ops[i]? = some o)
    (h : wpList P ops (Exit.then (fun a' w' => ∃ S' : World → Prop, (∀ x, S' x → S x) ∧ ((q = false ∧ AllListed ops (listed.setIfInBounds i true)) ∨ S' w') ∧ wpG P ops Q q fuel S' (listed.setIfInBounds i true) a' w') Q) [o] a w)
    (hr : Region.ready .any ops listed = [i] := by kernel_rfl) : wpG P ops Q q (fuel + 1) S listed a w := wpG_exec i hr hi h
theorem gd {q : Bool} {S : World → Prop} {fuel : Nat} {listed : Array Bool} {a : Act} (h : Q .normal a w) (hr : Region.ready .any ops listed = [] := by kernel_rfl) : wpG P ops Q q fuel S listed a w := wpG_done hr h
theorem gn {q : Bool} {S : World → Prop} {fuel : Nat} {listed : Array Bool} (hS : S w) (h : wpG P ops Q q fuel S listed (actd n dl f) w) {listed' : Array Bool} (e : listed' = listed := by rfl) {N : Exit → Act → World → Prop} :
    wpList P ops (Exit.then (fun a' w' => ∃ S' : World → Prop, (∀ x, S' x → S x) ∧ ((q = false ∧ AllListed ops listed') ∨ S' w') ∧ wpG P ops Q q fuel S' listed' a' w') N) [] (actd n dl f) w := by
  subst e
  exact ⟨S, fun _ h => h, .inr hS, h⟩
end
theorem dr {P : Program} {ops : Array Oper} {Q : Exit → Act → World → Prop} {w : World} (q : Bool) {id : Nat} {a : Act} (S : World → Prop) (h : wpG P ops Q q ops.size S (Array.replicate ops.size false) a { w with drawn := w.drawn + 1 }) (hm : P.follows .mixedOrders = true := by kernel_rfl) :
    (Code.region id ops true).wp P Q a w := wc_draw q S hm h
theorem pqb {P : Program} {fn : Func} {R : Ending → World → Prop} : PQ (bodyPost P fn R) := PQ.body
theorem pqt {N : Act → World → Prop} {Q : Exit → Act → World → Prop} (h : PQ Q) : PQ (Exit.then N Q) := h.then_
theorem pqk {id : Nat} {Q : Exit → Act → World → Prop} (h : PQ Q) : PQ (Exit.inBlock id Q) := h.block_
theorem TSl.opn {α : Type} {T : Ty α} {m : Mem} {x : List α} {cs : List Value} (h : (TSl T).R m x cs) : ∃ A c, cs = [vs A x c] ∧ RS T m (vs A x c) x := by
  obtain ⟨v, rfl, h⟩ := h
  obtain ⟨A, c, rfl⟩ := h.shape
  exact ⟨A, c, rfl, h⟩
def RBool (g : World) (m : Mem) (F : List Asr) (r : Bool) (v : Value) (w' : World) : Prop := ∃ m', v = vb r ∧ m.le m' ∧ St g m' F w'
def RStr (g : World) (m : Mem) (F : List Asr) (r : Str) (v : Value) (w' : World) : Prop := ∃ m', v = vstr r ∧ m.le m' ∧ St g m' F w'
def RInt (g : World) (m : Mem) (F : List Asr) (r : Int) (v : Value) (w' : World) : Prop := ∃ m', v = vi r ∧ m.le m' ∧ St g m' F w'
end Go.Proofs.YtfnaahkgegfbnaaGreatDoor
namespace Go.Proofs.YtfnaahkgegfbnaaGreatDoor
open Go.RowKit Go.ChangeShapes Go.WideShapes Go.ChangeAt Go.WideMaps Go.WideElems
def decK : Nat → Nat → Str
  | 0, _ => []
  | k + 1, u => if u < 10 then [UInt8.ofNat (48 + u)] else decK k (u / 10) ++ [UInt8.ofNat (48 + u % 10)]
theorem decK_eq : ∀ (k u : Nat), u < 10 ^ (k + 1) → decK (k + 1) u = Lib.decDigits u
  | k, u, h => by
    rw [Lib.decDigits]
    unfold decK
    by_cases h10 : u < 10
    · rw [if_pos h10, dif_pos h10]
    · rw [if_neg h10, dif_neg h10]
      cases k with
      | zero => exact absurd h (by omega)
      | succ k => rw [decK_eq k (u / 10) (by rw [Nat.div_lt_iff_lt_mul (by omega)]; rw [Nat.pow_succ] at h; exact h)]
def itoaK (n : Int) : Str := if n < 0 then 45 :: decK 20 n.natAbs else decK 20 n.toNat
theorem itoaK_eq {n : Int} (h0 : -9223372036854775808 ≤ n) (h1 : n ≤ 9223372036854775807) : itoaK n = Lib.itoa n := by
  unfold itoaK Lib.itoa
  have h2 : n.natAbs < 10 ^ (19 + 1) := by
    have : (10 : Nat) ^ (19 + 1) = 100000000000000000000 := by decide
    omega
  have h3 : n.toNat < 10 ^ (19 + 1) := by omega
  rw [decK_eq 19 _ h2, decK_eq 19 _ h3]
def mOf (W : World) : Mem := fun b => W.heap[b]?
theorem St.of (W : World) : St W (mOf W) [] W :=
  ⟨fun _ _ h => h, fun A hA => (by cases hA), List.nodup_nil, fun A hA => (by cases hA), rfl, rfl, rfl⟩
theorem At.of {W : World} {a : Addr} {v : Value} (h : W.cell? a = some v) : At (mOf W) a [v] := by
  unfold World.cell? at h
  split at h
  · rename_i c t fr hc
    split at h
    · cases h
    · rename_i hs
      refine ⟨by simpa using hs, c, t, fr, hc, fun j u hj => ?_⟩
      cases j with
      | zero => simp at hj; subst hj; simpa using h
      | succ j => simp at hj
  · cases h
theorem Below.of {W w' : World} {m' : Mem} (hl : (mOf W).le m') (h : St W m' [] w') : Below W.heap.size W w' := by
  have hb : ∀ b, b < W.heap.size → w'.heap[b]? = W.heap[b]? := fun b hb => by
    have : mOf W b = some W.heap[b] := by simp [mOf, hb]
    rw [h.mem b _ (hl b _ this)]
    simp [hb]
  refine ⟨h.os, h.tape, h.output, ?_, hb⟩
  rcases Nat.lt_or_ge w'.heap.size W.heap.size with hlt | hge
  · have := hb w'.heap.size hlt
    simp [hlt] at this
  · exact hge
theorem glob_of_head {P : Program} {W : World} {name : String} {xs : List Str} {rest : List (String × DataW Unit)} {g : Nat} {t e : TypeId}
    (hg : P.globalNamed name = some g) (hty : (P.globals[g]?).map (·.type) = some t) (ht : P.underlying t = some (.slice e)) (he : P.underlying e = some .string) (hce : P.cellsOf e = 1)
    (h : laidMet P ((name, .slice (xs.map fun l => .lit (.string l)) []) :: rest) W) : GlobAt (mOf W) g xs := by
  obtain ⟨ps, ⟨g', t', cs, fuel, p, q, hg', ht', hvar, hd, _, _⟩, _⟩ := h
  obtain rfl := Option.some.inj (hg.symm.trans hg')
  obtain rfl := Option.some.inj (hty.symm.trans ht')
  rcases open_strings ht he hce hd with ⟨_, hx⟩ | ⟨a, len, cap, ss, hcs, _, hl, _, hss, hx, hcell, _⟩
  · simp at hx
  · simp only [Prod.mk.injEq, DataW.slice.injEq] at hx
    simp only [if_true] at hss
    obtain ⟨⟨h1, h2⟩, _⟩ := hx
    have hxs : xs = (ss.take len).map fun s => s.data.toList := by
      have h3 := congrArg (fun l : List (DataW Unit) => l.map fun d => match d with | .lit (.string s) => s | _ => []) h1
      simpa [strs, Function.comp_def] using h3
    have hlen : xs.length = len := by
      rw [hxs]; simp; omega
    have hv : W.cell? ⟨g, 0, none⟩ = some (.slice (some a) xs.length cap) := by
      rw [World.var?_cell hg hvar 0, Array.eq_one_of_toList hcs, hlen]; rfl
    refine ⟨_, At.of hv, some a, cap, rfl, by omega, fun i x hi => ⟨a, [vstr x], rfl, rfl, ?_⟩⟩
    have hi' : i < xs.length := by
      rcases Nat.lt_or_ge i xs.length with h | h
      · exact h
      · rw [List.getElem?_eq_none h] at hi; cases hi
    have hc := hcell i (by omega)
    have hx : x = (ss.getD i ByteArray.empty).data.toList := by
      rw [hxs, List.getElem?_map, List.getElem?_take, if_pos (by omega)] at hi
      cases hsi : ss[i]? with
      | none => simp [hsi] at hi
      | some s => simp [hsi] at hi; simp [List.getD_eq_getElem?_getD, hsi, hi]
    have : TStr.size = 1 := rfl
    rw [this, Nat.mul_one]
    refine At.of (hc.trans ?_)
    rw [hx]
    rfl
theorem laid_drop {P : Program} {W : World} : ∀ (k : Nat) {l : List (String × DataW Unit)}, laidMet P l W → laidMet P (l.drop k) W
  | 0, l, h => h
  | k + 1, [], h => h
  | k + 1, x :: l, h => laid_drop k h.tail
theorem tab_at {W w : World} {name : String} {k : IntKind} {zs : List Int} (hw : ∀ b o, mOf W b = some o → w.heap[b]? = some o) (h : Lib.TabIs Tryz.prog W name k zs) : Lib.TabIs Tryz.prog w name k zs := by
  unfold Lib.TabIs World.var? at *
  cases hg : Tryz.prog.globalNamed name with
  | none => rw [hg] at h; cases h
  | some g =>
    rw [hg] at h
    simp only [Option.bind_some] at h ⊢
    cases hh : W.heap[g]? with
    | none => rw [hh] at h; cases h
    | some o => rw [hh] at h; rw [hw g o hh]; exact h
set_option maxRecDepth 100000 in
theorem Glob.of {W : World} (h : laidMetH Tryz.prog Rows.syntaxNamesRow.laid W) : Glob (mOf W) := by
  rw [MakeChecks.laidMetH_plain _ _ _ (by kernel_rfl)] at h
  refine ⟨?_, ?_, ?_, ?_, fun w hw => ?_, fun w hw => ?_⟩
  · exact glob_of_head (xs := namesR) (name := "sleuth/syntax.relationNames") (e := 9) (by kernel_rfl) (t := 22) (by kernel_rfl) (by kernel_rfl) (by kernel_rfl) (by kernel_rfl) (laid_drop 9 h)
  · exact glob_of_head (xs := namesA) (name := "sleuth/syntax.aggregateNames") (e := 9) (by kernel_rfl) (t := 22) (by kernel_rfl) (by kernel_rfl) (by kernel_rfl) (by kernel_rfl) (laid_drop 10 h)
  · exact glob_of_head (xs := namesT) (name := "sleuth/syntax.tight") (e := 9) (by kernel_rfl) (t := 22) (by kernel_rfl) (by kernel_rfl) (by kernel_rfl) (by kernel_rfl) (laid_drop 7 h)
  · exact glob_of_head (xs := namesC) (name := "sleuth/syntax.closing") (e := 9) (by kernel_rfl) (t := 22) (by kernel_rfl) (by kernel_rfl) (by kernel_rfl) (by kernel_rfl) (laid_drop 8 h)
  · have h1 : Lib.TabIs Tryz.prog W "internal/strconv.uint64pow10" .u64 Lib.pow10Tab := Lib.tabIs_of_head (g := 8) (t := 241) (e := 229) (n := 20) (by kernel_rfl) (by kernel_rfl) (by kernel_rfl) (by kernel_rfl) (by kernel_rfl) (by kernel_rfl) (laid_drop 2 h)
    exact tab_at hw h1
  · have h1 : Lib.TabIs Tryz.prog W "strings.asciiSpace" .u8 Lib.asciiSpaceTab := Lib.tabIs_of_head (g := 1) (t := 179) (e := 5) (n := 256) (by kernel_rfl) (by kernel_rfl) (by kernel_rfl) (by kernel_rfl) (by kernel_rfl) (by kernel_rfl) (laid_drop 6 h)
    exact tab_at hw h1
theorem trodAll_carry {H : Type} {enc : TypeId × Value → H} {P : Program} (hl : laidOutB P = true) {W W' : World} (hb : Below W.heap.size W W') :
    ∀ {ts : List TypeId} {vs : List Value} {ds : List (DataW H)} {ps : List MemPlace}, (ts.all fun t => P.readableRec t && decide (t < P.types.size)) = true → (∀ x ∈ ps, x.block < W.heap.size) →
      DataW.TrodAll enc P W 0 (fun _ => true) true ts vs ds ps → DataW.TrodAll enc P W' 0 (fun b => decide (b < W.heap.size)) true ts vs ds ps
  | [], [], [], _, _, _, h => h
  | [], [], _ :: _, _, _, _, h => h.elim
  | [], _ :: _, _, _, _, _, h => h.elim
  | _ :: _, [], _, _, _, _, h => h.elim
  | _ :: _, _ :: _, [], _, _, _, h => h.elim
  | t :: ts, v :: vs, d :: ds, ps, ht, hlt, h => by
    obtain ⟨p, q, h1, h2, rfl⟩ := h
    simp only [List.all_cons, Bool.and_eq_true, decide_eq_true_eq] at ht
    exact ⟨p, q, Below.trod hl ht.1.1 ht.1.2 h1 hb (fun x hx => hlt x (List.mem_append_left _ hx)), trodAll_carry hl hb (by simpa using ht.2) (fun x hx => hlt x (List.mem_append_right _ hx)) h2, rfl⟩
theorem law_post {H : Type} {enc : TypeId × Value → H} {f : Func} {s : ChangeSpec} {W W' : World} {args : Array Value} {ds : List (DataW H)} {before : List MemPlace}
    (hr : f.resultTypes = #[4]) (hs : s.vars = []) (hfn : s.fn H (ds ++ []) = { results := [.lit (.bool true)], args := ds }) (hp : (f.params.toList.all fun t => Tryz.prog.readableRec t && decide (t < Tryz.prog.types.size)) = true)
    (hW : DataW.Whole enc Tryz.prog f.params.toList s.vars false W args.toList ds [] before) (hb : Below W.heap.size W W') : s.post enc Tryz.prog f false true false false W args (.bool true) W' := by
  have hlt : ∀ p ∈ before, p.block < W.heap.size := fun p hp => by simpa using hW.lt p hp
  have hW' := hW
  obtain ⟨p, q, hA, hV, rfl, _, _⟩ := hW'
  rw [hs] at hV
  obtain rfl : q = [] := hV
  rw [List.append_nil] at hlt hW
  refine ⟨ds, [], p, [], p, [], hW, ?_, ?_, ?_, hb.frame _, fun h => by cases h⟩
  · rw [hfn, hr]
    exact trodAll_cons_mk (shut_bool Tryz.underlying4 _) trodAll_mk0
  · rw [hfn]
    exact trodAll_carry (by kernel_rfl) hb hp hlt hA
  · rw [hfn, hs]
    rfl
abbrev w_0 : Str := []
abbrev w_ancestor : Str := [97, 110, 99, 101, 115, 116, 111, 114]
abbrev w_and : Str := [97, 110, 100]
abbrev w_attr : Str := [97, 116, 116, 114]
abbrev w_before : Str := [98, 101, 102, 111, 114, 101]
abbrev w_by : Str := [98, 121]
abbrev w_compute : Str := [99, 111, 109, 112, 117, 116, 101]
abbrev w_desc : Str := [100, 101, 115, 99]
abbrev w_distinct : Str := [100, 105, 115, 116, 105, 110, 99, 116]
abbrev w_estimate : Str := [101, 115, 116, 105, 109, 97, 116, 101]
abbrev w_false : Str := [102, 97, 108, 115, 101]
abbrev w_find : Str := [102, 105, 110, 100]
abbrev w_greatest : Str := [103, 114, 101, 97, 116, 101, 115, 116]
abbrev w_group : Str := [103, 114, 111, 117, 112]
abbrev w_has : Str := [104, 97, 115]
abbrev w_least : Str := [108, 101, 97, 115, 116]
abbrev w_limit : Str := [108, 105, 109, 105, 116]
abbrev w_link : Str := [108, 105, 110, 107]
abbrev w_matches : Str := [109, 97, 116, 99, 104, 101, 115]
abbrev w_not : Str := [110, 111, 116]
abbrev w_or : Str := [111, 114]
abbrev w_order : Str := [111, 114, 100, 101, 114]
abbrev w_parent : Str := [112, 97, 114, 101, 110, 116]
abbrev w_prefix : Str := [112, 114, 101, 102, 105, 120]
abbrev w_quantile : Str := [113, 117, 97, 110, 116, 105, 108, 101]
abbrev w_sibling : Str := [115, 105, 98, 108, 105, 110, 103]
abbrev w_slots : Str := [115, 108, 111, 116, 115]
abbrev w_sum : Str := [115, 117, 109]
abbrev w_traces : Str := [116, 114, 97, 99, 101, 115]
abbrev w_true : Str := [116, 114, 117, 101]
abbrev w_where : Str := [119, 104, 101, 114, 101]
abbrev wt31 : Str := [102, 105, 110, 100, 32, 97, 123, 115, 101, 114, 118, 105, 99, 101, 32, 61, 32, 34, 97, 112, 105, 34, 32, 97, 110, 100, 32, 101, 114, 114, 111, 114, 32, 61, 32, 116, 114, 117, 101, 125, 44, 32, 98, 32, 119, 104, 101, 114, 101, 32, 97, 32, 97, 110, 99, 101, 115, 116, 111, 114, 32, 98, 32, 99, 111, 109, 112, 117, 116, 101, 32, 109, 97, 116, 99, 104, 101, 115]
abbrev wt46 : Str := [100, 117, 114, 97, 116, 105, 111, 110, 32, 62, 61, 32, 49, 48, 48]
abbrev wt48 : Str := [102, 105, 110, 100, 32, 97, 123, 115, 101, 114, 118, 105, 99, 101, 32, 61, 32, 34, 97, 112, 105, 34, 32, 97, 110, 100, 32, 101, 114, 114, 111, 114, 32, 61, 32, 116, 114, 117, 101, 125, 44, 32, 98, 123, 116, 114, 117, 101, 125, 32, 119, 104, 101, 114, 101, 32, 97, 32, 97, 110, 99, 101, 115, 116, 111, 114, 32, 98, 32, 99, 111, 109, 112, 117, 116, 101, 32, 109, 97, 116, 99, 104, 101, 115]
abbrev wt49 : Str := [110, 111, 116, 32, 100, 117, 114, 97, 116, 105, 111, 110, 32, 60, 32, 49, 48, 48]
abbrev wx20 : Str := [32]
abbrev wx203c20 : Str := [32, 60, 32]
abbrev wx203d20 : Str := [32, 61, 32]
abbrev wx20616e6420 : Str := [32, 97, 110, 100, 32]
abbrev wx20636f6d7075746520 : Str := [32, 99, 111, 109, 112, 117, 116, 101, 32]
abbrev wx2064657363 : Str := [32, 100, 101, 115, 99]
abbrev wx2067726f757020627920 : Str := [32, 103, 114, 111, 117, 112, 32, 98, 121, 32]
abbrev wx206c696d697420 : Str := [32, 108, 105, 109, 105, 116, 32]
abbrev wx206f7220 : Str := [32, 111, 114, 32]
abbrev wx206f7264657220627920 : Str := [32, 111, 114, 100, 101, 114, 32, 98, 121, 32]
abbrev wx2070726566697820 : Str := [32, 112, 114, 101, 102, 105, 120, 32]
abbrev wx20736c6f747320 : Str := [32, 115, 108, 111, 116, 115, 32]
abbrev wx20776865726520 : Str := [32, 119, 104, 101, 114, 101, 32]
abbrev wx213d : Str := [33, 61]
abbrev wx28 : Str := [40]
abbrev wx2828 : Str := [40, 40]
abbrev wx29 : Str := [41]
abbrev wx2c : Str := [44]
abbrev wx2c20 : Str := [44, 32]
abbrev wx2d : Str := [45]
abbrev wx2e : Str := [46]
abbrev wx2e2e : Str := [46, 46]
abbrev wx2e617474722e : Str := [46, 97, 116, 116, 114, 46]
abbrev wx2f : Str := [47]
abbrev wx3c : Str := [60]
abbrev wx3d : Str := [61]
abbrev wx3e3d : Str := [62, 61]
abbrev wx617474722e : Str := [97, 116, 116, 114, 46]
abbrev wx66696e6420 : Str := [102, 105, 110, 100, 32]
abbrev wx66696e642066696e64 : Str := [102, 105, 110, 100, 32, 102, 105, 110, 100]
abbrev wx68617320 : Str := [104, 97, 115, 32]
abbrev wx6e6f7420 : Str := [110, 111, 116, 32]
abbrev wx7b : Str := [123]
abbrev wx7d : Str := [125]
abbrev cGInterval (x : GInterval) : List Value := [vi x.From, vi x.To]
abbrev cGQuery (x : GQuery) (v0 : Value) (v1 : Value) (v2 : Value) (v3 : Value) (v4 : Value) (v5 : Value) : List Value := [v0, v1, v2, vi x.Slots.From, vi x.Slots.To, v3, v4, v5, vi x.Limit]
theorem TGQuery.opn {m : Mem} {x : GQuery} {cs : List Value} (h : TGQuery.R m x cs) : ∃ A0 c0 A1 c1 A2 c2 A3 c3 A4 c4 A5 c5, cs = cGQuery x (vs A0 x.Variables c0) (vs A1 x.Relations c1) (vs A2 x.Absences c2) (vs A3 x.Group c3) (vs A4 x.Compute c4) (vs A5 x.Order c5) ∧ RS (TGVariable) m (vs A0 x.Variables c0) x.Variables ∧ RS (TGRelation) m (vs A1 x.Relations c1) x.Relations ∧ RS (TGAbsence) m (vs A2 x.Absences c2) x.Absences ∧ RS (TGColumn) m (vs A3 x.Group c3) x.Group ∧ RS (TGAggregate) m (vs A4 x.Compute c4) x.Compute ∧ RS (TGOrderKey) m (vs A5 x.Order c5) x.Order := by
  obtain ⟨v0, v1, v2, v3, v4, v5, rfl, h0, h1, h2, h3, h4, h5⟩ := TGQuery.open_ h
  obtain ⟨A0, c0, rfl⟩ := h0.shape
  obtain ⟨A1, c1, rfl⟩ := h1.shape
  obtain ⟨A2, c2, rfl⟩ := h2.shape
  obtain ⟨A3, c3, rfl⟩ := h3.shape
  obtain ⟨A4, c4, rfl⟩ := h4.shape
  obtain ⟨A5, c5, rfl⟩ := h5.shape
  exact ⟨A0, c0, A1, c1, A2, c2, A3, c3, A4, c4, A5, c5, rfl, h0, h1, h2, h3, h4, h5⟩
abbrev cGValue (x : GValue) : List Value := [vi x.Kind, vstr x.Text, vi x.Int]
abbrev cGPred (x : GPred) (v0 : Value) : List Value := [vi x.Op, vstr x.Field, vstr x.Key, vi x.Value.Kind, vstr x.Value.Text, vi x.Value.Int, v0]
theorem TGPred.opn {m : Mem} {x : GPred} {cs : List Value} (h : TGPred.R m x cs) : ∃ A0 c0, cs = cGPred x (vs A0 x.Args c0) ∧ RS (TGPred) m (vs A0 x.Args c0) x.Args := by
  obtain ⟨v0, rfl, h0⟩ := TGPred.open_ h
  obtain ⟨A0, c0, rfl⟩ := h0.shape
  exact ⟨A0, c0, rfl, h0⟩
abbrev cLPlan (x : LPlan) (v0 : Value) (v1 : Value) (v2 : Value) (v3 : Value) (v4 : Value) (v5 : Value) : List Value := [v0, v1, v2, vu x.Slots.a0, vu x.Slots.a1, v3, v4, v5, vu x.Limit, vu x.Wrong]
theorem TLPlan.opn {m : Mem} {x : LPlan} {cs : List Value} (h : TLPlan.R m x cs) : ∃ A0 c0 A1 c1 A2 c2 A3 c3 A4 c4 A5 c5, cs = cLPlan x (vs A0 x.Where c0) (vs A1 x.Relations c1) (vs A2 x.Absences c2) (vs A3 x.Group c3) (vs A4 x.Compute c4) (vs A5 x.Order c5) ∧ RS (TSl (TInt .u8)) m (vs A0 x.Where c0) x.Where ∧ RS (TA3_5) m (vs A1 x.Relations c1) x.Relations ∧ RS (TLAbsent) m (vs A2 x.Absences c2) x.Absences ∧ RS (TA3_5) m (vs A3 x.Group c3) x.Group ∧ RS (TA4_5) m (vs A4 x.Compute c4) x.Compute ∧ RS (TA2_5) m (vs A5 x.Order c5) x.Order := by
  obtain ⟨v0, v1, v2, v3, v4, v5, rfl, h0, h1, h2, h3, h4, h5⟩ := TLPlan.open_ h
  obtain ⟨A0, c0, rfl⟩ := h0.shape
  obtain ⟨A1, c1, rfl⟩ := h1.shape
  obtain ⟨A2, c2, rfl⟩ := h2.shape
  obtain ⟨A3, c3, rfl⟩ := h3.shape
  obtain ⟨A4, c4, rfl⟩ := h4.shape
  obtain ⟨A5, c5, rfl⟩ := h5.shape
  exact ⟨A0, c0, A1, c1, A2, c2, A3, c3, A4, c4, A5, c5, rfl, h0, h1, h2, h3, h4, h5⟩
abbrev cSFailure (x : SFailure) : List Value := [vi x.at_, vi x.e_]
abbrev cLReader (x : LReader) (v0 : Value) : List Value := [v0, vi x.i_, vi x.at_, vi x.e_]
theorem TLReader.opn {m : Mem} {x : LReader} {cs : List Value} (h : TLReader.R m x cs) : ∃ A0 c0, cs = cLReader x (vs A0 x.l_ c0) ∧ RS (TLToken) m (vs A0 x.l_ c0) x.l_ := by
  obtain ⟨v0, rfl, h0⟩ := TLReader.open_ h
  obtain ⟨A0, c0, rfl⟩ := h0.shape
  exact ⟨A0, c0, rfl, h0⟩
abbrev cGVariable (x : GVariable) (v0 : Value) : List Value := [vstr x.Name, vi x.Where.Op, vstr x.Where.Field, vstr x.Where.Key, vi x.Where.Value.Kind, vstr x.Where.Value.Text, vi x.Where.Value.Int, v0]
theorem TGVariable.opn {m : Mem} {x : GVariable} {cs : List Value} (h : TGVariable.R m x cs) : ∃ A0 c0, cs = cGVariable x (vs A0 x.Where.Args c0) ∧ RS (TGPred) m (vs A0 x.Where.Args c0) x.Where.Args := by
  obtain ⟨v0, rfl, h0⟩ := TGVariable.open_ h
  obtain ⟨A0, c0, rfl⟩ := h0.shape
  exact ⟨A0, c0, rfl, h0⟩
abbrev cGColumn (x : GColumn) : List Value := [vstr x.Var, vstr x.Field, vstr x.Key]
abbrev cGRelation (x : GRelation) : List Value := [vi x.Kind, vstr x.A, vstr x.B]
abbrev cGAbsence (x : GAbsence) (v0 : Value) : List Value := [vstr x.Variable.Name, vi x.Variable.Where.Op, vstr x.Variable.Where.Field, vstr x.Variable.Where.Key, vi x.Variable.Where.Value.Kind, vstr x.Variable.Where.Value.Text, vi x.Variable.Where.Value.Int, v0, vi x.Kind, vstr x.Other, vb x.First]
theorem TGAbsence.opn {m : Mem} {x : GAbsence} {cs : List Value} (h : TGAbsence.R m x cs) : ∃ A0 c0, cs = cGAbsence x (vs A0 x.Variable.Where.Args c0) ∧ RS (TGPred) m (vs A0 x.Variable.Where.Args c0) x.Variable.Where.Args := by
  obtain ⟨v0, rfl, h0⟩ := TGAbsence.open_ h
  obtain ⟨A0, c0, rfl⟩ := h0.shape
  exact ⟨A0, c0, rfl, h0⟩
abbrev cGFraction (x : GFraction) : List Value := [vi x.Num, vi x.Den]
abbrev cGAggregate (x : GAggregate) : List Value := [vi x.Kind, vstr x.Column.Var, vstr x.Column.Field, vstr x.Column.Key, vi x.Q.Num, vi x.Q.Den]
abbrev cGOrderKey (x : GOrderKey) : List Value := [vi x.Index, vb x.Descending]
abbrev cLAbsent (x : LAbsent) (v0 : Value) : List Value := [vu x.Name, vu x.Kind, vu x.Other, v0, vb x.First]
theorem TLAbsent.opn {m : Mem} {x : LAbsent} {cs : List Value} (h : TLAbsent.R m x cs) : ∃ A0 c0, cs = cLAbsent x (vs A0 x.Where c0) ∧ RS (TInt .u8) m (vs A0 x.Where c0) x.Where := by
  obtain ⟨v0, rfl, h0⟩ := TLAbsent.open_ h
  obtain ⟨A0, c0, rfl⟩ := h0.shape
  exact ⟨A0, c0, rfl, h0⟩
abbrev cSToken (x : SToken) : List Value := [vi x.kind, vi x.at_, vstr x.s_, vi x.n_]
abbrev cSWriter (x : SWriter) (v0 : Value) : List Value := [v0, vi x.last.kind, vi x.last.at_, vstr x.last.s_, vi x.last.n_]
theorem TSWriter.opn {m : Mem} {x : SWriter} {cs : List Value} (h : TSWriter.R m x cs) : ∃ A0 c0, cs = cSWriter x (vs A0 x.out c0) ∧ RS (TInt .u8) m (vs A0 x.out c0) x.out := by
  obtain ⟨v0, rfl, h0⟩ := TSWriter.open_ h
  obtain ⟨A0, c0, rfl⟩ := h0.shape
  exact ⟨A0, c0, rfl, h0⟩
abbrev cSParser (x : SParser) : List Value := [vstr x.x_.s_, vi x.x_.at_, vi x.t_.kind, vi x.t_.at_, vstr x.t_.s_, vi x.t_.n_]
section
variable {α : Type} {T : Ty α} {m : Mem} {x : α} {xs : List α} {ds : List Value} {v0 v1 v2 v3 v4 v5 v6 v7 v8 v9 v10 v11 : Value}
theorem RC.k1 (h : T.R m x [v0]) (k : RC T m xs ds) : RC T m (x :: xs) (v0 :: ds) := RC.cons h k
theorem RC.k2 (h : T.R m x [v0, v1]) (k : RC T m xs ds) : RC T m (x :: xs) (v0 :: v1 :: ds) := RC.cons h k
theorem RC.k3 (h : T.R m x [v0, v1, v2]) (k : RC T m xs ds) : RC T m (x :: xs) (v0 :: v1 :: v2 :: ds) := RC.cons h k
theorem RC.k5 (h : T.R m x [v0, v1, v2, v3, v4]) (k : RC T m xs ds) : RC T m (x :: xs) (v0 :: v1 :: v2 :: v3 :: v4 :: ds) := RC.cons h k
theorem RC.k6 (h : T.R m x [v0, v1, v2, v3, v4, v5]) (k : RC T m xs ds) : RC T m (x :: xs) (v0 :: v1 :: v2 :: v3 :: v4 :: v5 :: ds) := RC.cons h k
theorem RC.k7 (h : T.R m x [v0, v1, v2, v3, v4, v5, v6]) (k : RC T m xs ds) : RC T m (x :: xs) (v0 :: v1 :: v2 :: v3 :: v4 :: v5 :: v6 :: ds) := RC.cons h k
theorem RC.k8 (h : T.R m x [v0, v1, v2, v3, v4, v5, v6, v7]) (k : RC T m xs ds) : RC T m (x :: xs) (v0 :: v1 :: v2 :: v3 :: v4 :: v5 :: v6 :: v7 :: ds) := RC.cons h k
theorem RC.k9 (h : T.R m x [v0, v1, v2, v3, v4, v5, v6, v7, v8]) (k : RC T m xs ds) : RC T m (x :: xs) (v0 :: v1 :: v2 :: v3 :: v4 :: v5 :: v6 :: v7 :: v8 :: ds) := RC.cons h k
theorem RC.k10 (h : T.R m x [v0, v1, v2, v3, v4, v5, v6, v7, v8, v9]) (k : RC T m xs ds) : RC T m (x :: xs) (v0 :: v1 :: v2 :: v3 :: v4 :: v5 :: v6 :: v7 :: v8 :: v9 :: ds) := RC.cons h k
theorem RC.k11 (h : T.R m x [v0, v1, v2, v3, v4, v5, v6, v7, v8, v9, v10]) (k : RC T m xs ds) : RC T m (x :: xs) (v0 :: v1 :: v2 :: v3 :: v4 :: v5 :: v6 :: v7 :: v8 :: v9 :: v10 :: ds) := RC.cons h k
end
section
variable {P : Program} {ops : Array Oper} {Q : Exit → Act → World → Prop} {n : Nat} {f : Fr} {w g : World} {m : Mem} {R : List Asr} {dl : List Deferred} {o : Oper} {rest : List Oper} {A0 A1 A2 A3 A4 A5 A6 A7 A8 A9 A10 A11 A12 A13 A14 A15 A16 A17 A18 A19 A20 : Asr}
theorem pk0 (h : St g m (A0 :: R) w) : St g m (R) w := h.pick 1 [] (by kernel_rfl)
theorem pk1 (h : St g m (A0 :: A1 :: R) w) : St g m (A1 :: A0 :: R) w := h.pick 2 [1, 0] (by kernel_rfl)
theorem pk2 (h : St g m (A0 :: A1 :: R) w) : St g m (R) w := h.pick 2 [] (by kernel_rfl)
theorem pk3 (h : St g m (A0 :: A1 :: R) w) : St g m (A0 :: R) w := h.pick 2 [0] (by kernel_rfl)
theorem pk4 (h : St g m (A0 :: A1 :: A2 :: A3 :: A4 :: A5 :: A6 :: A7 :: A8 :: A9 :: A10 :: A11 :: A12 :: A13 :: A14 :: A15 :: R) w) : St g m (A15 :: A0 :: A1 :: A2 :: A3 :: A4 :: A5 :: A6 :: A7 :: A8 :: A9 :: A10 :: A11 :: A12 :: A13 :: A14 :: R) w := h.pick 16 [15, 0, 0, 0, 0, 0, 0, 0, 0, 0, 0, 0, 0, 0, 0, 0] (by kernel_rfl)
theorem pk5 (h : St g m (A0 :: A1 :: A2 :: R) w) : St g m (A2 :: A0 :: A1 :: R) w := h.pick 3 [2, 0, 0] (by kernel_rfl)
theorem pk6 (h : St g m (A0 :: A1 :: A2 :: R) w) : St g m (A0 :: R) w := h.pick 3 [0] (by kernel_rfl)
theorem pk7 (h : St g m (A0 :: A1 :: A2 :: A3 :: A4 :: R) w) : St g m (A0 :: R) w := h.pick 5 [0] (by kernel_rfl)
theorem pk8 (h : St g m (A0 :: A1 :: A2 :: A3 :: A4 :: R) w) : St g m (A4 :: A0 :: A1 :: A2 :: A3 :: R) w := h.pick 5 [4, 0, 0, 0, 0] (by kernel_rfl)
theorem pk9 (h : St g m (A0 :: A1 :: A2 :: A3 :: R) w) : St g m (A0 :: R) w := h.pick 4 [0] (by kernel_rfl)
theorem pk10 (h : St g m (A0 :: A1 :: A2 :: R) w) : St g m (A1 :: A2 :: A0 :: R) w := h.pick 3 [1, 1, 0] (by kernel_rfl)
theorem pk11 (h : St g m (A0 :: A1 :: A2 :: A3 :: A4 :: A5 :: A6 :: A7 :: A8 :: R) w) : St g m (A8 :: A0 :: A1 :: A2 :: A3 :: A4 :: A5 :: A6 :: A7 :: R) w := h.pick 9 [8, 0, 0, 0, 0, 0, 0, 0, 0] (by kernel_rfl)
theorem pk12 (h : St g m (A0 :: A1 :: A2 :: A3 :: A4 :: A5 :: A6 :: A7 :: A8 :: R) w) : St g m (A1 :: A2 :: A3 :: A4 :: A5 :: A6 :: A7 :: A8 :: A0 :: R) w := h.pick 9 [1, 1, 1, 1, 1, 1, 1, 1, 0] (by kernel_rfl)
theorem pk13 (h : St g m (A0 :: A1 :: A2 :: A3 :: A4 :: A5 :: A6 :: A7 :: A8 :: A9 :: A10 :: A11 :: A12 :: A13 :: A14 :: A15 :: R) w) : St g m (A0 :: A7 :: A6 :: A5 :: A4 :: A3 :: A2 :: A1 :: A15 :: A8 :: A9 :: A10 :: A11 :: A12 :: A13 :: A14 :: R) w := h.pick 16 [0, 6, 5, 4, 3, 2, 1, 0, 7, 0, 0, 0, 0, 0, 0, 0] (by kernel_rfl)
theorem pk14 (h : St g m (A0 :: A1 :: A2 :: A3 :: A4 :: A5 :: A6 :: A7 :: A8 :: R) w) : St g m (A0 :: A8 :: A1 :: A2 :: A3 :: A4 :: A5 :: A6 :: A7 :: R) w := h.pick 9 [0, 7, 0, 0, 0, 0, 0, 0, 0] (by kernel_rfl)
theorem pk15 (h : St g m (A0 :: A1 :: A2 :: R) w) : St g m (A1 :: R) w := h.pick 3 [1] (by kernel_rfl)
theorem pk16 (h : St g m (A0 :: A1 :: A2 :: R) w) : St g m (A2 :: A0 :: R) w := h.pick 3 [2, 0] (by kernel_rfl)
theorem pk17 (h : St g m (A0 :: A1 :: A2 :: A3 :: R) w) : St g m (A3 :: A0 :: A1 :: A2 :: R) w := h.pick 4 [3, 0, 0, 0] (by kernel_rfl)
theorem pk18 (h : St g m (A0 :: A1 :: A2 :: A3 :: A4 :: A5 :: A6 :: A7 :: A8 :: A9 :: R) w) : St g m (A0 :: R) w := h.pick 10 [0] (by kernel_rfl)
theorem pk19 (h : St g m (A0 :: A1 :: A2 :: A3 :: A4 :: A5 :: A6 :: A7 :: A8 :: R) w) : St g m (A0 :: A2 :: A3 :: A4 :: A5 :: A6 :: A7 :: A8 :: A1 :: R) w := h.pick 9 [0, 1, 1, 1, 1, 1, 1, 1, 0] (by kernel_rfl)
theorem pk20 (h : St g m (A0 :: A1 :: A2 :: A3 :: A4 :: A5 :: A6 :: A7 :: R) w) : St g m (A0 :: A1 :: R) w := h.pick 8 [0, 0] (by kernel_rfl)
theorem pk24 (h : St g m (A0 :: A1 :: A2 :: A3 :: A4 :: A5 :: A6 :: R) w) : St g m (A6 :: A5 :: A4 :: A3 :: A2 :: A1 :: A0 :: R) w := h.pick 7 [6, 5, 4, 3, 2, 1, 0] (by kernel_rfl)
theorem pk25 (h : St g m (A0 :: A1 :: A2 :: A3 :: R) w) : St g m (A2 :: A3 :: A0 :: A1 :: R) w := h.pick 4 [2, 2, 0, 0] (by kernel_rfl)
theorem pk26 (h : St g m (A0 :: A1 :: A2 :: A3 :: R) w) : St g m (A0 :: A1 :: R) w := h.pick 4 [0, 0] (by kernel_rfl)
theorem pk27 (h : St g m (A0 :: A1 :: A2 :: R) w) : St g m (R) w := h.pick 3 [] (by kernel_rfl)
theorem pk28 (h : St g m (A0 :: A1 :: A2 :: R) w) : St g m (A0 :: A1 :: R) w := h.pick 3 [0, 0] (by kernel_rfl)
theorem pk29 (h : St g m (A0 :: A1 :: A2 :: A3 :: A4 :: R) w) : St g m (A3 :: A4 :: A0 :: A1 :: A2 :: R) w := h.pick 5 [3, 3, 0, 0, 0] (by kernel_rfl)
theorem pk30 (h : St g m (A0 :: A1 :: A2 :: A3 :: A4 :: R) w) : St g m (A4 :: A0 :: A1 :: R) w := h.pick 5 [4, 0, 0] (by kernel_rfl)
theorem pk31 (h : St g m (A0 :: A1 :: A2 :: A3 :: R) w) : St g m (A2 :: A3 :: A1 :: A0 :: R) w := h.pick 4 [2, 2, 1, 0] (by kernel_rfl)
theorem pk32 (h : St g m (A0 :: A1 :: A2 :: A3 :: A4 :: R) w) : St g m (A3 :: A4 :: A0 :: A1 :: R) w := h.pick 5 [3, 3, 0, 0] (by kernel_rfl)
theorem pk33 (h : St g m (A0 :: A1 :: A2 :: A3 :: R) w) : St g m (A0 :: A1 :: A3 :: A2 :: R) w := h.pick 4 [0, 0, 1, 0] (by kernel_rfl)
theorem pk34 (h : St g m (A0 :: A1 :: A2 :: A3 :: A4 :: A5 :: R) w) : St g m (R) w := h.pick 6 [] (by kernel_rfl)
theorem pk35 (h : St g m (A0 :: A1 :: A2 :: A3 :: R) w) : St g m (A0 :: A2 :: A3 :: A1 :: R) w := h.pick 4 [0, 1, 1, 0] (by kernel_rfl)
theorem pk36 (h : St g m (A0 :: A1 :: A2 :: A3 :: A4 :: A5 :: A6 :: R) w) : St g m (R) w := h.pick 7 [] (by kernel_rfl)
theorem pk42 (h : St g m (A0 :: A1 :: A2 :: A3 :: R) w) : St g m (R) w := h.pick 4 [] (by kernel_rfl)
theorem ap1 {α : Type} (T : Ty α) {t e : TypeId} {s x : Operand} {A : Option Addr} {c b : Nat} {cs ds : List Value} {xs ys : List α} {t2 : TypeId} (bytes j i2 : Nat) (hst : St g m (A0 :: .row e T.size (.slice A xs.length c) xs.length cs :: R) w) (hrc : RC T m xs cs) (hrd : RC T m ys ds) (hb : decide ((xs ++ ys).length * bytes ≤ 140737488355328) = true) (kk : ∀ AA c1 cs1 w1, RC T m (xs ++ ys) cs1 → St g m (A0 :: .row e T.size (.slice AA (xs ++ ys).length c1) (xs ++ ys).length cs1 :: R) w1 → wpList P ops Q rest (actd n dl (updo f o.dst (.slice AA (xs ++ ys).length c1))) w1) (hi2 : (A0 :: .row e T.size (.slice A xs.length c) xs.length cs :: R)[i2]? = some (.obj b t2 ds) := by rfl) (ho : o.op = .call { callee := .builtin .append, args := #[s, x], argTypes := #[t, t] } := by rfl) (hg : guardO ops n f o = some true := by kernel_rfl) (hfit : rowFits P t e T.size bytes = true := by kernel_rfl) (hs : evo n f s = .slice A xs.length c := by kernel_rfl) (hx : evo n f x = .slice (some ⟨b, 0, none⟩) j j := by kernel_rfl) (hj : j = ys.length := by rfl) (hby : Nat.blt 0 bytes = true := by rfl) : wpList P ops Q (o :: rest) (actd n dl f) w := wl_append_t T ho hg hfit hs hx hst (i := 1) rfl hi2 hrc hrd hj hb hby kk
theorem ap3 {α : Type} (T : Ty α) {t e : TypeId} {s x : Operand} {A : Option Addr} {c b : Nat} {cs ds : List Value} {xs ys : List α} {t2 : TypeId} (bytes j i2 : Nat) (hst : St g m (A0 :: A1 :: A2 :: .row e T.size (.slice A xs.length c) xs.length cs :: R) w) (hrc : RC T m xs cs) (hrd : RC T m ys ds) (hb : decide ((xs ++ ys).length * bytes ≤ 140737488355328) = true) (kk : ∀ AA c1 cs1 w1, RC T m (xs ++ ys) cs1 → St g m (A0 :: A1 :: A2 :: .row e T.size (.slice AA (xs ++ ys).length c1) (xs ++ ys).length cs1 :: R) w1 → wpList P ops Q rest (actd n dl (updo f o.dst (.slice AA (xs ++ ys).length c1))) w1) (hi2 : (A0 :: A1 :: A2 :: .row e T.size (.slice A xs.length c) xs.length cs :: R)[i2]? = some (.obj b t2 ds) := by rfl) (ho : o.op = .call { callee := .builtin .append, args := #[s, x], argTypes := #[t, t] } := by rfl) (hg : guardO ops n f o = some true := by kernel_rfl) (hfit : rowFits P t e T.size bytes = true := by kernel_rfl) (hs : evo n f s = .slice A xs.length c := by kernel_rfl) (hx : evo n f x = .slice (some ⟨b, 0, none⟩) j j := by kernel_rfl) (hj : j = ys.length := by rfl) (hby : Nat.blt 0 bytes = true := by rfl) : wpList P ops Q (o :: rest) (actd n dl f) w := wl_append_t T ho hg hfit hs hx hst (i := 3) rfl hi2 hrc hrd hj hb hby kk
theorem ap4 {α : Type} (T : Ty α) {t e : TypeId} {s x : Operand} {A : Option Addr} {c b : Nat} {cs ds : List Value} {xs ys : List α} {t2 : TypeId} (bytes j i2 : Nat) (hst : St g m (A0 :: A1 :: A2 :: A3 :: .row e T.size (.slice A xs.length c) xs.length cs :: R) w) (hrc : RC T m xs cs) (hrd : RC T m ys ds) (hb : decide ((xs ++ ys).length * bytes ≤ 140737488355328) = true) (kk : ∀ AA c1 cs1 w1, RC T m (xs ++ ys) cs1 → St g m (A0 :: A1 :: A2 :: A3 :: .row e T.size (.slice AA (xs ++ ys).length c1) (xs ++ ys).length cs1 :: R) w1 → wpList P ops Q rest (actd n dl (updo f o.dst (.slice AA (xs ++ ys).length c1))) w1) (hi2 : (A0 :: A1 :: A2 :: A3 :: .row e T.size (.slice A xs.length c) xs.length cs :: R)[i2]? = some (.obj b t2 ds) := by rfl) (ho : o.op = .call { callee := .builtin .append, args := #[s, x], argTypes := #[t, t] } := by rfl) (hg : guardO ops n f o = some true := by kernel_rfl) (hfit : rowFits P t e T.size bytes = true := by kernel_rfl) (hs : evo n f s = .slice A xs.length c := by kernel_rfl) (hx : evo n f x = .slice (some ⟨b, 0, none⟩) j j := by kernel_rfl) (hj : j = ys.length := by rfl) (hby : Nat.blt 0 bytes = true := by rfl) : wpList P ops Q (o :: rest) (actd n dl f) w := wl_append_t T ho hg hfit hs hx hst (i := 4) rfl hi2 hrc hrd hj hb hby kk
theorem ap5 {α : Type} (T : Ty α) {t e : TypeId} {s x : Operand} {A : Option Addr} {c b : Nat} {cs ds : List Value} {xs ys : List α} {t2 : TypeId} (bytes j i2 : Nat) (hst : St g m (A0 :: A1 :: A2 :: A3 :: A4 :: .row e T.size (.slice A xs.length c) xs.length cs :: R) w) (hrc : RC T m xs cs) (hrd : RC T m ys ds) (hb : decide ((xs ++ ys).length * bytes ≤ 140737488355328) = true) (kk : ∀ AA c1 cs1 w1, RC T m (xs ++ ys) cs1 → St g m (A0 :: A1 :: A2 :: A3 :: A4 :: .row e T.size (.slice AA (xs ++ ys).length c1) (xs ++ ys).length cs1 :: R) w1 → wpList P ops Q rest (actd n dl (updo f o.dst (.slice AA (xs ++ ys).length c1))) w1) (hi2 : (A0 :: A1 :: A2 :: A3 :: A4 :: .row e T.size (.slice A xs.length c) xs.length cs :: R)[i2]? = some (.obj b t2 ds) := by rfl) (ho : o.op = .call { callee := .builtin .append, args := #[s, x], argTypes := #[t, t] } := by rfl) (hg : guardO ops n f o = some true := by kernel_rfl) (hfit : rowFits P t e T.size bytes = true := by kernel_rfl) (hs : evo n f s = .slice A xs.length c := by kernel_rfl) (hx : evo n f x = .slice (some ⟨b, 0, none⟩) j j := by kernel_rfl) (hj : j = ys.length := by rfl) (hby : Nat.blt 0 bytes = true := by rfl) : wpList P ops Q (o :: rest) (actd n dl f) w := wl_append_t T ho hg hfit hs hx hst (i := 5) rfl hi2 hrc hrd hj hb hby kk
theorem ap6 {α : Type} (T : Ty α) {t e : TypeId} {s x : Operand} {A : Option Addr} {c b : Nat} {cs ds : List Value} {xs ys : List α} {t2 : TypeId} (bytes j i2 : Nat) (hst : St g m (A0 :: A1 :: A2 :: A3 :: A4 :: A5 :: .row e T.size (.slice A xs.length c) xs.length cs :: R) w) (hrc : RC T m xs cs) (hrd : RC T m ys ds) (hb : decide ((xs ++ ys).length * bytes ≤ 140737488355328) = true) (kk : ∀ AA c1 cs1 w1, RC T m (xs ++ ys) cs1 → St g m (A0 :: A1 :: A2 :: A3 :: A4 :: A5 :: .row e T.size (.slice AA (xs ++ ys).length c1) (xs ++ ys).length cs1 :: R) w1 → wpList P ops Q rest (actd n dl (updo f o.dst (.slice AA (xs ++ ys).length c1))) w1) (hi2 : (A0 :: A1 :: A2 :: A3 :: A4 :: A5 :: .row e T.size (.slice A xs.length c) xs.length cs :: R)[i2]? = some (.obj b t2 ds) := by rfl) (ho : o.op = .call { callee := .builtin .append, args := #[s, x], argTypes := #[t, t] } := by rfl) (hg : guardO ops n f o = some true := by kernel_rfl) (hfit : rowFits P t e T.size bytes = true := by kernel_rfl) (hs : evo n f s = .slice A xs.length c := by kernel_rfl) (hx : evo n f x = .slice (some ⟨b, 0, none⟩) j j := by kernel_rfl) (hj : j = ys.length := by rfl) (hby : Nat.blt 0 bytes = true := by rfl) : wpList P ops Q (o :: rest) (actd n dl f) w := wl_append_t T ho hg hfit hs hx hst (i := 6) rfl hi2 hrc hrd hj hb hby kk
theorem ap7 {α : Type} (T : Ty α) {t e : TypeId} {s x : Operand} {A : Option Addr} {c b : Nat} {cs ds : List Value} {xs ys : List α} {t2 : TypeId} (bytes j i2 : Nat) (hst : St g m (A0 :: A1 :: A2 :: A3 :: A4 :: A5 :: A6 :: .row e T.size (.slice A xs.length c) xs.length cs :: R) w) (hrc : RC T m xs cs) (hrd : RC T m ys ds) (hb : decide ((xs ++ ys).length * bytes ≤ 140737488355328) = true) (kk : ∀ AA c1 cs1 w1, RC T m (xs ++ ys) cs1 → St g m (A0 :: A1 :: A2 :: A3 :: A4 :: A5 :: A6 :: .row e T.size (.slice AA (xs ++ ys).length c1) (xs ++ ys).length cs1 :: R) w1 → wpList P ops Q rest (actd n dl (updo f o.dst (.slice AA (xs ++ ys).length c1))) w1) (hi2 : (A0 :: A1 :: A2 :: A3 :: A4 :: A5 :: A6 :: .row e T.size (.slice A xs.length c) xs.length cs :: R)[i2]? = some (.obj b t2 ds) := by rfl) (ho : o.op = .call { callee := .builtin .append, args := #[s, x], argTypes := #[t, t] } := by rfl) (hg : guardO ops n f o = some true := by kernel_rfl) (hfit : rowFits P t e T.size bytes = true := by kernel_rfl) (hs : evo n f s = .slice A xs.length c := by kernel_rfl) (hx : evo n f x = .slice (some ⟨b, 0, none⟩) j j := by kernel_rfl) (hj : j = ys.length := by rfl) (hby : Nat.blt 0 bytes = true := by rfl) : wpList P ops Q (o :: rest) (actd n dl f) w := wl_append_t T ho hg hfit hs hx hst (i := 7) rfl hi2 hrc hrd hj hb hby kk
theorem ap10 {α : Type} (T : Ty α) {t e : TypeId} {s x : Operand} {A : Option Addr} {c b : Nat} {cs ds : List Value} {xs ys : List α} {t2 : TypeId} (bytes j i2 : Nat) (hst : St g m (A0 :: A1 :: A2 :: A3 :: A4 :: A5 :: A6 :: A7 :: A8 :: A9 :: .row e T.size (.slice A xs.length c) xs.length cs :: R) w) (hrc : RC T m xs cs) (hrd : RC T m ys ds) (hb : decide ((xs ++ ys).length * bytes ≤ 140737488355328) = true) (kk : ∀ AA c1 cs1 w1, RC T m (xs ++ ys) cs1 → St g m (A0 :: A1 :: A2 :: A3 :: A4 :: A5 :: A6 :: A7 :: A8 :: A9 :: .row e T.size (.slice AA (xs ++ ys).length c1) (xs ++ ys).length cs1 :: R) w1 → wpList P ops Q rest (actd n dl (updo f o.dst (.slice AA (xs ++ ys).length c1))) w1) (hi2 : (A0 :: A1 :: A2 :: A3 :: A4 :: A5 :: A6 :: A7 :: A8 :: A9 :: .row e T.size (.slice A xs.length c) xs.length cs :: R)[i2]? = some (.obj b t2 ds) := by rfl) (ho : o.op = .call { callee := .builtin .append, args := #[s, x], argTypes := #[t, t] } := by rfl) (hg : guardO ops n f o = some true := by kernel_rfl) (hfit : rowFits P t e T.size bytes = true := by kernel_rfl) (hs : evo n f s = .slice A xs.length c := by kernel_rfl) (hx : evo n f x = .slice (some ⟨b, 0, none⟩) j j := by kernel_rfl) (hj : j = ys.length := by rfl) (hby : Nat.blt 0 bytes = true := by rfl) : wpList P ops Q (o :: rest) (actd n dl f) w := wl_append_t T ho hg hfit hs hx hst (i := 10) rfl hi2 hrc hrd hj hb hby kk
theorem as2 {t u e : TypeId} {s x : Operand} {A : Option Addr} {c : Nat} {xs : List Int} {l : Str} {cs : List Value} (hst : St g m (A0 :: A1 :: .row e 1 (.slice A xs.length c) xs.length cs :: R) w) (hrc : RC (TInt .u8) m xs cs) (hb : decide ((xs ++ l.map (fun b => (b.toNat : Int))).length ≤ 140737488355328) = true) (kk : ∀ AA c1 cs1 w1, RC (TInt .u8) m (xs ++ l.map (fun b => (b.toNat : Int))) cs1 → St g m (A0 :: A1 :: .row e 1 (.slice AA (xs ++ l.map (fun b => (b.toNat : Int))).length c1) (xs ++ l.map (fun b => (b.toNat : Int))).length cs1 :: R) w1 → wpList P ops Q rest (actd n dl (updo f o.dst (.slice AA (xs ++ l.map (fun b => (b.toNat : Int))).length c1))) w1) (ho : o.op = .call { callee := .builtin .append, args := #[s, x], argTypes := #[t, u] } := by rfl) (hg : guardO ops n f o = some true := by kernel_rfl) (hfit : rowFits P t e 1 1 = true := by kernel_rfl) (hu : (P.underlying u matches some .string) = true := by kernel_rfl) (hz : zeroByte P e = true := by kernel_rfl) (hs : evo n f s = .slice A xs.length c := by kernel_rfl) (hx : evo n f x = vstr l := by kernel_rfl) : wpList P ops Q (o :: rest) (actd n dl f) w := wl_append_str_t ho hg hfit hu hz hs hx hst (i := 2) rfl hrc hb kk
theorem so0 {t t0 : TypeId} {a x : Operand} {b : Nat} {cs : List Value} (off : Nat) (us : List Value) (hst : St g m (.obj b t0 cs :: R) w) (k : ∀ w1, St g m (.obj b t0 (setAt cs off us) :: R) w1 → wpList P ops Q rest (actd n dl (updo f o.dst undef)) w1) (ho : o.op = .store t a x := by rfl) (hg : guardO ops n f o = some true := by kernel_rfl) (ha : evo n f a = .pointer (some ⟨b, off, none⟩) := by kernel_rfl) (hx : (evo n f x).cells.toList = us := by kernel_rfl) (hz : sizeIs P t us.length = true := by kernel_rfl) (h1 : us.all (·.oneCell') = true := by kernel_rfl) (hl : Nat.ble (off + us.length) cs.length = true := by kernel_rfl) : wpList P ops Q (o :: rest) (actd n dl f) w := wl_store ho hg ha hx hz h1 hst (i := 0) rfl (Nat.le_of_ble_eq_true hl) rfl k
theorem so1 {t t0 : TypeId} {a x : Operand} {b : Nat} {cs : List Value} (off : Nat) (us : List Value) (hst : St g m (A0 :: .obj b t0 cs :: R) w) (k : ∀ w1, St g m (A0 :: .obj b t0 (setAt cs off us) :: R) w1 → wpList P ops Q rest (actd n dl (updo f o.dst undef)) w1) (ho : o.op = .store t a x := by rfl) (hg : guardO ops n f o = some true := by kernel_rfl) (ha : evo n f a = .pointer (some ⟨b, off, none⟩) := by kernel_rfl) (hx : (evo n f x).cells.toList = us := by kernel_rfl) (hz : sizeIs P t us.length = true := by kernel_rfl) (h1 : us.all (·.oneCell') = true := by kernel_rfl) (hl : Nat.ble (off + us.length) cs.length = true := by kernel_rfl) : wpList P ops Q (o :: rest) (actd n dl f) w := wl_store ho hg ha hx hz h1 hst (i := 1) rfl (Nat.le_of_ble_eq_true hl) rfl k
theorem so2 {t t0 : TypeId} {a x : Operand} {b : Nat} {cs : List Value} (off : Nat) (us : List Value) (hst : St g m (A0 :: A1 :: .obj b t0 cs :: R) w) (k : ∀ w1, St g m (A0 :: A1 :: .obj b t0 (setAt cs off us) :: R) w1 → wpList P ops Q rest (actd n dl (updo f o.dst undef)) w1) (ho : o.op = .store t a x := by rfl) (hg : guardO ops n f o = some true := by kernel_rfl) (ha : evo n f a = .pointer (some ⟨b, off, none⟩) := by kernel_rfl) (hx : (evo n f x).cells.toList = us := by kernel_rfl) (hz : sizeIs P t us.length = true := by kernel_rfl) (h1 : us.all (·.oneCell') = true := by kernel_rfl) (hl : Nat.ble (off + us.length) cs.length = true := by kernel_rfl) : wpList P ops Q (o :: rest) (actd n dl f) w := wl_store ho hg ha hx hz h1 hst (i := 2) rfl (Nat.le_of_ble_eq_true hl) rfl k
theorem so3 {t t0 : TypeId} {a x : Operand} {b : Nat} {cs : List Value} (off : Nat) (us : List Value) (hst : St g m (A0 :: A1 :: A2 :: .obj b t0 cs :: R) w) (k : ∀ w1, St g m (A0 :: A1 :: A2 :: .obj b t0 (setAt cs off us) :: R) w1 → wpList P ops Q rest (actd n dl (updo f o.dst undef)) w1) (ho : o.op = .store t a x := by rfl) (hg : guardO ops n f o = some true := by kernel_rfl) (ha : evo n f a = .pointer (some ⟨b, off, none⟩) := by kernel_rfl) (hx : (evo n f x).cells.toList = us := by kernel_rfl) (hz : sizeIs P t us.length = true := by kernel_rfl) (h1 : us.all (·.oneCell') = true := by kernel_rfl) (hl : Nat.ble (off + us.length) cs.length = true := by kernel_rfl) : wpList P ops Q (o :: rest) (actd n dl f) w := wl_store ho hg ha hx hz h1 hst (i := 3) rfl (Nat.le_of_ble_eq_true hl) rfl k
theorem so4 {t t0 : TypeId} {a x : Operand} {b : Nat} {cs : List Value} (off : Nat) (us : List Value) (hst : St g m (A0 :: A1 :: A2 :: A3 :: .obj b t0 cs :: R) w) (k : ∀ w1, St g m (A0 :: A1 :: A2 :: A3 :: .obj b t0 (setAt cs off us) :: R) w1 → wpList P ops Q rest (actd n dl (updo f o.dst undef)) w1) (ho : o.op = .store t a x := by rfl) (hg : guardO ops n f o = some true := by kernel_rfl) (ha : evo n f a = .pointer (some ⟨b, off, none⟩) := by kernel_rfl) (hx : (evo n f x).cells.toList = us := by kernel_rfl) (hz : sizeIs P t us.length = true := by kernel_rfl) (h1 : us.all (·.oneCell') = true := by kernel_rfl) (hl : Nat.ble (off + us.length) cs.length = true := by kernel_rfl) : wpList P ops Q (o :: rest) (actd n dl f) w := wl_store ho hg ha hx hz h1 hst (i := 4) rfl (Nat.le_of_ble_eq_true hl) rfl k
theorem so6 {t t0 : TypeId} {a x : Operand} {b : Nat} {cs : List Value} (off : Nat) (us : List Value) (hst : St g m (A0 :: A1 :: A2 :: A3 :: A4 :: A5 :: .obj b t0 cs :: R) w) (k : ∀ w1, St g m (A0 :: A1 :: A2 :: A3 :: A4 :: A5 :: .obj b t0 (setAt cs off us) :: R) w1 → wpList P ops Q rest (actd n dl (updo f o.dst undef)) w1) (ho : o.op = .store t a x := by rfl) (hg : guardO ops n f o = some true := by kernel_rfl) (ha : evo n f a = .pointer (some ⟨b, off, none⟩) := by kernel_rfl) (hx : (evo n f x).cells.toList = us := by kernel_rfl) (hz : sizeIs P t us.length = true := by kernel_rfl) (h1 : us.all (·.oneCell') = true := by kernel_rfl) (hl : Nat.ble (off + us.length) cs.length = true := by kernel_rfl) : wpList P ops Q (o :: rest) (actd n dl f) w := wl_store ho hg ha hx hz h1 hst (i := 6) rfl (Nat.le_of_ble_eq_true hl) rfl k
theorem so15 {t t0 : TypeId} {a x : Operand} {b : Nat} {cs : List Value} (off : Nat) (us : List Value) (hst : St g m (A0 :: A1 :: A2 :: A3 :: A4 :: A5 :: A6 :: A7 :: A8 :: A9 :: A10 :: A11 :: A12 :: A13 :: A14 :: .obj b t0 cs :: R) w) (k : ∀ w1, St g m (A0 :: A1 :: A2 :: A3 :: A4 :: A5 :: A6 :: A7 :: A8 :: A9 :: A10 :: A11 :: A12 :: A13 :: A14 :: .obj b t0 (setAt cs off us) :: R) w1 → wpList P ops Q rest (actd n dl (updo f o.dst undef)) w1) (ho : o.op = .store t a x := by rfl) (hg : guardO ops n f o = some true := by kernel_rfl) (ha : evo n f a = .pointer (some ⟨b, off, none⟩) := by kernel_rfl) (hx : (evo n f x).cells.toList = us := by kernel_rfl) (hz : sizeIs P t us.length = true := by kernel_rfl) (h1 : us.all (·.oneCell') = true := by kernel_rfl) (hl : Nat.ble (off + us.length) cs.length = true := by kernel_rfl) : wpList P ops Q (o :: rest) (actd n dl f) w := wl_store ho hg ha hx hz h1 hst (i := 15) rfl (Nat.le_of_ble_eq_true hl) rfl k
end
end Go.Proofs.YtfnaahkgegfbnaaGreatDoor
