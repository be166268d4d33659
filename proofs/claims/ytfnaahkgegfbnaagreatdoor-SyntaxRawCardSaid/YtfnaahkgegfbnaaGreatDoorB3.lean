/- Operations that write, allocate, append, call; ends of code. -/
import Derived.Test.YtfnaahkgegfbnaaGreatDoorB2
import Derived.Lib.AppendStr
import Derived.Lib.Strings
set_option linter.unusedVariables false
set_option linter.unusedSimpArgs false
namespace Go.Proofs.YtfnaahkgegfbnaaGreatDoor

/-! ### Allocation -/
def zeroCs (P : Program) (t : TypeId) : Option (List Value) := match P.info? t with | some i => i.zero.map (·.cells.toList) | none => none

section
variable {P : Program} {ops : Array Oper} {Q : Exit → Act → World → Prop} {n : Nat} {f : Fr} {w g : World} {m : Mem} {L : List Asr} {dl : List Deferred}

theorem wl_alloc {o : Oper} {rest : List Oper} {t : TypeId} {cs : List Value} (ho : o.op = .alloc t) (hg : guardO ops n f o = some true) (hz : zeroCs P t = some cs) (hst : St g m L w)
    (k : ∀ b w1, St g m (.obj b t cs :: L) w1 → wpList P ops Q rest (actd n dl (updo f o.dst (.pointer (some ⟨b, 0, none⟩)))) w1) : wpList P ops Q (o :: rest) (actd n dl f) w := by
  have hr : (execOp (evo n f) o).run P w = .ok (.value (.pointer (some ⟨w.heap.size, 0, none⟩))) (w.alloc (.cells ⟨cs⟩ t (0, 0))) := by
    unfold zeroCs at hz
    cases hi : P.info? t with
    | none => simp [hi] at hz
    | some i =>
      simp only [hi] at hz
      cases hzz : i.zero with
      | none => simp [hzz] at hz
      | some z =>
        simp only [hzz, Option.map_some, Option.some.injEq] at hz
        subst hz
        simp [execOp, ho, Instr.alloc, zeroValue, typeInfo, hi, hzz, newVar, newRow]
  exact wl_val hg hr (k _ _ (hst.alloc t cs))

theorem wl_box {o : Oper} {rest : List Oper} {t : TypeId} {x : Operand} {cs : List Value} (ho : o.op = .box t x) (hg : guardO ops n f o = some true) (hx : (evo n f x).cells.toList = cs) (hst : St g m L w)
    (k : ∀ b w1, St g m (.obj b t cs :: L) w1 → wpList P ops Q rest (actd n dl (updo f o.dst (.pointer (some ⟨b, 0, none⟩)))) w1) : wpList P ops Q (o :: rest) (actd n dl f) w := by
  subst hx
  have hr : (execOp (evo n f) o).run P w = .ok (.value (.pointer (some ⟨w.heap.size, 0, none⟩))) (w.alloc (.cells ⟨(evo n f x).cells.toList⟩ t (0, 0))) := by
    simp [execOp, ho, Instr.box, newVar, newRow]
  exact wl_val hg hr (k _ _ (hst.alloc t _))

/-! ### A store -/
def setAt : List Value → Nat → List Value → List Value
  | cs, _, [] => cs
  | cs, off, v :: vs => setAt (cs.set off v) (off + 1) vs

theorem run_stores {i b : Nat} {t : TypeId} (off : Nat) : ∀ (vs : List Value) (j : Nat) (cs : List Value) (L : List Asr) (w : World), St g m L w → L[i]? = some (.obj b t cs) → off + j + vs.length ≤ cs.length →
    vs.all (·.oneCell') = true → ∃ w', (storeCells ⟨b, off, none⟩ vs j).run P w = .ok () w' ∧ St g m (L.set i (.obj b t (setAt cs (off + j) vs))) w'
  | [], j, cs, L, w, hst, hi, _, _ => by
    refine ⟨w, by simp [storeCells], ?_⟩
    have : L.set i (.obj b t (setAt cs (off + j) [])) = L := by
      simp only [setAt]
      apply List.ext_getElem?
      intro k
      rw [List.getElem?_set]
      split
      · rename_i e; subst e
        split
        · exact hi.symm
        · rename_i h; simp at h; rw [List.getElem?_eq_none h]
      · rfl
    rw [this]; exact hst
  | v :: vs, j, cs, L, w, hst, hi, hl, h1 => by
    simp only [List.all_cons, Bool.and_eq_true] at h1
    simp only [List.length_cons] at hl
    have hlt : off + j < cs.length := by omega
    have hc := hst.rd.cell hi (off := off + j) (v := cs[off + j]) (by simp [hlt])
    have hf := hst.rd.free hi (off + j)
    have hst' := hst.set hi (off + j) v
    have hil : i < L.length := by
      rcases Nat.lt_or_ge i L.length with h' | h'
      · exact h'
      · rw [List.getElem?_eq_none h'] at hi; cases hi
    obtain ⟨w', hr, hs⟩ := run_stores (i := i) (b := b) (t := t) off vs (j + 1) (cs.set (off + j) v) (L.set i (.obj b t (cs.set (off + j) v))) (w.setCell ⟨b, off + j, none⟩ v) hst' (by rw [List.getElem?_set]; simp [hil]) (by rw [List.length_set]; omega) h1.2
    refine ⟨w', ?_, ?_⟩
    · have ha : (⟨b, off, none⟩ : Addr).add j = ⟨b, off + j, none⟩ := addr_add _ _ rfl
      simp only [storeCells, ha, Sem.run_bind, run_store P w _ v _ h1.1, hc, hf, if_false, Bool.false_eq_true, Result.andThen_ok]
      exact hr
    · rw [List.set_set] at hs
      simpa [setAt, Nat.add_assoc] using hs

def sizeIs (P : Program) (t : TypeId) (k : Nat) : Bool := match P.info? t with | some i => Nat.beq i.size k | none => false

theorem wl_store {o : Oper} {rest : List Oper} {t t0 : TypeId} {a x : Operand} {b off i : Nat} {cs vs : List Value} {L' : List Asr} (ho : o.op = .store t a x) (hg : guardO ops n f o = some true)
    (ha : evo n f a = .pointer (some ⟨b, off, none⟩)) (hx : (evo n f x).cells.toList = vs) (hz : sizeIs P t vs.length = true) (h1 : vs.all (·.oneCell') = true)
    (hst : St g m L w) (hi : L[i]? = some (.obj b t0 cs)) (hl : off + vs.length ≤ cs.length) (hL : L.set i (.obj b t0 (setAt cs off vs)) = L')
    (k : ∀ w1, St g m L' w1 → wpList P ops Q rest (actd n dl (updo f o.dst undef)) w1) : wpList P ops Q (o :: rest) (actd n dl f) w := by
  obtain ⟨w', hr, hs⟩ := run_stores (P := P) off vs 0 cs L w hst hi (by simpa using hl) h1
  subst hL
  refine wl_unit hg ?_ (k w' (by simpa using hs))
  unfold sizeIs at hz
  cases hin : P.info? t with
  | none => simp [hin] at hz
  | some inf =>
    simp only [hin] at hz
    have hz := Nat.eq_of_beq_eq_true hz
    have hsz : (evo n f x).cells.size = inf.size := by rw [hz, ← hx, Array.length_toList]
    simp [execOp, ho, ha, Instr.storeAt, Instr.sureAddr, storeVar, sizeOf, typeInfo, hin, hsz, hx, hr]

/-! ### A call -/
theorem wl_call {o : Oper} {rest : List Oper} {fid : FuncId} {A : Array Value} {R : Ending → World → Prop} (hg : guardO ops n f o = some true)
    (hr : semO P (execOp (evo n f) o) [] = some (.enter fid A, [], [])) (hc : Calls P fid A w R)
    (k : ∀ v w1, R (.returned v) w1 → wpList P ops Q rest (actd n dl (updo f o.dst v)) w1) (kp : ∀ c w1, R (.panicked c) w1 → Q (.panic c) (actd n dl f) w1) (ko : ∀ w1, ¬ R .outgrown w1) :
    wpList P ops Q (o :: rest) (actd n dl f) w := by
  refine wl_run hg ?_
  unfold Oper.wp
  rw [act_eval, semO_run P w _ _ _ _ _ hr trivial, Oper.upon_enter]
  refine hc.mono fun e w1 he => ?_
  cases e with
  | returned v => show wpList P ops Q rest ((actd n dl f).put o.dst v) w1; rw [act_put]; exact k v w1 he
  | panicked c => exact kp c w1 he
  | outgrown => exact absurd he (ko w1)

/-- a panic of the text's own -/
theorem wl_panic {o : Oper} {rest : List Oper} {v : Value} (hg : guardO ops n f o = some true) (hr : (execOp (evo n f) o).run P w = .halt (.panic v) w)
    (k : Q (.panic [{ v, recovered := false }]) (actd n dl f) w) : wpList P ops Q (o :: rest) (actd n dl f) w := by
  refine wl_run hg ?_
  unfold Oper.wp
  rw [act_eval, hr, Oper.upon_panic]
  exact k

/-! ### Rows: a slice literal, append -/
theorem wl_lit {o : Oper} {rest : List Oper} {t e : TypeId} {len : Nat} {parts : Array (Nat × Operand)} {cs : List Value} (ho : o.op = .buildSlice t len parts) (hg : guardO ops n f o = some true)
    (hr : ∀ w : World, (execOp (evo n f) o).run P w = .ok (.value (.slice (some ⟨w.heap.size, 0, none⟩) len len)) (w.alloc (.cells ⟨cs⟩ e (0, 0)))) (hst : St g m L w)
    (k : ∀ b w1, St g m (.obj b e cs :: L) w1 → wpList P ops Q rest (actd n dl (updo f o.dst (.slice (some ⟨b, 0, none⟩) len len))) w1) : wpList P ops Q (o :: rest) (actd n dl f) w :=
  wl_val hg (hr w) (k _ _ (hst.alloc e cs))

/-- a new block taken for a row -/
theorem St.obj_row {b : Nat} {e : TypeId} {cs : List Value} {size k : Nat} (h : St g m (.obj b e cs :: L) w) (hl : cs.length = k * size) (hk : k ≤ 9223372036854775807) : St g m (.row e size (.slice (some ⟨b, 0, none⟩) k k) k cs :: L) w := by
  refine ⟨h.mem, fun A hA => ?_, h.nod, fun A hA b' hb => ?_, h.os, h.tape, h.output⟩
  · rcases List.mem_cons.1 hA with rfl | hA
    · have ho : w.heap[b]? = some (.cells ⟨cs⟩ e (0, 0)) := h.own _ List.mem_cons_self
      refine ⟨hl, .inr ⟨b, k, ⟨cs⟩, rfl, Nat.zero_le _, ho, Nat.le_refl _, by simpa [maxLen] using hk, by simpa using hl, ?_⟩⟩
      rw [← hl]; simp
    · exact h.own A (List.mem_cons_of_mem _ hA)
  · rcases List.mem_cons.1 hA with rfl | hA
    · exact h.sep _ List.mem_cons_self b' hb
    · exact h.sep A (List.mem_cons_of_mem _ hA) b' hb
/-- a new block sealed: a slice -/
theorem St.obj_slice {α : Type} {T : Ty α} {b : Nat} {e : TypeId} {cs : List Value} {xs : List α} {k : Nat} (h : St g m (.obj b e cs :: L) w) (hr : RC T m xs cs) (hk : k = xs.length) :
    ∃ m', m.le m' ∧ St g m' L w ∧ RS T m' (.slice (some ⟨b, 0, none⟩) k k) xs := by
  subst hk
  obtain ⟨hle, hst⟩ := h.seal_obj
  refine ⟨_, hle, hst, _, _, rfl, Nat.le_refl _, fun i x hx => ⟨_, _, rfl, T.mono hle (hr.2 i x hx), ?_⟩⟩
  rw [addr_add _ _ rfl]
  refine ⟨rfl, ⟨cs⟩, e, (0, 0), Mem.put_same _ _ _, fun j u hj => ?_⟩
  rw [List.getElem?_take] at hj
  split at hj
  · rw [List.getElem?_drop] at hj; simpa using hj
  · cases hj
/-- nil, taken for a row -/
theorem St.nil_row (e : TypeId) (size : Nat) (h : St g m L w) : St g m (.row e size (.slice none 0 0) 0 [] :: L) w := by
  refine ⟨h.mem, fun A hA => ?_, ?_, fun A hA b' hb => ?_, h.os, h.tape, h.output⟩
  · rcases List.mem_cons.1 hA with rfl | hA
    · exact World.ownsRow_nil w 0 e size
    · exact h.own A hA
  · simpa [List.filterMap_cons, Asr.blk, Value.ownBlock] using h.nod
  · rcases List.mem_cons.1 hA with rfl | hA
    · simp [Asr.blk, Value.ownBlock] at hb
    · exact h.sep A hA b' hb

theorem St.upd_front {A A' : Asr} {w' : World} (h : St g m (A :: L) w) (hA : A'.holds w') (hg : w.grownBy w' A.blk) (hb : A'.blk = A.blk ∨ ∀ k, A'.blk = some k → w.heap.size ≤ k) : St g m (A' :: L) w' := by
  have hn := h.nod
  have keep : ∀ B ∈ L, ∀ b, B.blk = some b → w'.heap[b]? = w.heap[b]? := by
    intro B hB b hb'
    refine hg.block b (Asr.blk_lt (h.own B (List.mem_cons_of_mem _ hB)) hb') fun e => ?_
    rw [List.filterMap_cons, ← e] at hn
    exact (List.nodup_cons.1 hn).1 (List.mem_filterMap.2 ⟨B, hB, hb'⟩)
  refine ⟨fun b o hm => ?_, fun B hB => ?_, ?_, fun B hB b hb' => ?_, hg.os.trans h.os, hg.tape.trans h.tape, hg.output.trans h.output⟩
  · rw [hg.block b (h.heap_lt hm) (fun e => by rw [h.sep A List.mem_cons_self b e.symm] at hm; cases hm)]
    exact h.mem b o hm
  · rcases List.mem_cons.1 hB with rfl | hB
    · exact hA
    · exact Asr.holds_of_heap (h.own B (List.mem_cons_of_mem _ hB)) (keep B hB)
  · rcases hb with hb | hb
    · rw [List.filterMap_cons, hb, ← List.filterMap_cons]; exact hn
    · have hnL : (L.filterMap Asr.blk).Nodup := (h.sub (List.sublist_cons_self _ _)).nod
      rw [List.filterMap_cons]
      cases hk : A'.blk with
      | none => exact hnL
      | some c =>
        refine List.nodup_cons.2 ⟨fun hm => ?_, hnL⟩
        obtain ⟨B, hB, hBc⟩ := List.mem_filterMap.1 hm
        have := Asr.blk_lt (h.own B (List.mem_cons_of_mem _ hB)) hBc
        have := hb c hk
        omega
  · rcases List.mem_cons.1 hB with rfl | hB
    · rcases hb with hb | hb
      · exact h.sep A List.mem_cons_self b (hb ▸ hb')
      · cases hm : m b with
        | none => rfl
        | some o => exact absurd (h.heap_lt hm) (Nat.not_lt.2 (hb b hb'))
    · exact h.sep B (List.mem_cons_of_mem _ hB) b hb'

theorem erase_set {L : List Asr} {A : Asr} : ∀ {i : Nat}, (L.set i A).eraseIdx i = L.eraseIdx i := by
  induction L with
  | nil => intro i; simp
  | cons B L ih => intro i; cases i with
    | zero => simp
    | succ i => simp [ih]
theorem St.upd_at {A A' : Asr} {w' : World} {i : Nat} (h : St g m L w) (hi : L[i]? = some A) (hA : A'.holds w') (hg : w.grownBy w' A.blk) (hb : A'.blk = A.blk ∨ ∀ k, A'.blk = some k → w.heap.size ≤ k) : St g m (L.set i A') w' := by
  have hil : i < L.length := by
    rcases Nat.lt_or_ge i L.length with h' | h'
    · exact h'
    · rw [List.getElem?_eq_none h'] at hi; cases hi
  have := (h.front i hi).upd_front hA hg hb
  refine this.perm ?_
  have hp := (perm_front (L := L.set i A') (A := A') (i := i) (by rw [List.getElem?_set]; simp [hil])).symm
  rwa [erase_set] at hp

theorem slice_of_own {e : TypeId} {s k : Nat} {v : Value} {cs : List Value} (h : w.ownsRow 0 e s v k cs) : ∃ A c, v = .slice A k c := by
  rcases h.2 with ⟨rfl, rfl⟩ | ⟨g, cap, cur, rfl, _⟩
  · exact ⟨none, 0, rfl⟩
  · exact ⟨_, cap, rfl⟩

/-- the facts that an append asks of the element's type -/
def rowFits (P : Program) (t e : TypeId) (size bytes : Nat) : Bool :=
  match P.underlying t, P.info? e with
  | some (.slice e'), some i => Nat.beq e e' && Nat.beq i.size size && Nat.beq i.bytes bytes && (match i.zero with | some z => Nat.beq z.cells.size size | none => false) && Nat.blt 0 size
  | _, _ => false
theorem rowFits_spec {t e : TypeId} {size bytes : Nat} (h : rowFits P t e size bytes = true) :
    P.underlying t = some (.slice e) ∧ ∃ i z, P.info? e = some i ∧ i.zero = some z ∧ i.size = size ∧ i.bytes = bytes ∧ z.cells.size = size ∧ 0 < size := by
  unfold rowFits at h
  split at h
  · rename_i e' i hu hi
    simp only [Bool.and_eq_true] at h
    obtain ⟨⟨⟨⟨h1, h2⟩, h3⟩, h4⟩, h5⟩ := h
    have h1 := Nat.eq_of_beq_eq_true h1
    subst h1
    split at h4
    · rename_i z hz
      exact ⟨hu, i, z, hi, hz, Nat.eq_of_beq_eq_true h2, Nat.eq_of_beq_eq_true h3, Nat.eq_of_beq_eq_true h4, by rw [Nat.blt_eq] at h5; exact h5⟩
    · cases h4
  · cases h

theorem wl_append {o : Oper} {rest : List Oper} {t e : TypeId} {s x : Operand} {A B : Option Addr} {k j c c2 i size bytes : Nat} {cs ds : List Value}
    (ho : o.op = .call { callee := .builtin .append, args := #[s, x], argTypes := #[t, t] }) (hg : guardO ops n f o = some true) (hfit : rowFits P t e size bytes = true)
    (hs : evo n f s = .slice A k c) (hx : evo n f x = .slice B j c2) (hst : St g m L w) (hi : L[i]? = some (.row e size (.slice A k c) k cs))
    (hB : ∃ ad, B = some ad ∧ ∀ q u, ds[q]? = some u → w.cell? (ad.add q) = some u) (hl : ds.length = j * size) (h1 : ∀ u ∈ ds, u.oneCell' = true)
    (hb : (k + j) * bytes ≤ 140737488355328) (hb2 : k + j ≤ 9223372036854775807)
    (kk : ∀ A1 c1 w1, St g m (L.set i (.row e size (.slice A1 (k + j) c1) (k + j) (cs ++ ds))) w1 → wpList P ops Q rest (actd n dl (updo f o.dst (.slice A1 (k + j) c1))) w1) :
    wpList P ops Q (o :: rest) (actd n dl f) w := by
  obtain ⟨ad, rfl, hc⟩ := hB
  obtain ⟨hu, inf, z, hin, hz, h2, h3, h4, h5⟩ := rowFits_spec hfit
  have hown : w.ownsRow 0 e size (.slice A k c) k cs := hst.own _ (List.mem_of_getElem? hi)
  obtain ⟨v1, w1, hr, ho1, hgr, _, hblk⟩ := run_append_own_at (P := P) w 0 t o.type e inf z size bytes hu hin hz h2 h3 h4 h5 _ k cs hown ad j c2 ds hl hc h1 (by simpa [maxLen] using hb2) hb (Nat.zero_le _)
  obtain ⟨A1, c1, rfl⟩ := slice_of_own ho1
  have hst1 : St g m (L.set i (.row e size (.slice A1 (k + j) c1) (k + j) (cs ++ ds))) w1 :=
    hst.upd_at hi ho1 hgr (hblk.imp (fun h => h) fun h q hq => by
      have h' : Asr.blk (.row e size (.slice A1 (k + j) c1) (k + j) (cs ++ ds)) = some w.heap.size := h
      rw [h'] at hq; cases hq; exact Nat.le_refl _)
  refine wl_val hg (w' := w1) ?_ (kk A1 c1 w1 hst1)
  unfold execOp
  simp only [ho, resolve, invoke, builtin, Sem.run_bind, Sem.run_pure, Result.andThen_ok, List.map_toArray, List.map_cons, List.map_nil, hs, hx, hr]
end
end Go.Proofs.YtfnaahkgegfbnaaGreatDoor
