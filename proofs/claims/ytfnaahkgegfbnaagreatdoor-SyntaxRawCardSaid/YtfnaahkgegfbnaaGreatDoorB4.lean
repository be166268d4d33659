/- Ends of code, control, loops; strings; bytes. -/
import Derived.Test.YtfnaahkgegfbnaaGreatDoorB3
import Derived.Defers
set_option linter.unusedVariables false
set_option linter.unusedSimpArgs false
namespace Go.Proofs.YtfnaahkgegfbnaaGreatDoor

/-! ### The results, read off the frame -/
def resV (n : Nat) (f : Fr) : ResultVar → Sem Value
  | .tmp t => pure (evo n f (.tmp t))
  | .cell a t => do loadVar t (← asAddr (evo n f (.tmp a)))
def resL (n : Nat) (f : Fr) : List ResultVar → Sem (List Value)
  | [] => .pure []
  | r :: rs => (resV n f r).bind fun v => (resL n f rs).bind fun vs => .pure (v :: vs)
def oneOrTuple : List Value → Value
  | [v] => v
  | vs => .tuple ⟨vs⟩

theorem run_resL {P : Program} {w : World} {n : Nat} {f : Fr} (dl : List Deferred) (rs : List ResultVar) :
    (resL n f rs).run P w = (rs.mapM (fun | .tmp t => pure ((actd n dl f).tmps.getD t undef) | .cell a t => do loadVar t (← asAddr ((actd n dl f).tmps.getD a undef)) : ResultVar → Sem Value)).run P w := by
  induction rs generalizing w with
  | nil => rfl
  | cons r rs ih =>
    rw [List.mapM_cons]
    simp only [resL, Sem.run_bind', Sem.run_bind]
    have e : (resV n f r) = (match r with | .tmp t => pure ((actd n dl f).tmps.getD t undef) | .cell a t => do loadVar t (← asAddr ((actd n dl f).tmps.getD a undef)) : Sem Value) := by
      cases r <;> simp only [resV, act_tmps_getD]
    rw [e]
    congr 1
    funext v w'
    rw [ih]
    rfl

theorem run_results {P : Program} {w : World} {n : Nat} {f : Fr} {dl : List Deferred} {fn : Func} {vs : List Value} (h : (resL n f fn.results.toList).run P w = .ok vs w) :
    (results fn (actd n dl f).tmps).run P w = .ok (oneOrTuple vs) w := by
  rw [run_resL dl] at h
  unfold results
  have e : ∀ (F : ResultVar → Sem Value), (fn.results.mapM F).run P w = ((fn.results.toList.mapM F).run P w).andThen fun a w' => .ok a.toArray w' := by
    intro F
    rw [Array.mapM_eq_mapM_toList, Sem.run_map]
  simp only [Sem.run_bind, e]
  refine (congrArg (fun r => Result.andThen (Result.andThen r _) _) h).trans ?_
  simp only [Result.andThen_ok, Sem.run_pure]
  congr 1
  rcases vs with _ | ⟨v, _ | ⟨u, vs⟩⟩
  · rfl
  · rfl
  · simp [oneOrTuple]

section
variable {P : Program} {ops : Array Oper} {Q : Exit → Act → World → Prop} {n : Nat} {f : Fr} {w g : World} {m : Mem} {L : List Asr} {dl : List Deferred}

/-- the end of a call: its results -/
theorem wc_results {fn : Func} {R : Ending → World → Prop} (vs : List Value) (rs : List (Addr × Value)) (h : semO P (resL n f fn.results.toList) rs = some (vs, rs, [])) (hc : AllC w rs)
    (hR : R (.returned (oneOrTuple vs)) w) : (act n f).defers = [] ∧ ∃ v, (results fn (act n f).tmps).run P w = .ok v w ∧ R (.returned v) w :=
  ⟨rfl, _, run_results (semO_run P w _ _ _ _ _ h hc), hR⟩
theorem wc_ret {fn : Func} {R : Ending → World → Prop} (vs : List Value) (rs : List (Addr × Value)) (h : semO P (resL n f fn.results.toList) rs = some (vs, rs, [])) (hc : AllC w rs)
    (hR : R (.returned (oneOrTuple vs)) w) : bodyPost P fn R .ret (act n f) w := wc_results vs rs h hc hR
theorem wc_end {fn : Func} {R : Ending → World → Prop} (vs : List Value) (rs : List (Addr × Value)) (h : semO P (resL n f fn.results.toList) rs = some (vs, rs, [])) (hc : AllC w rs)
    (hR : R (.returned (oneOrTuple vs)) w) : bodyPost P fn R .normal (act n f) w := wc_results vs rs h hc hR
theorem wc_pan {fn : Func} {R : Ending → World → Prop} {c : List PanicEntry} (hR : R (.panicked c) w) : bodyPost P fn R (.panic c) (act n f) w := ⟨rfl, hR⟩

/-- the entry of a call -/
theorem calls_enter {fid : FuncId} {fn : Func} {c : Code} {args : List Value} {R : Ending → World → Prop} (hf : P.funcs[fid]? = some fn) (hb : fn.body = some c) (hl : Nat.ble args.length fn.ntmps = true)
    (h : c.wp P (bodyPost P fn R) (act fn.ntmps (frOf args)) w) : Calls P fid ⟨args⟩ w R := by
  refine calls_of_wp hf hb ?_
  rw [act_enter _ _ (by simpa using Nat.le_of_ble_eq_true hl)]
  exact h

/-! ### Control -/
theorem wc_cond {c : Operand} {x y : Code} {t : Bool} (hc : evo n f c = .bool t) (ht : t = true → x.wp P Q (actd n dl f) w) (hf : t = false → y.wp P Q (actd n dl f) w) : (Code.cond c x y).wp P Q (actd n dl f) w :=
  wp_cond_split (by rw [act_eval]; exact hc) ht hf
theorem wc_true {c : Operand} {x y : Code} (hc : evo n f c = .bool true) (h : x.wp P Q (actd n dl f) w) : (Code.cond c x y).wp P Q (actd n dl f) w := wp_cond_true (by rw [act_eval]; exact hc) h
theorem wc_false {c : Operand} {x y : Code} (hc : evo n f c = .bool false) (h : y.wp P Q (actd n dl f) w) : (Code.cond c x y).wp P Q (actd n dl f) w := wp_cond_false (by rw [act_eval]; exact hc) h
theorem then_n {N : Act → World → Prop} {a : Act} (h : N a w) : Exit.then N Q .normal a w := h
theorem block_n {id : Nat} {a : Act} (h : Q .normal a w) : Exit.inBlock id Q .normal a w := h
theorem then_x {N : Act → World → Prop} {a : Act} {id : Nat} (h : Q (.exit id) a w) : Exit.then N Q (.exit id) a w := h
theorem block_x {a : Act} {id : Nat} (h : Q .normal a w) : Exit.inBlock id Q (.exit id) a w := by simp only [Exit.inBlock, if_true]; exact h
theorem block_o {a : Act} {id id' : Nat} (hne : Nat.beq id id' = false) (h : Q (.exit id) a w) : Exit.inBlock id' Q (.exit id) a w := by
  have : ¬ id = id' := fun e => by subst e; rw [Nat.beq_refl] at hne; cases hne
  simp only [Exit.inBlock, this, if_false]; exact h
theorem then_r {N : Act → World → Prop} {a : Act} (h : Q .ret a w) : Exit.then N Q .ret a w := h
theorem block_r {a : Act} {id : Nat} (h : Q .ret a w) : Exit.inBlock id Q .ret a w := h
theorem then_p {N : Act → World → Prop} {a : Act} {c : List PanicEntry} (h : Q (.panic c) a w) : Exit.then N Q (.panic c) a w := h
theorem block_p {a : Act} {id : Nat} {c : List PanicEntry} (h : Q (.panic c) a w) : Exit.inBlock id Q (.panic c) a w := h

/-- from a loop's head on -/
def LoopFrom (P : Program) (c : Code) (Q : Exit → Act → World → Prop) (a : Act) (w : World) : Prop :=
  ∀ b k cs, ∃ e a' w', Q e a' w' ∧ Arrives P (lone (b.at a (.code c :: .inLoop c :: k)) cs w) b k cs e a' w'
theorem wp_loop_from {c : Code} {a : Act} (h : LoopFrom P c Q a w) : (Code.loop c).wp P Q a w := by
  intro b k cs
  obtain ⟨e, a', w', hq, harr⟩ := h b k cs
  exact ⟨e, a', w', hq, .of_steps (.one step_loop) harr⟩
theorem loop_round {c : Code} {a : Act} (h : c.wp P (Exit.then (LoopFrom P c Q) Q) a w) : LoopFrom P c Q a w := by
  intro b k cs
  obtain ⟨e, a₁, w₁, hq, harr⟩ := h b (.inLoop c :: k) cs
  cases e with
  | normal =>
    obtain ⟨e₂, a₂, w₂, hq₂, harr₂⟩ := hq b k cs
    exact ⟨e₂, a₂, w₂, hq₂, .of_steps (Steps.trans harr (.one step_inLoop)) harr₂⟩
  | exit id => exact ⟨_, a₁, w₁, hq, .pass (x := .inLoop c) rfl (fun _ _ => .inl (by simp)) harr⟩
  | goto l => exact ⟨_, a₁, w₁, hq, .pass (x := .inLoop c) rfl (fun _ _ => .inl (by simp)) harr⟩
  | ret => exact ⟨_, a₁, w₁, hq, .pass (x := .inLoop c) rfl (fun _ _ => .inl (by simp)) harr⟩
  | panic ch => exact ⟨_, a₁, w₁, hq, .pass (x := .inLoop c) rfl (fun _ _ => .inl (by simp)) harr⟩
  | outgrown => exact ⟨_, a₁, w₁, hq, .pass (x := .inLoop c) rfl (fun _ _ => .inl (by simp)) harr⟩

/-! ### Strings: lists of bytes -/
abbrev Str := List UInt8
def vstr (l : Str) : Value := .string ⟨l.toArray⟩

theorem ba_toList (l : Str) : (⟨l.toArray⟩ : ByteArray).toList = l := by rw [Lib.toList_data]
theorem ba_size (l : Str) : (⟨l.toArray⟩ : ByteArray).size = l.length := rfl

theorem run_str_eql (l k : Str) (o : Oper) (t t' : TypeId) (x y : Operand) (ho : o.op = .binOp .eql t x y t') (hx : evo n f x = vstr l) (hy : evo n f y = vstr k) :
    (execOp (evo n f) o).run P w = .ok (.value (.bool (l == k))) w := by
  simp [execOp, ho, hx, hy, vstr, eqGuard, binOp, Op.stringOp, ba_toList]
theorem run_str_neq (l k : Str) (o : Oper) (t t' : TypeId) (x y : Operand) (ho : o.op = .binOp .neq t x y t') (hx : evo n f x = vstr l) (hy : evo n f y = vstr k) :
    (execOp (evo n f) o).run P w = .ok (.value (.bool (!(l == k)))) w := by
  simp [execOp, ho, hx, hy, vstr, eqGuard, binOp, Op.stringOp, ba_toList]
theorem run_str_add (l k : Str) (o : Oper) (t t' : TypeId) (x y : Operand) (ho : o.op = .binOp .add t x y t') (hx : evo n f x = vstr l) (hy : evo n f y = vstr k) (hb : l.length + k.length ≤ 9223372036854775807) :
    (execOp (evo n f) o).run P w = .ok (.value (vstr (l ++ k))) w := by
  have hb' : ¬ ((9223372036854775807 : Int) < (l.length : Int) + (k.length : Int)) := by omega
  have e : (⟨l.toArray⟩ : ByteArray) ++ ⟨k.toArray⟩ = ⟨(l ++ k).toArray⟩ := by
    apply ByteArray.ext
    simp
  simp [execOp, ho, hx, hy, vstr, eqGuard, binOp, Op.stringOp, ba_size, IntKind.max, IntKind.signed, IntKind.bits, hb', e]
theorem run_str_index (l : Str) (i : Int) (k : IntKind) (c : UInt8) (o : Oper) (t : TypeId) (x y : Operand) (ho : o.op = .index t x y) (hu : (P.underlying t matches some .string) = true) (hx : evo n f x = vstr l) (hy : evo n f y = .int k i)
    (h0 : 0 ≤ i) (hc : l[i.toNat]? = some c) : (execOp (evo n f) o).run P w = .ok (.value (.int .u8 c.toNat)) w := by
  have hu' : P.underlying t = some .string := by
    split at hu
    · assumption
    · cases hu
  have e : (⟨l.toArray⟩ : ByteArray)[i.toNat]? = some c := by
    have hlt : i.toNat < l.length := by
      rcases Nat.lt_or_ge i.toNat l.length with h | h
      · exact h
      · rw [List.getElem?_eq_none h] at hc; cases hc
    have hs : i.toNat < (⟨l.toArray⟩ : ByteArray).size := hlt
    rw [getElem?_pos (⟨l.toArray⟩ : ByteArray) i.toNat hs]
    rw [List.getElem?_eq_getElem hlt] at hc
    simp only [Option.some.injEq] at hc ⊢
    rw [← hc]; rfl
  simp [execOp, ho, hx, hy, vstr, Instr.index, asIntOf, run_underlying hu', h0, e]
theorem run_str_slice (l : Str) (lo hi : Nat) (a b : Option Operand) (o : Oper) (t : TypeId) (x : Operand) (ho : o.op = .slice t x a b none) (hu : (P.underlying t matches some .string) = true) (hx : evo n f x = vstr l)
    (hlo : match a with | some y => ∃ k, evo n f y = .int k (lo : Int) | none => lo = 0) (hhi : match b with | some y => ∃ k, evo n f y = .int k (hi : Int) | none => hi = l.length)
    (h1 : lo ≤ hi) (h2 : hi ≤ l.length) : (execOp (evo n f) o).run P w = .ok (.value (vstr ((l.drop lo).take (hi - lo)))) w := by
  have hu' : P.underlying t = some .string := by
    split at hu
    · assumption
    · cases hu
  have e : (⟨l.toArray⟩ : ByteArray).extract lo hi = ⟨((l.drop lo).take (hi - lo)).toArray⟩ := by
    rw [Lib.extract_eq]
  cases a with
  | none =>
    subst hlo
    cases b with
    | none =>
      subst hhi
      simp [execOp, ho, hx, vstr, Instr.sliceAt, Instr.slice, Instr.sliceBounds, Instr.sliceBound, asIntOf, run_underlying hu', ba_size, e]
    | some y =>
      obtain ⟨k, hy⟩ := hhi
      simp [execOp, ho, hx, hy, vstr, Instr.sliceAt, Instr.slice, Instr.sliceBounds, Instr.sliceBound, asIntOf, run_underlying hu', ba_size, h2]
      simpa using e
  | some y0 =>
    obtain ⟨k0, hy0⟩ := hlo
    cases b with
    | none =>
      subst hhi
      simp [execOp, ho, hx, hy0, vstr, Instr.sliceAt, Instr.slice, Instr.sliceBounds, Instr.sliceBound, asIntOf, run_underlying hu', ba_size, h1]
      simpa using e
    | some y =>
      obtain ⟨k, hy⟩ := hhi
      simp [execOp, ho, hx, hy, hy0, vstr, Instr.sliceAt, Instr.slice, Instr.sliceBounds, Instr.sliceBound, asIntOf, run_underlying hu', ba_size, h2, h1]
      simpa using e
end

end Go.Proofs.YtfnaahkgegfbnaaGreatDoor
