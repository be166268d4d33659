/- Deferred calls; recover. -/
import Derived.Test.YtfnaahkgegfbnaaGreatDoorB10
import Derived.Test.YtfnaahkgegfbnaaGreatDoorProg
import Derived.Defers
import Derived.Recover
set_option linter.unusedVariables false
set_option linter.unusedSimpArgs false
namespace Go.Proofs.YtfnaahkgegfbnaaGreatDoor

section
variable {P : Program} {ops : Array Oper} {Q : Exit → Act → World → Prop} {n : Nat} {f : Fr} {w g : World} {m : Mem} {L : List Asr} {dl : List Deferred}

theorem calls_enter_d {fid : FuncId} {fn : Func} {c : Code} {args : List Value} {R : Ending → World → Prop} (hf : P.funcs[fid]? = some fn) (hb : fn.body = some c) (hl : Nat.ble args.length fn.ntmps = true)
    (h : c.wp P (bodyPostD P fn R) (act fn.ntmps (frOf args)) w) : Calls P fid ⟨args⟩ w R := by
  refine calls_of_wp_defers hf hb ?_
  rw [act_enter _ _ (by simpa using Nat.le_of_ble_eq_true hl)]
  exact h
theorem wl_defer {o : Oper} {rest : List Oper} {d : Deferred} (hg : guardO ops n f o = some true) (h : (execOp (evo n f) o).run P w = .ok (.defer d) w)
    (k : wpList P ops Q rest (actd n (d :: dl) (updo f o.dst undef)) w) : wpList P ops Q (o :: rest) (actd n dl f) w := by
  refine wl_run hg ?_
  unfold Oper.wp
  rw [act_eval, h]
  have : Act.put { (actd n dl f) with defers := d :: (actd n dl f).defers } o.dst undef = actd n (d :: dl) (updo f o.dst undef) := by
    rw [← act_put]; rfl
  rw [Oper.upon_defer, this]
  exact k

theorem wpOpsS_val {QS : Exit → Act → List Frame → World → Prop} {i : Nat} {rest : List Nat} {o : Oper} {v : Value} {cs : List Frame} (hi : ops[i]? = some o) (hg : guardO ops n f o = some true)
    (h : (execOp (evo n f) o).run P w = .ok (.value v) w) (k : wpOpsS P ops QS rest (actd n dl (updo f o.dst v)) cs w) : wpOpsS P ops QS (i :: rest) (actd n dl f) cs w := by
  unfold wpOpsS
  simp only [hi, guardO_wanted hg, if_true, act_eval, h, Oper.upon, act_put]
  exact k
theorem wpOpsS_recover {QS : Exit → Act → List Frame → World → Prop} {i : Nat} {rest : List Nat} {o : Oper} {v : Value} {cs cs' : List Frame} (hi : ops[i]? = some o) (hg : guardO ops n f o = some true)
    (h : (execOp (evo n f) o).run P w = .ok .recover w) (hr : recoverD cs = some (v, cs')) (k : wpOpsS P ops QS rest (actd n dl (updo f o.dst v)) cs' w) : wpOpsS P ops QS (i :: rest) (actd n dl f) cs w := by
  unfold wpOpsS
  simp only [hi, guardO_wanted hg, if_true, act_eval, h, hr, act_put]
  exact k
theorem wpOpsS_recover_none {QS : Exit → Act → List Frame → World → Prop} {i : Nat} {rest : List Nat} {o : Oper} {cs : List Frame} (hi : ops[i]? = some o) (hg : guardO ops n f o = some true)
    (h : (execOp (evo n f) o).run P w = .ok .recover w) (hr : recoverD cs = none) (k : wpOpsS P ops QS rest (actd n dl (updo f o.dst .nilIface)) cs w) : wpOpsS P ops QS (i :: rest) (actd n dl f) cs w := by
  unfold wpOpsS
  simp only [hi, guardO_wanted hg, if_true, act_eval, h, hr, act_put]
  exact k
theorem wpOpsS_nil {QS : Exit → Act → List Frame → World → Prop} {a : Act} {cs : List Frame} (k : QS .normal a cs w) : wpOpsS P ops QS [] a cs w := k
end

def panE (p : Pan) : PanicEntry := { v := .iface 84 (.agg ⟨[.int .i64 p.1, .int .i64 p.2]⟩), recovered := false }
def panR (p : Pan) : PanicEntry := { v := .iface 84 (.agg ⟨[.int .i64 p.1, .int .i64 p.2]⟩), recovered := true }

set_option maxRecDepth 10000 in
theorem rec_pan {g : World} {m : Mem} {F : List Asr} {w : World} {b : Nat} {c1 c2 : Value} {p : Pan} (hst : St g m (.obj b 84 [c1, c2] :: F) w) :
    CallsD Tryz.prog 101 ⟨[.pointer (some ⟨b, 0, none⟩)]⟩ (.panicking [panE p]) w fun e u' w' => ∃ v, e = .returned v ∧ u' = .panicking [panR p] ∧ St g m (.obj b 84 [.int .i64 p.1, .int .i64 p.2] :: F) w' := by
  refine callsD_of_wpS Tryz.func101 rfl ?_
  intro c₀ cs hc
  rw [act_enter _ _ (by simp)]
  refine wpS_seq (wpS_region ?_)
  refine wpOpsS_recover (cs' := { c₀ with mode := .panicking [panR p] } :: cs) (v := .iface 84 (.agg ⟨[.int .i64 p.1, .int .i64 p.2]⟩)) rfl rfl rfl ?_ ?_
  · simp [recoverD, hc, panE, panR]
  refine wpOpsS_val (v := .iface 84 (.agg ⟨[.int .i64 p.1, .int .i64 p.2]⟩)) rfl rfl rfl ?_
  refine wpOpsS_nil ?_
  refine wpS_of_wp ?_
  refine wp_seq (wp_region_lit ?_)
  refine wl_seg 1 [(3, .iface 84 (.agg ⟨[.int .i64 p.1, .int .i64 p.2]⟩))] [] (by kernel_rfl) trivial ?_
  refine wl_val (v := .bool true) rfl (run_err_neq (v := .iface 84 (.agg ⟨[.int .i64 p.1, .int .i64 p.2]⟩)) (b := true) (.inr ⟨rfl, _, _, rfl⟩) _ _ _ _ rfl (by kernel_rfl) (by kernel_rfl)) ?_
  refine wl_nil (then_n ?_)
  refine wc_true (by kernel_rfl) ?_
  refine wp_region_lit ?_
  refine wl_seg 2 [(5, .iface 84 (.agg ⟨[.int .i64 p.1, .int .i64 p.2]⟩)), (6, .agg ⟨[.int .i64 p.1, .int .i64 p.2]⟩)] [] (by kernel_rfl) trivial ?_
  refine wl_store (vs := [.int .i64 p.1, .int .i64 p.2]) (off := 0) (L' := .obj b 84 [.int .i64 p.1, .int .i64 p.2] :: F) rfl rfl (by kernel_rfl) (by kernel_rfl) (by kernel_rfl) (by kernel_rfl) hst (i := 0) rfl (Nat.le_of_ble_eq_true rfl) rfl (fun w1 hst => ?_)
  refine wl_nil ?_
  exact ⟨rfl, _, rfl, _, run_results (vs := []) (semO_run _ _ _ [] [] [] [] rfl trivial), _, rfl, rfl, hst⟩

set_option maxRecDepth 10000 in
theorem rec_ret {w : World} {b : Nat} :
    CallsD Tryz.prog 101 ⟨[.pointer (some ⟨b, 0, none⟩)]⟩ .returning w fun e u' w' => ∃ v, e = .returned v ∧ u' = .returning ∧ w' = w := by
  refine callsD_of_wpS Tryz.func101 rfl ?_
  intro c₀ cs hc
  rw [act_enter _ _ (by simp)]
  refine wpS_seq (wpS_region ?_)
  refine wpOpsS_recover_none rfl rfl rfl ?_ ?_
  · simp [recoverD, hc]
  refine wpOpsS_val (v := .nilIface) rfl rfl rfl ?_
  refine wpOpsS_nil ?_
  refine wpS_of_wp ?_
  refine wp_seq (wp_region_lit ?_)
  refine wl_seg 1 [(3, .nilIface)] [] (by kernel_rfl) trivial ?_
  refine wl_val (v := .bool false) rfl (run_err_neq (v := .nilIface) (b := false) (.inl ⟨rfl, rfl⟩) _ _ _ _ rfl (by kernel_rfl) (by kernel_rfl)) ?_
  refine wl_nil (then_n ?_)
  refine wc_false (by kernel_rfl) ?_
  refine wp_skip ?_
  exact ⟨rfl, _, (by rw [← hc]), _, run_results (vs := []) (semO_run _ _ _ [] [] [] [] rfl trivial), _, rfl, rfl, rfl⟩

/-- the end of a call that has put recover's function off: it has come back -/
theorem wc_ret_rec {n : Nat} {f : Fr} {w : World} {b : Nat} {dargs : Array Value} {R : Ending → World → Prop} {fn : Func} {cap : Array Value} {fv : Fn}
    (hi : ∀ w, (invoke (.fn fv cap) dargs).run Tryz.prog w = .ok (.enter 101 ⟨[.pointer (some ⟨b, 0, none⟩)]⟩) w) (vs : List Value) (rs : List (Addr × Value)) (h : semO Tryz.prog (resL n f fn.results.toList) rs = some (vs, rs, [])) (hc : AllC w rs) (hR : R (.returned (oneOrTuple vs)) w) :
    bodyPostD Tryz.prog fn R .ret (actd n [{ target := .fn fv cap, args := dargs }] f) w := by
  refine leaves_cons (by simp) (hi w) ?_
  refine rec_ret.mono ?_
  rintro e u' w' ⟨v, rfl, rfl, rfl⟩
  exact ⟨_, run_results (semO_run _ _ _ _ _ _ _ h hc), hR⟩
/-- it has panicked: what was thrown lies in the cell -/
theorem wc_pan_rec {n : Nat} {f : Fr} {g : World} {m : Mem} {F : List Asr} {w : World} {b : Nat} {c1 c2 : Value} {p : Pan} {dargs : Array Value} {R : Ending → World → Prop} {fn : Func} {cap : Array Value} {fv : Fn}
    (hst : St g m (.obj b 84 [c1, c2] :: F) w) (hi : ∀ w, (invoke (.fn fv cap) dargs).run Tryz.prog w = .ok (.enter 101 ⟨[.pointer (some ⟨b, 0, none⟩)]⟩) w)
    (h : ∃ vs rs, semO Tryz.prog (resL n f fn.results.toList) rs = some (vs, rs, []) ∧ ∀ w', St g m (.obj b 84 [.int .i64 p.1, .int .i64 p.2] :: F) w' → AllC w' rs ∧ R (.returned (oneOrTuple vs)) w') :
    bodyPostD Tryz.prog fn R (.panic [panE p]) (actd n [{ target := .fn fv cap, args := dargs }] f) w := by
  obtain ⟨vs, rs, h1, h2⟩ := h
  refine leaves_cons (by simp) (hi w) ?_
  refine (rec_pan hst).mono ?_
  rintro e u' w' ⟨v, rfl, rfl, hst'⟩
  obtain ⟨hc, hR⟩ := h2 w' hst'
  exact ⟨_, run_results (semO_run _ _ _ _ _ _ _ h1 hc), hR⟩
theorem St.wider {g : World} {m : Mem} {L : List Asr} {w w' : World} (h : St g m L w) (hh : ∀ b, b < w.heap.size → w'.heap[b]? = w.heap[b]?) (ho : w'.os = w.os) (ht : w'.tape = w.tape) (hu : w'.output = w.output) : St g m L w' :=
  ⟨fun b o hb => (hh b (h.heap_lt hb)).trans (h.mem b o hb), fun A hA => Asr.holds_of_heap (h.own A hA) (fun b hb => hh b (Asr.blk_lt (h.own A hA) hb)), h.nod, h.sep, ho.trans h.os, ht.trans h.tape, hu.trans h.output⟩
theorem RP.pick {g : World} {m m' : Mem} {F L : List Asr} {p : Pan} {c : List PanicEntry} {w' : World} (hl : m.le m') (h : RP g m' L p c w') (n : Nat) (is : List Nat) (hp : picks n is L = some F) : RP g m F p c w' := by
  obtain ⟨e, m1, h1, h2⟩ := h
  exact ⟨e, m1, hl.trans h1, h2.pick n is hp⟩
def xcatch {α β : Type} (x : XR α) (fe : Pan → Option β) (f : α → Option β) : Option β := match x with | none => none | some (.error p) => fe p | some (.ok a) => f a
theorem xcatch_some {α β : Type} {x : XR α} {fe : Pan → Option β} {f : α → Option β} {r : β} (h : xcatch x fe f = some r) : (∃ p, x = some (.error p) ∧ fe p = some r) ∨ (∃ a, x = some (.ok a) ∧ f a = some r) := by
  unfold xcatch at h
  split at h
  · cases h
  · rename_i p; exact .inl ⟨p, rfl, h⟩
  · rename_i a; exact .inr ⟨a, rfl, h⟩
theorem wc_ret_d0 {n : Nat} {f : Fr} {w : World} {R : Ending → World → Prop} {fn : Func} (vs : List Value) (rs : List (Addr × Value)) (h : semO Tryz.prog (resL n f fn.results.toList) rs = some (vs, rs, [])) (hc : AllC w rs)
    (hR : R (.returned (oneOrTuple vs)) w) : bodyPostD Tryz.prog fn R .ret (actd n [] f) w :=
  ⟨_, run_results (semO_run _ _ _ _ _ _ _ h hc), hR⟩
end Go.Proofs.YtfnaahkgegfbnaaGreatDoor
