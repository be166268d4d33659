/- The arguments of a law, opened: from the reading of a value to the plain data that the walks speak of. -/
import Derived.Test.YtfnaahkgegfbnaaGreatDoorB15
import Derived.ChangeArms
set_option linter.unusedVariables false
set_option linter.unusedSimpArgs false
set_option maxRecDepth 10000
namespace Go.Proofs.YtfnaahkgegfbnaaGreatDoor
open Go.RowKit Go.ChangeShapes Go.WideShapes Go.ChangeAt Go.WideMaps Go.WideElems

/-- whatever reads as a value of this type is one of these -/
def Opn {α : Type} (H : Type) (enc : TypeId × Value → H) (W : World) (T : Ty α) (t : TypeId) (ok : α → Prop) (fuel : Nat) : Prop :=
  ∀ (cs : List Value) (x : DataW H × List MemPlace), DataW.trod enc Tryz.prog W 0 (fun _ => true) true fuel t cs = some x → (x.1.weights Tryz.prog t).all (· ≤ reachBytes) = true → ∃ y, T.R (mOf W) y cs ∧ ok y
section
variable {H : Type} {enc : TypeId × Value → H} {W : World}
theorem exists_list {α : Type} {n : Nat} {p : Nat → α → Prop} (h : ∀ i, i < n → ∃ y, p i y) : ∃ l : List α, l.length = n ∧ ∀ i y, l[i]? = some y → p i y := by
  induction n with
  | zero => exact ⟨[], rfl, fun i y hy => by simp at hy⟩
  | succ n ih =>
    obtain ⟨l, hl, hp⟩ := ih fun i hi => h i (by omega)
    obtain ⟨y, hy⟩ := h n (by omega)
    refine ⟨l ++ [y], by simp [hl], fun i z hz => ?_⟩
    rcases Nat.lt_trichotomy i n with hi | hi | hi
    · rw [List.getElem?_append_left (by omega)] at hz; exact hp i z hz
    · subst hi
      rw [List.getElem?_append_right (by omega), hl] at hz
      simp at hz; subst hz; exact hy
    · rw [List.getElem?_eq_none (by simp; omega)] at hz; cases hz
theorem At.cells {ad : Addr} {n base : Nat} {cs : List Value} (hn : 0 < n) (h : W.cells? base ad n = some cs) : cs.length = n ∧ At (mOf W) ad cs := by
  unfold World.cells? at h
  split at h
  · have hlen : cs.length = n := by have := mapM_some_length h; simpa using this
    have hget : ∀ j, j < n → W.cell? (ad.add j) = cs[j]? := fun j hj => mapM_some_get h j j (by simp [hj])
    refine ⟨hlen, ?_⟩
    have h0 := hget 0 hn
    have e0 : ad.add 0 = ad := by simp [Addr.add]
    rw [e0, List.getElem?_eq_getElem (by omega)] at h0
    obtain ⟨hs, c, t, fr, hm, hc⟩ := At.of h0
    refine ⟨hs, c, t, fr, hm, fun j v hj => ?_⟩
    have hjn : j < n := by
      rcases Nat.lt_or_ge j cs.length with h' | h'
      · omega
      · rw [List.getElem?_eq_none h'] at hj; cases hj
    have h1 := hget j hjn
    rw [hj, addr_add _ _ hs] at h1
    unfold World.cell? at h1
    have hm' : W.heap[ad.block]? = some (.cells c t fr) := hm
    simpa [hm'] using h1
  · cases h
def okI (k : IntKind) (x : Int) : Prop := (Lit.int k x).wf = true
def okS (s : Str) : Prop := s.length ≤ reachBytes
theorem opn_int {t : TypeId} (k : IntKind) (ht : Tryz.prog.underlying t = some (.int k)) (n : Nat) : Opn H enc W (TInt k) t (okI k) n := by
  intro cs x h _
  obtain ⟨y, rfl, _, hw⟩ := DataW.trod_int ht h
  exact ⟨y, rfl, hw⟩
theorem opn_bool {t : TypeId} (ht : Tryz.prog.underlying t = some .bool) (n : Nat) : Opn H enc W TBool t (fun _ => True) n := by
  intro cs x h _
  obtain ⟨y, rfl, _⟩ := DataW.trod_bool ht h
  exact ⟨y, rfl, trivial⟩
theorem opn_str {t : TypeId} (ht : Tryz.prog.underlying t = some .string) (n : Nat) : Opn H enc W TStr t okS n := by
  intro cs x h hw
  obtain ⟨s, rfl, rfl, _⟩ := DataW.trod_string ht h
  refine ⟨s.data.toList, rfl, ?_⟩
  simpa [DataW.weights, okS] using hw
theorem weights_all {t : TypeId} : ∀ {l : List (DataW H)}, (DataW.weightsAll Tryz.prog t l).all (· ≤ reachBytes) = true → ∀ d ∈ l, (d.weights Tryz.prog t).all (· ≤ reachBytes) = true
  | d :: l, h, e, he => by
    rw [DataW.weightsAll, List.all_append, Bool.and_eq_true] at h
    rcases List.mem_cons.1 he with rfl | he
    · exact h.1
    · exact weights_all h.2 e he
theorem opn_slice {α : Type} {T : Ty α} {ok : α → Prop} {t e : TypeId} (ht : Tryz.prog.underlying t = some (.slice e)) (hc : Tryz.prog.cellsOf e = T.size) (hz : 0 < T.size) {n : Nat} (hE : ∀ m, m < n → Opn H enc W T e ok m) :
    Opn H enc W (TSl T) t (fun l => (∀ y ∈ l, ok y) ∧ l.length * Tryz.prog.bytesOf e ≤ reachBytes) n := by
  intro cs x h hw
  rcases DataW.trod_slice ht h with ⟨rfl, rfl⟩ | ⟨a, len, cap, elems, rest, m, rfl, rfl, rfl, _, hlc, _, hlen, hel, _, _⟩
  · exact ⟨[], ⟨_, rfl, RS.nil _ _⟩, ⟨fun y hy => (by cases hy), (by simp)⟩⟩
  · rw [DataW.weights, ht] at hw
    simp only [List.all_cons, List.all_append, Bool.and_eq_true, decide_eq_true_eq, List.length_map] at hw
    have hwe := weights_all hw.2.1
    have hx : ∀ i, i < len → ∃ y, (∃ cs, T.R (mOf W) y cs ∧ At (mOf W) (a.add (i * T.size)) cs) ∧ ok y := by
      intro i hi
      have h1 := hel i hi
      rw [hc, List.getElem?_eq_getElem (by omega)] at h1
      obtain ⟨cs, hcs, htr⟩ := Option.bind_eq_some_iff.1 h1
      obtain ⟨y, hR, hok⟩ := hE m (Nat.lt_succ_self m) cs _ htr (hwe _ (List.mem_map.2 ⟨_, List.getElem_mem _, rfl⟩))
      exact ⟨y, ⟨cs, hR, (At.cells hz hcs).2⟩, hok⟩
    obtain ⟨l, hl, hp⟩ := exists_list hx
    refine ⟨l, ⟨_, rfl, some a, cap, by rw [hl], by omega, fun i y hy => ?_⟩, fun y hy => ?_, ?_⟩
    · obtain ⟨cs, h1, h2⟩ := (hp i y hy).1
      exact ⟨a, cs, rfl, h1, h2⟩
    · obtain ⟨i, hi⟩ := List.getElem?_of_mem hy
      exact (hp i y hi).2
    · rw [hl]
      have : len * Tryz.prog.bytesOf e ≤ (elems.length + rest.length) * Tryz.prog.bytesOf e := Nat.mul_le_mul_right _ (by omega)
      omega

/-! ### structs: a field at a time -/
theorem take_drop_split {α : Type} (cs : List α) (a b : Nat) : cs.drop a = (cs.drop a).take b ++ cs.drop (a + b) := by
  rw [← List.drop_drop, List.take_append_drop]
theorem weights_each {ts : List TypeId} {ds : List (DataW H)} (h : (DataW.weightsEach Tryz.prog ts ds).all (· ≤ reachBytes) = true) : ∀ (i : Nat) t d, ts[i]? = some t → ds[i]? = some d → (d.weights Tryz.prog t).all (· ≤ reachBytes) = true := by
  induction ts generalizing ds with
  | nil => intro i t d ht; simp at ht
  | cons t ts ih =>
    cases ds with
    | nil => intro i t d _ hd; simp at hd
    | cons d ds =>
      rw [DataW.weightsEach, List.all_append, Bool.and_eq_true] at h
      intro i u e hu he
      cases i with
      | zero => simp at hu he; subst hu; subst he; exact h.1
      | succ i => simp only [List.getElem?_cons_succ] at hu he; exact ih h.2 i u e hu he
/-- one field, opened -/
theorem opn_field {α : Type} {T : Ty α} {ok : α → Prop} {fs : Array Field} {n : Nat} {cs : List Value} {xs : List (DataW H × List MemPlace)} (hf : ∀ (i : Nat) (f : Field), fs[i]? = some f → DataW.trod enc Tryz.prog W 0 (fun _ => true) true n f.type ((cs.drop f.offset).take (Tryz.prog.cellsOf f.type)) = xs[i]?)
    (hw : (DataW.weightsEach Tryz.prog (fs.toList.map (·.type)) (xs.map (·.1))).all (· ≤ reachBytes) = true) (hlen : xs.length = fs.size) (i : Nat) (off size : Nat) (t : TypeId) (hi : fs[i]?.map (fun f => (f.type, f.offset)) = some (t, off)) (hs : Tryz.prog.cellsOf t = size) (hE : Opn H enc W T t ok n) :
    ∃ y, T.R (mOf W) y ((cs.drop off).take size) ∧ ok y := by
  subst hs
  cases hfi : fs[i]? with
  | none => simp [hfi] at hi
  | some f =>
    simp only [hfi, Option.map_some, Option.some.injEq, Prod.mk.injEq] at hi
    obtain ⟨rfl, rfl⟩ := hi
    have h1 := hf i f hfi
    have hlt : i < xs.length := by rw [hlen]; exact (Array.getElem?_eq_some_iff.1 hfi).1
    rw [List.getElem?_eq_getElem hlt] at h1
    refine hE _ _ h1 (weights_each hw i _ _ ?_ ?_)
    · rw [List.getElem?_map, Array.getElem?_toList, hfi]; rfl
    · rw [List.getElem?_map, List.getElem?_eq_getElem hlt]; rfl
theorem opn_struct {t : TypeId} {fs : Array Field} {fuel : Nat} {cs : List Value} {x : DataW H × List MemPlace} (ht : Tryz.prog.underlying t = some (.struct fs)) (h : DataW.trod enc Tryz.prog W 0 (fun _ => true) true fuel t cs = some x)
    (hw : (x.1.weights Tryz.prog t).all (· ≤ reachBytes) = true) : ∃ (xs : List (DataW H × List MemPlace)) (n : Nat), fuel = n + 1 ∧ cs.length = Tryz.prog.cellsOf t ∧ xs.length = fs.size ∧ (DataW.weightsEach Tryz.prog (fs.toList.map (·.type)) (xs.map (·.1))).all (· ≤ reachBytes) = true ∧
      ∀ (i : Nat) (f : Field), fs[i]? = some f → DataW.trod enc Tryz.prog W 0 (fun _ => true) true n f.type ((cs.drop f.offset).take (Tryz.prog.cellsOf f.type)) = xs[i]? := by
  obtain ⟨xs, n, rfl, rfl, hl, hlen, hf⟩ := DataW.trod_struct ht h
  rw [DataW.weights, ht] at hw
  exact ⟨xs, n, rfl, hl, hlen, hw, hf⟩
end
def okGValue (v : GValue) : Prop := okI .i64 v.Kind ∧ okS v.Text ∧ okI .i64 v.Int
inductive okGPred : GPred → Prop
  | mk (p : GPred) (h0 : okI .i64 p.Op) (h1 : okS p.Field) (h2 : okS p.Key) (h3 : okGValue p.Value) (h4 : p.Args.length * 96 ≤ reachBytes) (h5 : ∀ q ∈ p.Args, okGPred q) : okGPred p
section
variable {H : Type} {enc : TypeId × Value → H} {W : World}
theorem opn_GValue (n : Nat) : Opn H enc W TGValue 41 okGValue n := by
  intro cs x h hw
  obtain ⟨xs, n, rfl, hl, hlen, hw, hf⟩ := opn_struct Tryz.underlying41 h hw
  have c : Tryz.prog.cellsOf 41 = 3 := by kernel_rfl
  rw [c] at hl
  obtain ⟨y0, r0, o0⟩ := opn_field (T := TInt .i64) hf hw hlen 0 0 1 3 rfl (by kernel_rfl) (opn_int .i64 (by kernel_rfl) n)
  obtain ⟨y1, r1, o1⟩ := opn_field (T := TStr) hf hw hlen 1 1 1 9 rfl (by kernel_rfl) (opn_str (by kernel_rfl) n)
  obtain ⟨y2, r2, o2⟩ := opn_field (T := TInt .i64) hf hw hlen 2 2 1 3 rfl (by kernel_rfl) (opn_int .i64 (by kernel_rfl) n)
  refine ⟨⟨y0, y1, y2⟩, ?_, o0, o1, o2⟩
  match cs, hl with
  | [a, b, d], _ =>
    cases r0; cases r1; cases r2
    rfl
theorem opn_GPred : ∀ n : Nat, Opn H enc W TGPred 44 okGPred n := by
  intro n
  induction n using Nat.strongRecOn with
  | ind n ih =>
    intro cs x h hw
    obtain ⟨xs, m, rfl, hl, hlen, hw, hf⟩ := opn_struct Tryz.underlying44 h hw
    have c : Tryz.prog.cellsOf 44 = 7 := by kernel_rfl
    rw [c] at hl
    obtain ⟨y0, r0, o0⟩ := opn_field (T := TInt .i64) hf hw hlen 0 0 1 3 rfl (by kernel_rfl) (opn_int .i64 (by kernel_rfl) m)
    obtain ⟨y1, r1, o1⟩ := opn_field (T := TStr) hf hw hlen 1 1 1 9 rfl (by kernel_rfl) (opn_str (by kernel_rfl) m)
    obtain ⟨y2, r2, o2⟩ := opn_field (T := TStr) hf hw hlen 2 2 1 9 rfl (by kernel_rfl) (opn_str (by kernel_rfl) m)
    obtain ⟨y3, r3, o3⟩ := opn_field (T := TGValue) hf hw hlen 3 3 3 41 rfl (by kernel_rfl) (opn_GValue m)
    obtain ⟨y4, r4, o4⟩ := opn_field (T := TSl TGPred) hf hw hlen 4 6 1 42 rfl (by kernel_rfl) (opn_slice (by kernel_rfl) (by kernel_rfl) (by decide) (fun k hk => ih k (by omega)))
    have b96 : Tryz.prog.bytesOf 44 = 96 := by kernel_rfl
    rw [b96] at o4
    refine ⟨⟨y0, y1, y2, y3, y4⟩, ?_, .mk _ o0 o1 o2 o3 o4.2 o4.1⟩
    match cs, hl with
    | [a, b, d, e, f, g, i], _ =>
      obtain ⟨v, hv, hr⟩ := r4
      cases r0; cases r1; cases r2; cases r3; cases hv
      exact TGPred.close_ _ hr
end
end Go.Proofs.YtfnaahkgegfbnaaGreatDoor
