/- The laws in the form in which the walks use them. -/
import Derived.Test.YtfnaahkgegfbnaaGreatDoorB7
set_option linter.unusedVariables false
set_option linter.unusedSimpArgs false
namespace Go.Proofs.YtfnaahkgegfbnaaGreatDoor

/-! ### words of the functions that are written for the Go functions -/
def chk {α : Type} (b : Bool) (x : Option α) : Option α := if b = true then x else none
theorem chk_some {α : Type} {b : Bool} {x : Option α} {r : α} (h : chk b x = some r) : b = true ∧ x = some r := by
  unfold chk at h; split at h
  · exact ⟨by assumption, h⟩
  · cases h
abbrev Pan := Int × Int
abbrev XR (α : Type) := Option (Except Pan α)
def xbind {α β : Type} (x : XR α) (f : α → XR β) : XR β := match x with | none => none | some (.error p) => some (.error p) | some (.ok a) => f a
theorem xbind_some {α β : Type} {x : XR α} {f : α → XR β} {r : Except Pan β} (h : xbind x f = some r) : (∃ p, x = some (.error p) ∧ r = .error p) ∨ (∃ a, x = some (.ok a) ∧ f a = some r) := by
  unfold xbind at h
  split at h
  · cases h
  · rename_i p; cases h; exact .inl ⟨p, rfl, rfl⟩
  · rename_i a; exact .inr ⟨a, rfl, h⟩
def w64 (x : Int) : Int := IntKind.i64.wrap x

theorem RS.shape {α : Type} {T : Ty α} {m : Mem} {v : Value} {xs : List α} (h : RS T m v xs) : ∃ A c, v = .slice A xs.length c := by
  obtain ⟨A, c, e, _⟩ := h; exact ⟨A, c, e⟩
theorem RS.get {α : Type} {T : Ty α} {m : Mem} {A : Option Addr} {k c : Nat} {xs : List α} (h : RS T m (.slice A k c) xs) :
    ∀ i x, xs[i]? = some x → ∃ ad cs, A = some ad ∧ T.R m x cs ∧ At m (ad.add (i * T.size)) cs := by
  obtain ⟨A', c', e, _, hx⟩ := h
  cases e; exact hx

def AllF (f : Fr) : List (Nat × Value) → Prop
  | [] => True
  | (d, v) :: us => f d = v ∧ AllF f us
theorem upd_same {f : Fr} {d : Nat} {v : Value} (h : f d = v) : upd f d v = f := by
  funext i
  unfold upd
  by_cases e : i = d
  · subst e; rw [Nat.beq_refl]; exact h.symm
  · rw [beq_f e]; rfl
theorem upds_same {f : Fr} : ∀ {us : List (Nat × Value)}, AllF f us → upds f us = f
  | [], _ => rfl
  | (d, v) :: us, h => by simp only [upds]; rw [upd_same h.1]; exact upds_same h.2

theorem Rd.none_ {m : Mem} {L : List Asr} {w : World} (h : Rd m L w) : Rd m [] w := ⟨h.mem, fun A hA => by cases hA⟩
theorem Rd.with_ {m : Mem} {L LS : List Asr} {w : World} (h : Rd m L w) (i : Nat) {A : Asr} (hi : L[i]? = some A) (k : Rd m LS w) : Rd m (A :: LS) w :=
  ⟨h.mem, fun B hB => by
    rcases List.mem_cons.1 hB with rfl | hB
    · exact h.own _ (List.mem_of_getElem? hi)
    · exact k.own _ hB⟩
theorem Rd.lower {m m' : Mem} {L : List Asr} {w : World} (hl : m.le m') (h : Rd m' L w) : Rd m L w := ⟨fun b o hb => h.mem b o (hl b o hb), h.own⟩

/-- a panic does not hang on the frame -/
def PQ (Q : Exit → Act → World → Prop) : Prop := ∀ c a a' w, a.defers = a'.defers → Q (.panic c) a w → Q (.panic c) a' w
theorem PQ.body {P : Program} {fn : Func} {R : Ending → World → Prop} : PQ (bodyPost P fn R) := fun c a a' w hd hq => ⟨hd ▸ hq.1, hq.2⟩
theorem PQ.then_ {N : Act → World → Prop} {Q : Exit → Act → World → Prop} (h : PQ Q) : PQ (Exit.then N Q) := fun c a a' w hd hq => h c a a' w hd hq
theorem PQ.block_ {id : Nat} {Q : Exit → Act → World → Prop} (h : PQ Q) : PQ (Exit.inBlock id Q) := fun c a a' w hd hq => h c a a' w hd hq

/-- what a call leaves that panics with a failure: its place and its error -/
def RP (g : World) (m : Mem) (F : List Asr) (p : Pan) (c : List PanicEntry) (w' : World) : Prop :=
  c = [{ v := .iface 84 (.agg ⟨[.int .i64 p.1, .int .i64 p.2]⟩), recovered := false }] ∧ ∃ m', m.le m' ∧ St g m' F w'
def OPost {α : Type} (okP : α → Value → World → Prop) (r : α) (e : Ending) (w' : World) : Prop := ∃ v, e = .returned v ∧ okP r v w'
def XPost {α : Type} (okP : α → Value → World → Prop) (g : World) (m : Mem) (F : List Asr) : Except Pan α → Ending → World → Prop
  | .ok r, e, w' => ∃ v, e = .returned v ∧ okP r v w'
  | .error p, e, w' => ∃ c, e = .panicked c ∧ RP g m F p c w'
def mx (x y : Int) : Int := if y > x then y else x
def mn (x y : Int) : Int := if y < x then y else x


theorem act_upds {n : Nat} {dl : List Deferred} {f : Fr} {us : List (Nat × Value)} (h : AllF f us) : actd n dl f = actd n dl (upds f us) := by rw [upds_same h]

section
variable {P : Program} {ops : Array Oper} {Q : Exit → Act → World → Prop} {n : Nat} {f : Fr} {w g : World} {m : Mem} {L : List Asr} {dl : List Deferred}

/-- ways meet again -/
theorem wc_join (J : Act → World → Prop) {x y : Code} {a : Act} (hJ : ∀ a w, J a w → y.wp P Q a w) (h : x.wp P (Exit.then J Q) a w) : (Code.seq x y).wp P Q a w :=
  wp_seq (Code.wp_mono (fun e a w q => by cases e <;> first | exact hJ _ _ q | exact q) h)
/-- a loop -/
theorem wc_loop (I : Nat → Act → World → Prop) (k : Nat) {c : Code} {a : Act} (h0 : I k a w)
    (step : ∀ k, (∀ j, j < k → ∀ a w, I j a w → LoopFrom P c Q a w) → ∀ a w, I k a w → c.wp P (Exit.then (LoopFrom P c Q) Q) a w) : (Code.loop c).wp P Q a w := by
  have key : ∀ k a w, I k a w → LoopFrom P c Q a w := by
    intro k
    induction k using Nat.strongRecOn with
    | _ k ih => exact fun a w h => loop_round (step k ih a w h)
  exact wp_loop_from (key k a w h0)

theorem wl_call_ok {o : Oper} {rest : List Oper} {fid : FuncId} {A : Array Value} {B : Value → World → Prop} (hc : Calls P fid A w (fun e w' => ∃ v, e = .returned v ∧ B v w')) (hg : guardO ops n f o = some true)
    (hr : semO P (execOp (evo n f) o) [] = some (.enter fid A, [], [])) (k : ∀ v w1, B v w1 → wpList P ops Q rest (actd n dl (updo f o.dst v)) w1) : wpList P ops Q (o :: rest) (actd n dl f) w :=
  wl_call hg hr hc (fun v w1 ⟨v', e, hb⟩ => (by cases e; exact k v w1 hb)) (fun c w1 ⟨v', e, hb⟩ => (by cases e)) (fun w1 ⟨v', e, hb⟩ => (by cases e))
theorem wl_call_pan {o : Oper} {rest : List Oper} {fid : FuncId} {A : Array Value} {B : List PanicEntry → World → Prop} (hc : Calls P fid A w (fun e w' => ∃ c, e = .panicked c ∧ B c w')) (hg : guardO ops n f o = some true)
    (hr : semO P (execOp (evo n f) o) [] = some (.enter fid A, [], [])) (k : ∀ c w1, B c w1 → Q (.panic c) (actd n dl f) w1) : wpList P ops Q (o :: rest) (actd n dl f) w :=
  wl_call hg hr hc (fun v w1 ⟨v', e, hb⟩ => (by cases e)) (fun c w1 ⟨v', e, hb⟩ => (by cases e; exact k c w1 hb)) (fun w1 ⟨v', e, hb⟩ => (by cases e))

theorem Rd.cells_obj (h : Rd m L w) {i b : Nat} {t : TypeId} {cs : List Value} (hi : L[i]? = some (.obj b t cs)) : ∃ ad, some (⟨b, 0, none⟩ : Addr) = some ad ∧ ∀ q u, cs[q]? = some u → w.cell? (ad.add q) = some u :=
  ⟨_, rfl, fun q u hq => by rw [addr_add _ _ rfl]; simpa using h.cell hi (off := q) hq⟩

/-- append of a slice literal's elements to a row -/
theorem wl_append_t {α : Type} (T : Ty α) {o : Oper} {rest : List Oper} {t e : TypeId} {s x : Operand} {A : Option Addr} {c i i2 b bytes j : Nat} {cs ds : List Value} {xs ys : List α} {t2 : TypeId}
    (ho : o.op = .call { callee := .builtin .append, args := #[s, x], argTypes := #[t, t] }) (hg : guardO ops n f o = some true) (hfit : rowFits P t e T.size bytes = true)
    (hs : evo n f s = .slice A xs.length c) (hx : evo n f x = .slice (some ⟨b, 0, none⟩) j j) (hst : St g m L w) (hi : L[i]? = some (.row e T.size (.slice A xs.length c) xs.length cs))
    (hi2 : L[i2]? = some (.obj b t2 ds)) (hrc : RC T m xs cs) (hrd : RC T m ys ds) (hj : j = ys.length) (hb : decide ((xs ++ ys).length * bytes ≤ 140737488355328) = true) (hby : Nat.blt 0 bytes = true)
    (kk : ∀ A1 c1 cs1 w1, RC T m (xs ++ ys) cs1 → St g m (L.set i (.row e T.size (.slice A1 (xs ++ ys).length c1) (xs ++ ys).length cs1)) w1 → wpList P ops Q rest (actd n dl (updo f o.dst (.slice A1 (xs ++ ys).length c1))) w1) :
    wpList P ops Q (o :: rest) (actd n dl f) w := by
  subst hj
  have hb' := of_decide_eq_true hb
  rw [List.length_append] at hb'
  have hby' : 0 < bytes := by rw [Nat.blt_eq] at hby; exact hby
  have hsz : 0 < T.size := (rowFits_spec hfit).2.choose_spec.choose_spec.2.2.2.2.2
  have hle : xs.length + ys.length ≤ 140737488355328 := Nat.le_trans (Nat.le_mul_of_pos_right _ hby') hb'
  refine wl_append ho hg hfit hs hx hst hi (hst.rd.cells_obj hi2) (by rw [hrd.1]) (hrd.one hsz) hb' (by omega) fun A1 c1 w1 h => ?_
  have he : xs.length + ys.length = (xs ++ ys).length := List.length_append.symm
  rw [he] at h ⊢
  exact kk A1 c1 _ w1 (hrc.append hrd) h

theorem RC_int_map {k : IntKind} {m : Mem} (xs : List Int) : RC (TInt k) m xs (xs.map (Value.int k)) := by
  induction xs with
  | nil => exact RC.nil _ _
  | cons x xs ih => exact RC.cons (T := TInt k) (x := x) (cs := [.int k x]) rfl ih

theorem wl_append_str_t {o : Oper} {rest : List Oper} {t u e : TypeId} {s x : Operand} {A : Option Addr} {c i : Nat} {xs : List Int} {l : Str} {cs : List Value}
    (ho : o.op = .call { callee := .builtin .append, args := #[s, x], argTypes := #[t, u] }) (hg : guardO ops n f o = some true) (hfit : rowFits P t e 1 1 = true) (hu : (P.underlying u matches some .string) = true) (hz : zeroByte P e = true)
    (hs : evo n f s = .slice A xs.length c) (hx : evo n f x = vstr l) (hst : St g m L w) (hi : L[i]? = some (.row e 1 (.slice A xs.length c) xs.length cs)) (hrc : RC (TInt .u8) m xs cs)
    (hb : decide ((xs ++ l.map (fun b => (b.toNat : Int))).length ≤ 140737488355328) = true)
    (kk : ∀ A1 c1 cs1 w1, RC (TInt .u8) m (xs ++ l.map (fun b => (b.toNat : Int))) cs1 → St g m (L.set i (.row e 1 (.slice A1 (xs ++ l.map (fun b => (b.toNat : Int))).length c1) (xs ++ l.map (fun b => (b.toNat : Int))).length cs1)) w1 →
      wpList P ops Q rest (actd n dl (updo f o.dst (.slice A1 (xs ++ l.map (fun b => (b.toNat : Int))).length c1))) w1) :
    wpList P ops Q (o :: rest) (actd n dl f) w := by
  have hcs := RC_int hrc
  subst hcs
  have hb' := of_decide_eq_true hb
  have he : xs.length + l.length = (xs ++ l.map (fun b => (b.toNat : Int))).length := by simp
  refine wl_append_str ho hg hfit hu hz hs hx hst hi (by rw [he]; exact hb') fun A1 c1 w1 h => ?_
  rw [he] at h ⊢
  exact kk A1 c1 _ w1 (RC_int_map _) h

theorem run_conv_row_t {xs : List Int} {A : Option Addr} {c i : Nat} {e : TypeId} {cs : List Value} (h : Rd m L w) (hi : L[i]? = some (.row e 1 (.slice A xs.length c) xs.length cs)) (hrc : RC (TInt .u8) m xs cs) {o : Oper} {src dst : TypeId} {x : Operand} (ho : o.op = .convert src dst x)
    (hs : (match P.underlying src with | some (.slice e') => (P.underlying e' matches some (.int .u8)) | _ => false) = true) (hd : (P.underlying dst matches some .string) = true) (hx : evo n f x = .slice A xs.length c) :
    (execOp (evo n f) o).run P w = .ok (.value (vstr (xs.map fun q => UInt8.ofNat q.toNat))) w := by
  have hcs := RC_int hrc
  subst hcs
  exact run_conv_row h hi ho hs hd hx

theorem run_str_slice2 (l : Str) (lo hi : Int) (o : Oper) (t : TypeId) (x a b : Operand) (ho : o.op = .slice t x (some a) (some b) none) (hu : (P.underlying t matches some .string) = true) (hx : evo n f x = vstr l)
    (ha : evo n f a = .int .i64 lo) (hb : evo n f b = .int .i64 hi) (h : (decide (0 ≤ lo) && decide (lo ≤ hi) && decide (hi ≤ l.length)) = true) :
    (execOp (evo n f) o).run P w = .ok (.value (vstr ((l.drop lo.toNat).take (hi.toNat - lo.toNat)))) w := by
  simp only [Bool.and_eq_true, decide_eq_true_eq] at h
  obtain ⟨⟨h1, h2⟩, h3⟩ := h
  refine run_str_slice l lo.toNat hi.toNat (some a) (some b) o t x ho hu hx ⟨.i64, ?_⟩ ⟨.i64, ?_⟩ (by omega) (by omega)
  · rw [ha, Int.toNat_of_nonneg h1]
  · rw [hb, Int.toNat_of_nonneg (by omega)]
theorem run_str_slice1 (l : Str) (lo : Int) (o : Oper) (t : TypeId) (x a : Operand) (ho : o.op = .slice t x (some a) none none) (hu : (P.underlying t matches some .string) = true) (hx : evo n f x = vstr l)
    (ha : evo n f a = .int .i64 lo) (h : (decide (0 ≤ lo) && decide (lo ≤ l.length)) = true) :
    (execOp (evo n f) o).run P w = .ok (.value (vstr (l.drop lo.toNat))) w := by
  simp only [Bool.and_eq_true, decide_eq_true_eq] at h
  obtain ⟨h1, h2⟩ := h
  have := run_str_slice (P := P) (w := w) l lo.toNat l.length (some a) none o t x ho hu hx ⟨.i64, by rw [ha, Int.toNat_of_nonneg h1]⟩ rfl (by omega) (Nat.le_refl _)
  rw [List.take_of_length_le (by simp)] at this
  exact this
theorem run_str_slice0 (l : Str) (hi : Int) (o : Oper) (t : TypeId) (x b : Operand) (ho : o.op = .slice t x none (some b) none) (hu : (P.underlying t matches some .string) = true) (hx : evo n f x = vstr l)
    (hb : evo n f b = .int .i64 hi) (h : (decide (0 ≤ hi) && decide (hi ≤ l.length)) = true) :
    (execOp (evo n f) o).run P w = .ok (.value (vstr (l.take hi.toNat))) w := by
  simp only [Bool.and_eq_true, decide_eq_true_eq] at h
  obtain ⟨h1, h2⟩ := h
  have := run_str_slice (P := P) (w := w) l 0 hi.toNat none (some b) o t x ho hu hx rfl ⟨.i64, by rw [hb, Int.toNat_of_nonneg h1]⟩ (by omega) (by omega)
  simpa using this
theorem run_str_at (l : Str) (i : Int) (c : UInt8) (o : Oper) (t : TypeId) (x y : Operand) (ho : o.op = .index t x y) (hu : (P.underlying t matches some .string) = true) (hx : evo n f x = vstr l) (hy : evo n f y = .int .i64 i)
    (h0 : decide (0 ≤ i) = true) (hc : l[i.toNat]? = some c) : (execOp (evo n f) o).run P w = .ok (.value (.int .u8 c.toNat)) w :=
  run_str_index l i .i64 c o t x y ho hu hx hy (of_decide_eq_true h0) hc
theorem run_str_add_t (l k : Str) (o : Oper) (t t' : TypeId) (x y : Operand) (ho : o.op = .binOp .add t x y t') (hx : evo n f x = vstr l) (hy : evo n f y = vstr k) (hb : decide ((l ++ k).length ≤ 9223372036854775807) = true) :
    (execOp (evo n f) o).run P w = .ok (.value (vstr (l ++ k))) w :=
  run_str_add l k o t t' x y ho hx hy (by have := of_decide_eq_true hb; rw [List.length_append] at this; exact this)
theorem wl_index_rs {α : Type} {T : Ty α} {A : Option Addr} {xs : List α} {c : Nat} {x : α} {o : Oper} {rest : List Oper} {t : TypeId} {X Y : Operand} {k : IntKind} {i : Int} (hrs : RS T m (.slice A xs.length c) xs)
    (ho : o.op = .indexAddr t X Y) (hg : guardO ops n f o = some true) (hsz : elemSize P t = some T.size) (hX : evo n f X = .slice A xs.length c) (hY : evo n f Y = .int k i) (h0 : decide (0 ≤ i) = true) (hi : xs[i.toNat]? = some x)
    (kk : ∀ b off cs, T.R m x cs → At m ⟨b, off, none⟩ cs → wpList P ops Q rest (actd n dl (updo f o.dst (.pointer (some ⟨b, off, none⟩)))) w) : wpList P ops Q (o :: rest) (actd n dl f) w := by
  obtain ⟨b, off, cs, hR, hA, hr⟩ := run_index_rs (P := P) hrs.get rfl ho hsz (of_decide_eq_true h0) hi
  exact wl_val hg (hr n f w hX hY) (kk b off cs hR hA)

theorem RP.to {g : World} {m m' : Mem} {F L : List Asr} {p : Pan} {c : List PanicEntry} {w' : World} (hl : m.le m') (hs : F.Sublist L) (h : RP g m' L p c w') : RP g m F p c w' := by
  obtain ⟨e, m1, h1, h2⟩ := h
  exact ⟨e, m1, hl.trans h1, h2.sub hs⟩
end
end Go.Proofs.YtfnaahkgegfbnaaGreatDoor
