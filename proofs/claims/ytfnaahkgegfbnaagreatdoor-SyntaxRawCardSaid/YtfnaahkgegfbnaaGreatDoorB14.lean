/- Short words for the walks: values, and the laws with their closed facts filled in by themselves. -/
import Derived.Test.YtfnaahkgegfbnaaGreatDoorB12
import Derived.Test.YtfnaahkgegfbnaaGreatDoorB13
set_option linter.unusedVariables false
set_option linter.unusedSimpArgs false
namespace Go.Proofs.YtfnaahkgegfbnaaGreatDoor

abbrev vi (x : Int) : Value := .int .i64 x
abbrev vu (x : Int) : Value := .int .u8 x
abbrev vb (x : Bool) : Value := .bool x
abbrev vp (b n : Nat) : Value := .pointer (some ⟨b, n, none⟩)
abbrev ad (b n : Nat) : Addr := ⟨b, n, none⟩
abbrev vn : Value := .slice none 0 0
abbrev vs {α : Type} (A : Option Addr) (x : List α) (c : Nat) : Value := .slice A x.length c
abbrev va (cs : List Value) : Value := .agg ⟨cs⟩
abbrev vt (cs : List Value) : Value := .tuple ⟨cs⟩
abbrev vf (f : Nat) (a b : List Value) : Value := .func (.func f) ⟨a⟩ ⟨b⟩
abbrev oo (b : Nat) (t : TypeId) (cs : List Value) : Asr := .obj b t cs
abbrev rw_ {α : Type} (e : TypeId) (s : Nat) (A : Option Addr) (x : List α) (c : Nat) (cs : List Value) : Asr := .row e s (.slice A x.length c) x.length cs
abbrev rn (e : TypeId) (s : Nat) : Asr := .row e s (.slice none 0 0) 0 []
abbrev st (x : Int) (y : Int) : Bool := decide (x < y)

section
variable {P : Program} {ops : Array Oper} {Q : Exit → Act → World → Prop} {n : Nat} {f : Fr} {w g : World} {m : Mem} {L : List Asr} {dl : List Deferred} {o : Oper} {rest l : List Oper}

/-! ### Control -/
theorem sq {x y : Code} {a : Act} (h : x.wp P (Exit.then (y.wp P Q) Q) a w) : (Code.seq x y).wp P Q a w := wp_seq h
theorem rg {id : Nat} {a : Act} (h : wpList P l.toArray Q l a w) : (Code.region id l.toArray false).wp P Q a w := wp_region_lit h
theorem qr {id : Nat} {y : Code} {a : Act} (h : wpList P l.toArray (Exit.then (y.wp P Q) Q) l a w) : (Code.seq (Code.region id l.toArray false) y).wp P Q a w := wp_seq (wp_region_lit h)
theorem nl (h : Q .normal (actd n dl f) w) : wpList P ops Q [] (actd n dl f) w := h
theorem tn {N : Act → World → Prop} {a : Act} (h : N a w) : Exit.then N Q .normal a w := h
theorem nt {N : Act → World → Prop} (h : N (actd n dl f) w) : wpList P ops (Exit.then N Q) [] (actd n dl f) w := h
theorem bn {id : Nat} {a : Act} (h : Q .normal a w) : Exit.inBlock id Q .normal a w := h
theorem tx {N : Act → World → Prop} {a : Act} {id : Nat} (h : Q (.exit id) a w) : Exit.then N Q (.exit id) a w := h
theorem bx {a : Act} {id : Nat} (h : Q .normal a w) : Exit.inBlock id Q (.exit id) a w := block_x h
theorem bo {a : Act} {id id' : Nat} (h : Q (.exit id) a w) (hne : Nat.beq id id' = false := by rfl) : Exit.inBlock id' Q (.exit id) a w := block_o hne h
theorem tr {N : Act → World → Prop} {a : Act} (h : Q .ret a w) : Exit.then N Q .ret a w := h
theorem br {a : Act} {id : Nat} (h : Q .ret a w) : Exit.inBlock id Q .ret a w := h
theorem tp {N : Act → World → Prop} {a : Act} {c : List PanicEntry} (h : Q (.panic c) a w) : Exit.then N Q (.panic c) a w := h
theorem bp {a : Act} {id : Nat} {c : List PanicEntry} (h : Q (.panic c) a w) : Exit.inBlock id Q (.panic c) a w := h
theorem bk {id : Nat} {c : Code} {a : Act} (h : c.wp P (Exit.inBlock id Q) a w) : (Code.block id c).wp P Q a w := wp_block h
theorem ct {c : Operand} {x y : Code} (h : x.wp P Q (actd n dl f) w) (hc : evo n f c = .bool true := by kernel_rfl) : (Code.cond c x y).wp P Q (actd n dl f) w := wc_true hc h
theorem cf {c : Operand} {x y : Code} (h : y.wp P Q (actd n dl f) w) (hc : evo n f c = .bool false := by kernel_rfl) : (Code.cond c x y).wp P Q (actd n dl f) w := wc_false hc h
/-- ways part: what the written function answers parts too -/
theorem cn {α : Type} {c : Operand} {x y : Code} {t : Bool} {X Y : Option α} {r : α} (h : (if t = true then X else Y) = some r) (ht : X = some r → x.wp P Q (actd n dl f) w) (hf : Y = some r → y.wp P Q (actd n dl f) w)
    (hc : evo n f c = .bool t := by kernel_rfl) : (Code.cond c x y).wp P Q (actd n dl f) w :=
  wc_cond hc (fun e => ht (by rw [if_pos e] at h; exact h)) (fun e => hf (by rw [if_neg (ne_true_of_eq_false e)] at h; exact h))
theorem sp {α : Type} {t : Bool} {X Y : Option α} {r : α} (h : (if t = true then X else Y) = some r) : (t = true ∧ X = some r) ∨ (t = false ∧ Y = some r) := by
  cases t
  · exact .inr ⟨rfl, by simpa using h⟩
  · exact .inl ⟨rfl, by simpa using h⟩

/-! ### Segments -/
theorem sg (c : Nat) (us : List (Nat × Value)) (rs : List (Addr × Value)) (hc : AllC w rs) (k : wpList P ops Q (l.drop c) (actd n dl (upds f us)) w)
    (h : segRun P ops n c l f rs = some (us, rs) := by kernel_rfl) : wpList P ops Q l (actd n dl f) w := wl_seg c us rs h hc k
theorem s0 (c : Nat) (us : List (Nat × Value)) (k : wpList P ops Q (l.drop c) (actd n dl (upds f us)) w)
    (h : segRun P ops n c l f [] = some (us, []) := by kernel_rfl) : wpList P ops Q l (actd n dl f) w := wl_seg c us [] h trivial k
theorem Rd.c (h : Rd m L w) (i : Nat) {b : Nat} {t : TypeId} {cs : List Value} {off : Nat} {v : Value} (hi : L[i]? = some (.obj b t cs) := by rfl) (hc : cs[off]? = some v := by rfl) :
    w.cell? ⟨b, off, none⟩ = some v := h.cell hi hc
theorem St.c (h : St g m L w) (i : Nat) {b : Nat} {t : TypeId} {cs : List Value} {off : Nat} {v : Value} (hi : L[i]? = some (.obj b t cs) := by rfl) (hc : cs[off]? = some v := by rfl) :
    w.cell? ⟨b, off, none⟩ = some v := h.rd.cell hi hc
theorem St.e (h : St g m L w) {b off : Nat} {cs : List Value} (k : At m ⟨b, off, none⟩ cs) (j : Nat) {v : Value} (hj : cs[j]? = some v := by rfl) : w.cell? ⟨b, off + j, none⟩ = some v := At.cell h.rd k hj
theorem Rd.e (h : Rd m L w) {b off : Nat} {cs : List Value} (k : At m ⟨b, off, none⟩ cs) (j : Nat) {v : Value} (hj : cs[j]? = some v := by rfl) : w.cell? ⟨b, off + j, none⟩ = some v := At.cell h k hj

/-! ### Operations whose value needs a proof -/
theorem vl {v : Value} (h : (execOp (evo n f) o).run P w = .ok (.value v) w) (k : wpList P ops Q rest (actd n dl (updo f o.dst v)) w) (hg : guardO ops n f o = some true := by kernel_rfl) :
    wpList P ops Q (o :: rest) (actd n dl f) w := wl_val hg h k
section
variable {t t' : TypeId} {x y a b : Operand}
theorem re (l k : Str) (ho : o.op = .binOp .eql t x y t' := by rfl) (hx : evo n f x = vstr l := by kernel_rfl) (hy : evo n f y = vstr k := by kernel_rfl) : (execOp (evo n f) o).run P w = .ok (.value (.bool (l == k))) w :=
  run_str_eql l k o t t' x y ho hx hy
theorem rne (l k : Str) (ho : o.op = .binOp .neq t x y t' := by rfl) (hx : evo n f x = vstr l := by kernel_rfl) (hy : evo n f y = vstr k := by kernel_rfl) : (execOp (evo n f) o).run P w = .ok (.value (.bool (!(l == k)))) w :=
  run_str_neq l k o t t' x y ho hx hy
theorem rad {l k : Str} (hb : decide ((l ++ k).length ≤ 9223372036854775807) = true) (ho : o.op = .binOp .add t x y t' := by rfl) (hx : evo n f x = vstr l := by kernel_rfl) (hy : evo n f y = vstr k := by kernel_rfl) :
    (execOp (evo n f) o).run P w = .ok (.value (vstr (l ++ k))) w := run_str_add_t l k o t t' x y ho hx hy hb
theorem rrm (k : IntKind) (p : Int) {q : Int} (hb : (!(q == 0)) = true) (ho : o.op = .binOp .rem t x y t' := by rfl) (hx : evo n f x = .int k p := by kernel_rfl) (hy : evo n f y = .int k q := by kernel_rfl) :
    (execOp (evo n f) o).run P w = .ok (.value (.int k (p.tmod q))) w := run_rem k p q o t t' x y ho hx hy hb
theorem rer {v : Value} {e : Bool} (hv : ErrV v e) (ho : o.op = .binOp .neq t x (.const .nilIface) t' := by rfl) (hx : evo n f x = v := by kernel_rfl) (ht : P.underlying t = some (.interface (P.methodsAt t)) := by kernel_rfl) :
    (execOp (evo n f) o).run P w = .ok (.value (.bool e)) w := run_err_neq hv o t t' x ho hx ht
theorem rae (e : Bool) (xs ys : List Value) (ho : o.op = .binOp .eql t x y t' := by rfl) (hx : evo n f x = va xs := by kernel_rfl) (hy : evo n f y = va ys := by kernel_rfl) (hm : P.eqGuardType P.depth t = false := by kernel_rfl)
    (hb : eqB P 10000 t (va xs) (va ys) = some e := by kernel_rfl) : (execOp (evo n f) o).run P w = .ok (.value (.bool e)) w := run_agg_eql e ⟨xs⟩ ⟨ys⟩ o t t' x y ho hx hy hm hb
theorem ran (e : Bool) (xs ys : List Value) (ho : o.op = .binOp .neq t x y t' := by rfl) (hx : evo n f x = va xs := by kernel_rfl) (hy : evo n f y = va ys := by kernel_rfl) (hm : P.eqGuardType P.depth t = false := by kernel_rfl)
    (hb : eqB P 10000 t (va xs) (va ys) = some e := by kernel_rfl) : (execOp (evo n f) o).run P w = .ok (.value (.bool (!e))) w := run_agg_neq e ⟨xs⟩ ⟨ys⟩ o t t' x y ho hx hy hm hb
theorem ria {l : Str} {i : Int} {c : UInt8} (h0 : decide (0 ≤ i) = true) (hc : l[i.toNat]? = some c) (ho : o.op = .index t x y := by rfl) (hu : (P.underlying t matches some .string) = true := by kernel_rfl) (hx : evo n f x = vstr l := by kernel_rfl)
    (hy : evo n f y = .int .i64 i := by kernel_rfl) : (execOp (evo n f) o).run P w = .ok (.value (.int .u8 c.toNat)) w := run_str_at l i c o t x y ho hu hx hy h0 hc
theorem ras (e : TypeId) (k : IntKind) (xs : List Str) {i : Int} {s : Str} (h0 : decide (0 ≤ i) = true) (hc : xs[i.toNat]? = some s) (ho : o.op = .index t x y := by rfl) (hu : P.underlying t = some (.array xs.length e) := by kernel_rfl)
    (he : (P.underlying e matches some .string) = true := by kernel_rfl) (hs : (P.info? e).map (·.size) = some 1 := by kernel_rfl) (hx : evo n f x = .agg ⟨xs.map vstr⟩ := by kernel_rfl) (hy : evo n f y = .int k i := by kernel_rfl) :
    (execOp (evo n f) o).run P w = .ok (.value (vstr s)) w := run_arr_str o t e x y ho hu he rfl hs hx hy h0 hc
theorem rs2 {l : Str} {lo hi : Int} (h : (decide (0 ≤ lo) && decide (lo ≤ hi) && decide (hi ≤ l.length)) = true) (ho : o.op = .slice t x (some a) (some b) none := by rfl) (hu : (P.underlying t matches some .string) = true := by kernel_rfl)
    (hx : evo n f x = vstr l := by kernel_rfl) (ha : evo n f a = .int .i64 lo := by kernel_rfl) (hb : evo n f b = .int .i64 hi := by kernel_rfl) :
    (execOp (evo n f) o).run P w = .ok (.value (vstr ((l.drop lo.toNat).take (hi.toNat - lo.toNat)))) w := run_str_slice2 l lo hi o t x a b ho hu hx ha hb h
theorem rs1 {l : Str} {lo : Int} (h : (decide (0 ≤ lo) && decide (lo ≤ l.length)) = true) (ho : o.op = .slice t x (some a) none none := by rfl) (hu : (P.underlying t matches some .string) = true := by kernel_rfl)
    (hx : evo n f x = vstr l := by kernel_rfl) (ha : evo n f a = .int .i64 lo := by kernel_rfl) :
    (execOp (evo n f) o).run P w = .ok (.value (vstr (l.drop lo.toNat))) w := run_str_slice1 l lo o t x a ho hu hx ha h
theorem rs0 {l : Str} {hi : Int} (h : (decide (0 ≤ hi) && decide (hi ≤ l.length)) = true) (ho : o.op = .slice t x none (some b) none := by rfl) (hu : (P.underlying t matches some .string) = true := by kernel_rfl)
    (hx : evo n f x = vstr l := by kernel_rfl) (hb : evo n f b = .int .i64 hi := by kernel_rfl) :
    (execOp (evo n f) o).run P w = .ok (.value (vstr (l.take hi.toNat))) w := run_str_slice0 l hi o t x b ho hu hx hb h
theorem raa (e : TypeId) (k : IntKind) (xs : List Int) (b : Nat) {i z : Int} {X Y : Operand} (h0 : decide (0 ≤ i) = true) (hz : xs[i.toNat]? = some z) (ho : o.op = .indexAddr t X Y := by rfl) (hu : P.underlying t = some (.array xs.length e) := by kernel_rfl)
    (hs : (P.info? e).map (·.size) = some 1 := by kernel_rfl) (hX : evo n f X = vp b 0 := by kernel_rfl) (hY : evo n f Y = .int k i := by kernel_rfl) :
    (execOp (evo n f) o).run P w = .ok (.value (.pointer (some ⟨b, i.toNat, none⟩))) w := run_arr_addr ho hu hs rfl hX hY h0 hz
end
/-- an element of a sealed slice: its place -/
structure Elt {α : Type} (P : Program) (m : Mem) (T : Ty α) (A : Option Addr) (xs : List α) (c : Nat) (i : Int) (b off : Nat) (cs : List Value) : Prop where
  run : ∀ {o : Oper} {t : TypeId} {X Y : Operand} {k : IntKind} {n : Nat} {f : Fr} {w : World}, o.op = .indexAddr t X Y → elemSize P t = some T.size → evo n f X = .slice A xs.length c → evo n f Y = .int k i →
      (execOp (evo n f) o).run P w = .ok (.value (.pointer (some ⟨b, off, none⟩))) w
theorem ix {α β : Type} {xs : List α} {i : Int} {F : α → Option β} {r : β} (h : chk (decide ((0 : Int) ≤ i)) ((xs[Int.toNat i]?).bind F) = some r) : ∃ x, (decide ((0 : Int) ≤ i) = true ∧ xs[Int.toNat i]? = some x) ∧ F x = some r := by
  obtain ⟨hb, h⟩ := chk_some h
  obtain ⟨x, hx, h⟩ := Option.bind_eq_some_iff.1 h
  exact ⟨x, ⟨hb, hx⟩, h⟩
theorem bs {α β : Type} {x : Option α} {F : α → Option β} {r : β} (h : x.bind F = some r) : ∃ a, x = some a ∧ F a = some r := Option.bind_eq_some_iff.1 h
theorem RS.ix {α : Type} {T : Ty α} {A : Option Addr} {xs : List α} {c : Nat} (hrs : RS T m (.slice A xs.length c) xs) {i : Int} {x : α} (h : decide (0 ≤ i) = true ∧ xs[i.toNat]? = some x) :
    ∃ b off cs, T.R m x cs ∧ At m ⟨b, off, none⟩ cs ∧ Elt P m T A xs c i b off cs := by
  obtain ⟨b, off, cs, h1, h2, h3⟩ := index_rs (P := P) hrs h.1 h.2
  exact ⟨b, off, cs, h1, h2, ⟨h3⟩⟩
theorem Elt.r {α : Type} {T : Ty α} {A : Option Addr} {xs : List α} {c : Nat} {i : Int} {b off : Nat} {cs : List Value} (h : Elt P m T A xs c i b off cs) (k : IntKind) {t : TypeId} {X Y : Operand}
    (ho : o.op = .indexAddr t X Y := by rfl) (hs : elemSize P t = some T.size := by kernel_rfl) (hX : evo n f X = .slice A xs.length c := by kernel_rfl) (hY : evo n f Y = .int k i := by kernel_rfl) :
    (execOp (evo n f) o).run P w = .ok (.value (.pointer (some ⟨b, off, none⟩))) w := h.run ho hs hX hY
structure Sub {α : Type} (P : Program) (m : Mem) (T : Ty α) (A : Option Addr) (xs : List α) (c : Nat) (lo : Int) (A' : Option Addr) (c' : Nat) : Prop where
  run : ∀ {o : Oper} {t : TypeId} {X Y : Operand} {k : IntKind} {n : Nat} {f : Fr} {w : World}, o.op = .slice t X (some Y) none none → elemSize P t = some T.size →
      evo n f X = .slice A xs.length c → evo n f Y = .int k lo → (execOp (evo n f) o).run P w = .ok (.value (.slice A' (xs.drop lo.toNat).length c')) w
theorem RS.sub {α : Type} {T : Ty α} {A : Option Addr} {xs : List α} {c : Nat} (hrs : RS T m (.slice A xs.length c) xs) {lo : Int} (hb : (decide (0 ≤ lo) && decide (lo ≤ xs.length)) = true) :
    ∃ A' c', RS T m (.slice A' (xs.drop lo.toNat).length c') (xs.drop lo.toNat) ∧ Sub P m T A xs c lo A' c' := by
  obtain ⟨A', c', h1, h2⟩ := slice_rs (P := P) hrs hb
  exact ⟨A', c', h1, ⟨h2⟩⟩
theorem Sub.r {α : Type} {T : Ty α} {A : Option Addr} {xs : List α} {c : Nat} {lo : Int} {A' : Option Addr} {c' : Nat} (h : Sub P m T A xs c lo A' c') (k : IntKind) {t : TypeId} {X Y : Operand}
    (ho : o.op = .slice t X (some Y) none none := by rfl) (hs : elemSize P t = some T.size := by kernel_rfl) (hX : evo n f X = .slice A xs.length c := by kernel_rfl) (hY : evo n f Y = .int k lo := by kernel_rfl) :
    (execOp (evo n f) o).run P w = .ok (.value (.slice A' (xs.drop lo.toNat).length c')) w := h.run ho hs hX hY

/-! ### Operations that write, allocate, call -/
theorem al (cs : List Value) {t : TypeId} (hst : St g m L w) (k : ∀ b w1, St g m (.obj b t cs :: L) w1 → wpList P ops Q rest (actd n dl (updo f o.dst (vp b 0))) w1)
    (ho : o.op = .alloc t := by rfl) (hg : guardO ops n f o = some true := by kernel_rfl) (hz : zeroCs P t = some cs := by kernel_rfl) : wpList P ops Q (o :: rest) (actd n dl f) w := wl_alloc ho hg hz hst k
theorem bo_ (cs : List Value) {t : TypeId} {x : Operand} (hst : St g m L w) (k : ∀ b w1, St g m (.obj b t cs :: L) w1 → wpList P ops Q rest (actd n dl (updo f o.dst (vp b 0))) w1)
    (ho : o.op = .box t x := by rfl) (hg : guardO ops n f o = some true := by kernel_rfl) (hx : (evo n f x).cells.toList = cs := by kernel_rfl) : wpList P ops Q (o :: rest) (actd n dl f) w := wl_box ho hg hx hst k
theorem li (e : TypeId) (j : Nat) (cs : List Value) {t : TypeId} {parts : Array (Nat × Operand)} (hst : St g m L w) (k : ∀ b w1, St g m (.obj b e cs :: L) w1 → wpList P ops Q rest (actd n dl (updo f o.dst (.slice (some ⟨b, 0, none⟩) j j))) w1)
    (ho : o.op = .buildSlice t j parts := by rfl) (hg : guardO ops n f o = some true := by kernel_rfl)
    (hr : ∀ w : World, (execOp (evo n f) o).run P w = .ok (.value (.slice (some ⟨w.heap.size, 0, none⟩) j j)) (w.alloc (.cells ⟨cs⟩ e (0, 0))) := by intro; kernel_rfl) : wpList P ops Q (o :: rest) (actd n dl f) w := wl_lit ho hg hr hst k
theorem cal {fid : FuncId} {A : Array Value} {B : Value → World → Prop} (hc : Calls P fid A w (fun e w' => ∃ v, e = .returned v ∧ B v w')) (k : ∀ v w1, B v w1 → wpList P ops Q rest (actd n dl (updo f o.dst v)) w1)
    (hg : guardO ops n f o = some true := by kernel_rfl) (hr : semO P (execOp (evo n f) o) [] = some (.enter fid A, [], []) := by kernel_rfl) : wpList P ops Q (o :: rest) (actd n dl f) w := wl_call_ok hc hg hr k
theorem cpa {fid : FuncId} {A : Array Value} {B : List PanicEntry → World → Prop} (hc : Calls P fid A w (fun e w' => ∃ c, e = .panicked c ∧ B c w')) (k : ∀ c w1, B c w1 → Q (.panic c) (actd n dl f) w1)
    (hg : guardO ops n f o = some true := by kernel_rfl) (hr : semO P (execOp (evo n f) o) [] = some (.enter fid A, [], []) := by kernel_rfl) : wpList P ops Q (o :: rest) (actd n dl f) w := wl_call_pan hc hg hr k
theorem pa {v : Value} (k : Q (.panic [{ v, recovered := false }]) (actd n dl f) w) (hg : guardO ops n f o = some true := by kernel_rfl) (hr : (execOp (evo n f) o).run P w = .halt (.panic v) w := by kernel_rfl) :
    wpList P ops Q (o :: rest) (actd n dl f) w := wl_panic hg hr k
theorem RP.p {m' : Mem} {F : List Asr} {p : Pan} {c : List PanicEntry} {w' : World} (h : RP g m' L p c w') (hl : m.le m') (n : Nat) (is : List Nat) (hp : picks n is L = some F := by kernel_rfl) : RP g m F p c w' := h.pick hl n is hp
theorem cro {xs : List Int} {A : Option Addr} {c : Nat} {e : TypeId} {cs : List Value} (h : Rd m L w) (i : Nat) (hrc : RC (TInt .u8) m xs cs) {src dst : TypeId} {x : Operand} (hi : L[i]? = some (.row e 1 (.slice A xs.length c) xs.length cs) := by rfl)
    (ho : o.op = .convert src dst x := by rfl) (hs : (match P.underlying src with | some (.slice e') => (P.underlying e' matches some (.int .u8)) | _ => false) = true := by kernel_rfl)
    (hd : (P.underlying dst matches some .string) = true := by kernel_rfl) (hx : evo n f x = .slice A xs.length c := by kernel_rfl) :
    (execOp (evo n f) o).run P w = .ok (.value (vstr (xs.map fun q => UInt8.ofNat q.toNat))) w := run_conv_row_t h hi hrc ho hs hd hx

/-! ### Ends, ways that meet -/
theorem wr {fn : Func} {R : Ending → World → Prop} (vs : List Value) (hR : R (.returned (oneOrTuple vs)) w) (h : semO P (resL n f fn.results.toList) [] = some (vs, [], []) := by kernel_rfl) : bodyPost P fn R .ret (act n f) w := wc_ret vs [] h trivial hR
theorem wrr {fn : Func} {R : Ending → World → Prop} (vs : List Value) (rs : List (Addr × Value)) (hc : AllC w rs) (hR : R (.returned (oneOrTuple vs)) w) (h : semO P (resL n f fn.results.toList) rs = some (vs, rs, []) := by kernel_rfl) : bodyPost P fn R .ret (act n f) w := wc_ret vs rs h hc hR
theorem we {fn : Func} {R : Ending → World → Prop} (vs : List Value) (hR : R (.returned (oneOrTuple vs)) w) (h : semO P (resL n f fn.results.toList) [] = some (vs, [], []) := by kernel_rfl) : bodyPost P fn R .normal (act n f) w := wc_end vs [] h trivial hR
theorem wer {fn : Func} {R : Ending → World → Prop} (vs : List Value) (rs : List (Addr × Value)) (hc : AllC w rs) (hR : R (.returned (oneOrTuple vs)) w) (h : semO P (resL n f fn.results.toList) rs = some (vs, rs, []) := by kernel_rfl) : bodyPost P fn R .normal (act n f) w := wc_end vs rs h hc hR
theorem wpn {fn : Func} {R : Ending → World → Prop} {c : List PanicEntry} (hR : R (.panicked c) w) : bodyPost P fn R (.panic c) (act n f) w := ⟨rfl, hR⟩
end
end Go.Proofs.YtfnaahkgegfbnaaGreatDoor
