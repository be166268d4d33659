/- Structs compared; what computes in a region that draws; package variables. -/
import Derived.Test.YtfnaahkgegfbnaaGreatDoorB8
import Derived.Laws.StructEq
import Derived.Lib.LaidTab
import Derived.Lib.ItoaNum
import Derived.Lib.Space
import Derived.Test.YtfnaahkgegfbnaaGreatDoorProg
set_option linter.unusedVariables false
set_option linter.unusedSimpArgs false
namespace Go.Proofs.YtfnaahkgegfbnaaGreatDoor

def partB (P : Program) (t : TypeId) (cs : Array Value) (off : Nat) : Option Value :=
  match P.underlying t with
  | some (.struct _) | some (.array _ _) => match P.info? t with | some i => some (.agg (cs.extract off (off + i.size))) | none => none
  | some _ => cs[off]?
  | none => none
def eqFieldsB (P : Program) (rec : TypeId → Value → Value → Option Bool) (xs ys : Array Value) : List Field → Option Bool
  | [] => some true
  | f :: fs => if f.name ≠ "_" then
      match partB P f.type xs f.offset, partB P f.type ys f.offset with
      | some a, some b => match rec f.type a b, eqFieldsB P rec xs ys fs with
        | some r, some s => some (r && s)
        | _, _ => none
      | _, _ => none
    else eqFieldsB P rec xs ys fs
def eqB (P : Program) : Nat → TypeId → Value → Value → Option Bool
  | 0, _, _, _ => none
  | d + 1, t, x, y => match P.underlying t, x, y with
    | some .bool, .bool a, .bool b => some (a == b)
    | some (.int _), .int k a, .int k' b => if k = k' then some (a == b) else none
    | some .string, .string a, .string b => some (a.data.toList == b.data.toList)
    | some (.struct fs), .agg xs, .agg ys => if P.stoodInHeld t then none else eqFieldsB P (eqB P d) xs ys fs.toList
    | _, _, _ => none

section
variable {P : Program} {ops : Array Oper} {Q : Exit → Act → World → Prop} {n : Nat} {f : Fr} {w g : World} {m : Mem} {L : List Asr} {dl : List Deferred}

theorem partB_run {t : TypeId} {cs : Array Value} {off : Nat} {v : Value} (h : partB P t cs off = some v) (w : World) : (part t cs off).run P w = .ok v w := by
  unfold partB at h
  split at h
  · rename_i fs hu
    split at h
    · rename_i i hi; cases h
      simp [part, isAgg, run_underlying hu, sizeOf, typeInfo, hi]
    · cases h
  · rename_i k e hu
    split at h
    · rename_i i hi; cases h
      simp [part, isAgg, run_underlying hu, sizeOf, typeInfo, hi]
    · cases h
  · rename_i d hu1 hu2 hu
    have : (isAgg t).run P w = .ok false w := by
      unfold isAgg
      simp only [Sem.run_bind, run_underlying hu, Result.andThen_ok]
      cases d <;> first | rfl | (exact absurd rfl (hu1 _)) | (exact absurd rfl (hu2 _ _))
    simp [part, this, h]
  · cases h

theorem eqFieldsB_run {d : Nat} (ih : ∀ t x y b, eqB P d t x y = some b → ∀ w, (Op.equalIn d t x y).run P w = .ok b w) (xs ys : Array Value) :
    ∀ (fs : List Field) (b : Bool), eqFieldsB P (eqB P d) xs ys fs = some b → ∀ w, (Op.eqFields d xs ys fs).run P w = .ok b w
  | [], b, h, w => by simp only [eqFieldsB, Option.some.injEq] at h; subst h; rfl
  | f :: fs, b, h, w => by
    simp only [eqFieldsB] at h
    simp only [Op.eqFields]
    split at h
    · rename_i hn
      rw [if_pos hn]
      split at h
      · rename_i a1 b1 h1 h2
        split at h
        · rename_i r s h3 h4
          simp only [Option.some.injEq] at h
          subst h
          simp only [Sem.run_bind, partB_run h1, partB_run h2, Result.andThen_ok, ih _ _ _ _ h3]
          cases r
          · simp
          · simp only [Bool.not_true, Bool.false_eq_true, if_false, Bool.true_and]
            exact eqFieldsB_run ih xs ys fs s h4 w
        · cases h
      · cases h
    · rename_i hn
      rw [if_neg hn]
      exact eqFieldsB_run ih xs ys fs b h w

theorem eqB_run : ∀ (d : Nat) (t : TypeId) (x y : Value) (b : Bool), eqB P d t x y = some b → ∀ w, (Op.equalIn d t x y).run P w = .ok b w
  | 0, t, x, y, b, h, w => by simp [eqB] at h
  | d + 1, t, x, y, b, h, w => by
    unfold eqB at h
    split at h
    · rename_i a1 b1 hu; cases h; exact run_equalIn_bool' w d t _ _ hu
    · rename_i k0 k a1 k' b1 hu
      split at h
      · rename_i e; subst e; cases h; exact run_equalIn_int w d t _ _ _ _ hu
      · cases h
    · rename_i a1 b1 hu
      cases h
      have := run_equalIn_string (P := P) w d t a1 b1 hu
      rw [this, Lib.toList_data, Lib.toList_data]
    · rename_i fs xs ys hu
      split at h
      · cases h
      · rename_i hs
        have hf : P.fieldsOf t = fs := by simp [Program.fieldsOf, hu]
        rw [run_equalIn_struct w d t xs ys (by rw [hf]; exact hu) (by simpa using hs), hf]
        exact eqFieldsB_run (fun t x y b h w => eqB_run d t x y b h w) xs ys fs.toList b h w
    · cases h

theorem run_agg_eql (b : Bool) (xs ys : Array Value) (o : Oper) (t t' : TypeId) (x y : Operand) (ho : o.op = .binOp .eql t x y t') (hx : evo n f x = .agg xs) (hy : evo n f y = .agg ys) (hm : P.eqGuardType P.depth t = false)
    (hb : eqB P 10000 t (.agg xs) (.agg ys) = some b) : (execOp (evo n f) o).run P w = .ok (.value (.bool b)) w := by
  simp only [execOp, ho, hx, hy, Sem.run_bind, run_eqGuard_agg w _ t _ _ xs ys hm, Result.andThen_ok, run_eql_struct, eqB_run _ _ _ _ _ hb, Sem.run_pure]
theorem run_agg_neq (b : Bool) (xs ys : Array Value) (o : Oper) (t t' : TypeId) (x y : Operand) (ho : o.op = .binOp .neq t x y t') (hx : evo n f x = .agg xs) (hy : evo n f y = .agg ys) (hm : P.eqGuardType P.depth t = false)
    (hb : eqB P 10000 t (.agg xs) (.agg ys) = some b) : (execOp (evo n f) o).run P w = .ok (.value (.bool (!b))) w := by
  simp only [execOp, ho, hx, hy, Sem.run_bind, run_eqGuard_agg w _ t _ _ xs ys hm, Result.andThen_ok, run_neq_struct, eqB_run _ _ _ _ _ hb, Sem.run_pure]

theorem wpG_take_val {q : Bool} {i : Nat} {o : Oper} {v : Value} {fuel : Nat} {S : World → Prop} {listed : Array Bool} (hQ : PQ Q) (hi : ops[i]? = some o) (hk : takeOk q ops listed i = true) (hg : guardO ops n f o = some true)
    (hS : S w) (hv : ∀ x, S x → (execOp (evo n f) o).run P x = .ok (.value v) x) (h : wpG P ops Q q fuel S (listed.setIfInBounds i true) (actd n dl (updo f o.dst v)) w) : wpG P ops Q q (fuel + 1) S listed (actd n dl f) w :=
  wpG_take hQ hi hk (.inl ⟨guardO_wanted hg, fun x hx => by rw [act_eval]; exact hv x hx⟩) hS h

/-- an element of a sealed slice: its place -/
theorem index_rs {α : Type} {T : Ty α} {A : Option Addr} {xs : List α} {c : Nat} (hrs : RS T m (.slice A xs.length c) xs) {i : Int} (h0 : decide (0 ≤ i) = true) {x : α} (hi : xs[i.toNat]? = some x) :
    ∃ b off cs, T.R m x cs ∧ At m ⟨b, off, none⟩ cs ∧ ∀ {o : Oper} {t : TypeId} {X Y : Operand} {k : IntKind} {n : Nat} {f : Fr} {w : World}, o.op = .indexAddr t X Y → elemSize P t = some T.size → evo n f X = .slice A xs.length c → evo n f Y = .int k i →
      (execOp (evo n f) o).run P w = .ok (.value (.pointer (some ⟨b, off, none⟩))) w := by
  obtain ⟨ad, cs, rfl, hr, hat⟩ := hrs.get _ x hi
  have h0 := of_decide_eq_true h0
  have hs := hat.1
  have hb : ad.add (i.toNat * T.size) = ⟨(ad.add (i.toNat * T.size)).block, (ad.add (i.toNat * T.size)).off, none⟩ := by
    revert hs
    generalize ad.add (i.toNat * T.size) = q
    intro hs
    cases q; simp at hs; subst hs; rfl
  refine ⟨(ad.add (i.toNat * T.size)).block, (ad.add (i.toNat * T.size)).off, cs, hr, by rw [← hb]; exact hat, fun {o t X Y k n f w} ho hsz hX hY => ?_⟩
  obtain ⟨b', off', cs', hr', hat', hrun⟩ := run_index_rs (P := P) hrs.get rfl ho hsz h0 hi (k := k)
  have h1 := hrun n f w hX hY
  have h2 : (execOp (evo n f) o).run P w = .ok (.value (.pointer (some (ad.add (i.toNat * T.size))))) w := by
    have hlt : i.toNat < xs.length := by
      rcases Nat.lt_or_ge i.toNat xs.length with h | h
      · exact h
      · rw [List.getElem?_eq_none h] at hi; cases hi
    have h3 : i < (xs.length : Int) := by omega
    unfold elemSize at hsz
    split at hsz
    · rename_i e hu
      cases hin : P.info? e with
      | none => simp [hin] at hsz
      | some inf =>
        simp only [hin, Option.map_some, Option.some.injEq] at hsz
        simp [execOp, ho, hX, hY, Instr.indexAt, asIntOf, run_underlying hu, sizeOf, typeInfo, hin, hsz, h0, h3]
    · cases hsz
  rw [h2, hb]

/-- an element of an array of strings, by value -/
theorem run_arr_str {xs : List Str} {i : Int} {s : Str} (o : Oper) (t e : TypeId) (x y : Operand) {k : IntKind} {l : Nat} (ho : o.op = .index t x y) (hu : P.underlying t = some (.array l e)) (he : (P.underlying e matches some .string) = true) (hl : l = xs.length) (hs : (P.info? e).map (·.size) = some 1)
    (hx : evo n f x = .agg ⟨xs.map vstr⟩) (hy : evo n f y = .int k i) (h0 : decide (0 ≤ i) = true) (hc : xs[i.toNat]? = some s) : (execOp (evo n f) o).run P w = .ok (.value (vstr s)) w := by
  have h0 := of_decide_eq_true h0
  subst hl
  have he' : P.underlying e = some .string := by
    split at he
    · assumption
    · cases he
  have hlt : i.toNat < xs.length := by
    rcases Nat.lt_or_ge i.toNat xs.length with h | h
    · exact h
    · rw [List.getElem?_eq_none h] at hc; cases hc
  have h3 : i < (xs.length : Int) := by omega
  cases hin : P.info? e with
  | none => simp [hin] at hs
  | some inf =>
    simp only [hin, Option.map_some, Option.some.injEq] at hs
    have hq : (⟨xs.map vstr⟩ : Array Value)[i.toNat]? = some (vstr s) := by
      simp only [List.getElem?_toArray, List.getElem?_map, hc, Option.map_some]
    have hq2 : xs[i.toNat] = s := by rw [List.getElem?_eq_getElem hlt] at hc; cases hc; rfl
    have hag : (isAgg e).run P w = .ok false w := by simp [isAgg, run_underlying he']
    simp [execOp, ho, hx, hy, Instr.index, asIntOf, run_underlying hu, h0, h3, sizeOf, typeInfo, hin, hs, part, hag, hq, hlt, hq2]
end

/-! ### package variables -/
def namesR : List Str := [[], [112, 97, 114, 101, 110, 116], [97, 110, 99, 101, 115, 116, 111, 114], [115, 105, 98, 108, 105, 110, 103], [98, 101, 102, 111, 114, 101], [108, 105, 110, 107]]
def namesA : List Str := [[], [109, 97, 116, 99, 104, 101, 115], [116, 114, 97, 99, 101, 115], [101, 115, 116, 105, 109, 97, 116, 101], [115, 117, 109], [108, 101, 97, 115, 116], [103, 114, 101, 97, 116, 101, 115, 116], [113, 117, 97, 110, 116, 105, 108, 101], [100, 105, 115, 116, 105, 110, 99, 116]]
def namesT : List Str := [[123], [40], [46]]
def namesC : List Str := [[125], [41], [44], [123], [46]]
def GlobAt (m : Mem) (b : Nat) (xs : List Str) : Prop := ∃ v, At m ⟨b, 0, none⟩ [v] ∧ RS TStr m v xs
theorem GlobAt.mono {m m' : Mem} (h : m.le m') {b : Nat} {xs : List Str} (k : GlobAt m b xs) : GlobAt m' b xs := by
  obtain ⟨v, h1, h2⟩ := k; exact ⟨v, h1.mono h, h2.mono h⟩
structure Glob (m : Mem) : Prop where
  r : GlobAt m 0 namesR
  a : GlobAt m 2 namesA
  t : GlobAt m 4 namesT
  c : GlobAt m 5 namesC
  p : ∀ w : World, (∀ b o, m b = some o → w.heap[b]? = some o) → Lib.TabIs Tryz.prog w "internal/strconv.uint64pow10" .u64 Lib.pow10Tab
  s : ∀ w : World, (∀ b o, m b = some o → w.heap[b]? = some o) → Lib.TabIs Tryz.prog w "strings.asciiSpace" .u8 Lib.asciiSpaceTab
theorem Glob.mono {m m' : Mem} (h : m.le m') (k : Glob m) : Glob m' := ⟨k.r.mono h, k.a.mono h, k.t.mono h, k.c.mono h, fun w hw => k.p w fun b o hb => hw b o (h b o hb), fun w hw => k.s w fun b o hb => hw b o (h b o hb)⟩
end Go.Proofs.YtfnaahkgegfbnaaGreatDoor
