/- Elements of slices; rows of bytes and strings; the plain types. -/
import Derived.Test.YtfnaahkgegfbnaaGreatDoorB5
import Derived.Laws.BytesArg
set_option linter.unusedVariables false
set_option linter.unusedSimpArgs false
namespace Go.Proofs.YtfnaahkgegfbnaaGreatDoor

def TInt (k : IntKind) : Ty Int := { size := 1, R := fun _ x cs => cs = [.int k x], mono := fun _ h => h, len := fun h => (by subst h; rfl), one := fun h v hv => (by subst h; simp at hv; subst hv; rfl) }
def TBool : Ty Bool := { size := 1, R := fun _ x cs => cs = [.bool x], mono := fun _ h => h, len := fun h => (by subst h; rfl), one := fun h v hv => (by subst h; simp at hv; subst hv; rfl) }
def TStr : Ty Str := { size := 1, R := fun _ x cs => cs = [vstr x], mono := fun _ h => h, len := fun h => (by subst h; rfl), one := fun h v hv => (by subst h; simp at hv; subst hv; rfl) }
/-- a slice as a part of something -/
def TSl {α : Type} (T : Ty α) : Ty (List α) := { size := 1, R := fun m x cs => ∃ v, cs = [v] ∧ RS T m v x, mono := fun h k => (by obtain ⟨v, e, k⟩ := k; exact ⟨v, e, k.mono h⟩), len := fun k => (by obtain ⟨v, e, _⟩ := k; subst e; rfl), one := fun k u hu => (by obtain ⟨v, e, k⟩ := k; subst e; simp at hu; subst hu; obtain ⟨A, c, rfl, _⟩ := k; rfl) }

theorem RC_int {k : IntKind} {m : Mem} {xs : List Int} {cs : List Value} (h : RC (TInt k) m xs cs) : cs = xs.map (Value.int k) := by
  obtain ⟨hl, hc⟩ := h
  apply List.ext_getElem?
  intro i
  simp only [TInt, Nat.mul_one] at hl hc
  rw [List.getElem?_map]
  cases hx : xs[i]? with
  | none =>
    have : xs.length ≤ i := by simpa using hx
    rw [List.getElem?_eq_none (by omega)]; rfl
  | some x =>
    have h1 := hc i x hx
    have h2 : ((cs.drop i).take 1)[0]? = some (.int k x) := by rw [h1]; rfl
    rw [List.getElem?_take, if_pos (by omega), List.getElem?_drop] at h2
    simpa using h2

section
variable {P : Program} {ops : Array Oper} {Q : Exit → Act → World → Prop} {n : Nat} {f : Fr} {w g : World} {m : Mem} {L : List Asr} {dl : List Deferred}

def elemSize (P : Program) (t : TypeId) : Option Nat := match P.underlying t with | some (.slice e) => (P.info? e).map (·.size) | _ => none

def zeroByte (P : Program) (e : TypeId) : Bool := match P.info? e with | some i => (match i.zero with | some (.int .u8 0) => true | _ => false) | none => false

theorem At.cell (h : Rd m L w) {b off : Nat} {cs : List Value} (k : At m ⟨b, off, none⟩ cs) {j : Nat} {v : Value} (hj : cs[j]? = some v) : w.cell? ⟨b, off + j, none⟩ = some v := by
  have := h.at_ k hj
  rwa [addr_add _ _ rfl] at this

theorem run_index_rs {α : Type} {T : Ty α} {A : Option Addr} {xs : List α} {len c : Nat} (hx : ∀ i x, xs[i]? = some x → ∃ ad cs, A = some ad ∧ T.R m x cs ∧ At m (ad.add (i * T.size)) cs) (hlen : len = xs.length)
    {o : Oper} {t : TypeId} {X Y : Operand} (ho : o.op = .indexAddr t X Y) (hsz : elemSize P t = some T.size) {k : IntKind} {i : Int} (h0 : 0 ≤ i) {x : α} (hi : xs[i.toNat]? = some x) :
    ∃ b off cs, T.R m x cs ∧ At m ⟨b, off, none⟩ cs ∧ ∀ (n : Nat) (f : Fr) (w : World), evo n f X = .slice A len c → evo n f Y = .int k i → (execOp (evo n f) o).run P w = .ok (.value (.pointer (some ⟨b, off, none⟩))) w := by
  subst hlen
  obtain ⟨ad, cs, rfl, hr, hat⟩ := hx _ x hi
  have hs := hat.1
  have hlt : i.toNat < xs.length := by
    rcases Nat.lt_or_ge i.toNat xs.length with h | h
    · exact h
    · rw [List.getElem?_eq_none h] at hi; cases hi
  have hb : ad.add (i.toNat * T.size) = ⟨(ad.add (i.toNat * T.size)).block, (ad.add (i.toNat * T.size)).off, none⟩ := by
    revert hs
    generalize ad.add (i.toNat * T.size) = q
    intro hs
    cases q; simp at hs; subst hs; rfl
  refine ⟨(ad.add (i.toNat * T.size)).block, (ad.add (i.toNat * T.size)).off, cs, hr, by rw [← hb]; exact hat, fun n f w hX hY => ?_⟩
  rw [← hb]
  unfold elemSize at hsz
  split at hsz
  · rename_i e hu
    cases hin : P.info? e with
    | none => simp [hin] at hsz
    | some inf =>
      simp only [hin, Option.map_some, Option.some.injEq] at hsz
      have h3 : i < (xs.length : Int) := by omega
      simp [execOp, ho, hX, hY, Instr.indexAt, asIntOf, run_underlying hu, sizeOf, typeInfo, hin, hsz, h0, h3]
  · cases hsz

/-- an index out of range is seen at the list -/
theorem wl_append_str {o : Oper} {rest : List Oper} {t u e : TypeId} {s x : Operand} {A : Option Addr} {k c i : Nat} {xs : List Int} {l : Str}
    (ho : o.op = .call { callee := .builtin .append, args := #[s, x], argTypes := #[t, u] }) (hg : guardO ops n f o = some true) (hfit : rowFits P t e 1 1 = true) (hu : (P.underlying u matches some .string) = true) (hz : zeroByte P e = true)
    (hs : evo n f s = .slice A k c) (hx : evo n f x = vstr l) (hst : St g m L w) (hi : L[i]? = some (.row e 1 (.slice A k c) k (xs.map (.int .u8))))
    (hb : k + l.length ≤ 140737488355328)
    (kk : ∀ A1 c1 w1, St g m (L.set i (.row e 1 (.slice A1 (k + l.length) c1) (k + l.length) ((xs ++ l.map (fun b => (b.toNat : Int))).map (.int .u8)))) w1 → wpList P ops Q rest (actd n dl (updo f o.dst (.slice A1 (k + l.length) c1))) w1) :
    wpList P ops Q (o :: rest) (actd n dl f) w := by
  have hu' : P.underlying u = some .string := by
    split at hu
    · assumption
    · cases hu
  obtain ⟨hut, inf, z, hin, hzz, h2, h3, h4, h5⟩ := rowFits_spec hfit
  have hz' : inf.zero = some (.int .u8 0) := by
    unfold zeroByte at hz
    simp only [hin] at hz
    split at hz
    · assumption
    · cases hz
  have hown : w.ownsRow 0 e 1 (.slice A k c) k (xs.map (.int .u8)) := hst.own _ (List.mem_of_getElem? hi)
  have hbs : k + (⟨l.toArray⟩ : ByteArray).size ≤ 140737488355328 := hb
  have hm : k + (⟨l.toArray⟩ : ByteArray).size ≤ maxLen := by simp only [maxLen]; omega
  obtain ⟨v1, w1, hr, ho1, hgr, _⟩ := Lib.run_append_own_string (P := P) w 0 t u o.type e inf hut hu' hin hz' h2 h3 _ k _ hown ⟨l.toArray⟩ hm hbs (Nat.zero_le _)
  obtain ⟨A1, c1, rfl⟩ := slice_of_own ho1
  have hcells : Lib.strCells ⟨l.toArray⟩ = (l.map (fun b => (b.toNat : Int))).map (.int .u8) := by
    simp [Lib.strCells]
  have hblk : (Value.slice A1 (k + (⟨l.toArray⟩ : ByteArray).size) c1).ownBlock = (Value.slice A k c).ownBlock ∨ ∀ q, (Value.slice A1 (k + (⟨l.toArray⟩ : ByteArray).size) c1).ownBlock = some q → w.heap.size ≤ q := by
    rcases hown.2 with ⟨he, hk0⟩ | ⟨gb, cap, cur, he, _, hgb, hnc, hcm, hcs, htk⟩
    · right
      have hown' : w.ownsRow w.heap.size e 1 (.slice A k c) k (xs.map (.int .u8)) := ⟨hown.1, .inl ⟨he, hk0⟩⟩
      obtain ⟨v2, w2, hr2, ho2, _⟩ := Lib.run_append_own_string (P := P) w w.heap.size t u o.type e inf hut hu' hin hz' h2 h3 _ k _ hown' ⟨l.toArray⟩ hm hbs (Nat.le_refl _)
      rw [hr] at hr2
      cases hr2
      exact fun q hq => (World.ownsRow.lt ho2 q hq).1
    · cases he
      by_cases hroom : k + (⟨l.toArray⟩ : ByteArray).size ≤ c
      · have hr2 := Lib.run_append_room_string (P := P) w t u o.type e inf hut hu' hin h2 gb k c cur hgb ⟨l.toArray⟩ hroom (by omega)
        rw [hr] at hr2
        cases hr2
        exact .inl rfl
      · have holds : ∀ j u, (xs.map (Value.int .u8))[j]? = some u → w.cell? ((⟨gb, 0, none⟩ : Addr).add j) = some u := hown.cells (g := gb) rfl
        have hr2 := Lib.run_append_grow_string (P := P) w t u o.type e inf (.int .u8 0) hut hu' hin hz' ⟨gb, 0, none⟩ k c (xs.map (.int .u8)) (by rw [h2]; exact hown.1) holds ⟨l.toArray⟩ (by omega) (by omega) (by rw [h3]; exact growslice_fits (by omega) (by omega))
        rw [hr] at hr2
        cases hr2
        exact .inr fun q hq => by cases hq; exact Nat.le_refl _
  have hst1 : St g m (L.set i (.row e 1 (.slice A1 (k + l.length) c1) (k + l.length) ((xs ++ l.map (fun b => (b.toNat : Int))).map (.int .u8)))) w1 := by
    refine hst.upd_at hi ?_ hgr hblk
    rw [List.map_append, ← hcells]
    exact ho1
  refine wl_val hg (w' := w1) ?_ (kk A1 c1 w1 hst1)
  have hx' : evo n f x = .string ⟨l.toArray⟩ := hx
  unfold execOp
  simp only [ho, resolve, invoke, builtin, Sem.run_bind, Sem.run_pure, Result.andThen_ok, List.map_toArray, List.map_cons, List.map_nil, hs, hx', hr]
  rfl

/-- 'string(b)', b a row of bytes -/
theorem run_conv_row {xs : List Int} {A : Option Addr} {k c i : Nat} {e : TypeId} (h : Rd m L w) (hi : L[i]? = some (.row e 1 (.slice A k c) k (xs.map (.int .u8)))) {o : Oper} {src dst : TypeId} {x : Operand} (ho : o.op = .convert src dst x)
    (hs : (match P.underlying src with | some (.slice e') => (P.underlying e' matches some (.int .u8)) | _ => false) = true) (hd : (P.underlying dst matches some .string) = true) (hx : evo n f x = .slice A k c) :
    (execOp (evo n f) o).run P w = .ok (.value (vstr (xs.map fun q => UInt8.ofNat q.toNat))) w := by
  have hd' : P.underlying dst = some .string := by
    split at hd
    · assumption
    · cases hd
  obtain ⟨e', hs1, hs2⟩ : ∃ e', P.underlying src = some (.slice e') ∧ P.underlying e' = some (.int .u8) := by
    split at hs
    · rename_i e' he
      refine ⟨e', he, ?_⟩
      split at hs
      · assumption
      · cases hs
    · cases hs
  have hown : w.ownsRow 0 e 1 (.slice A k c) k (xs.map (.int .u8)) := h.own _ (List.mem_of_getElem? hi)
  have hl : xs.length = k := by have := hown.1; simpa using this
  have key : (convert src dst (.slice A k c)).run P w = .ok (vstr (xs.map fun q => UInt8.ofNat q.toNat)) w := by
    rcases hown.2 with ⟨he, hk0⟩ | ⟨gb, cap, cur, he, _⟩
    · cases he
      obtain rfl : xs = [] := List.eq_nil_of_length_eq_zero hl
      exact run_convert_bytes_nil w src e' hs1 hs2 0 0 dst hd'
    · cases he
      refine run_convert_bytes_arg w src e' hs1 hs2 gb 0 k c xs hl (fun j hj => ?_) dst hd'
      have := hown.cells (g := gb) rfl j (.int .u8 (xs.getD j 0)) (by simp [List.getElem?_eq_getElem (show j < xs.length by omega), List.getD_eq_getElem?_getD])
      rw [addr_add _ _ rfl] at this
      exact this
  simp only [execOp, ho, hx, Sem.run_bind, key, Result.andThen_ok, Sem.run_pure]
end
end Go.Proofs.YtfnaahkgegfbnaaGreatDoor
