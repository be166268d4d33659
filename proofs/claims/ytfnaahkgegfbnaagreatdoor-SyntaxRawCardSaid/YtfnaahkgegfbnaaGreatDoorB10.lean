/- Parts of sealed slices; a stronger condition in a drawn region. -/
import Derived.Test.YtfnaahkgegfbnaaGreatDoorB9
import Derived.WideLaws
import Derived.Laws.Entries
set_option linter.unusedVariables false
set_option linter.unusedSimpArgs false
namespace Go.Proofs.YtfnaahkgegfbnaaGreatDoor

def orI (k : IntKind) (a b : Int) : Int := k.wrap (((BitVec.ofInt k.bits a) ||| (BitVec.ofInt k.bits b)).toNat : Int)
theorem mem2 {a b i : Nat} (h : i ∈ [a, b]) : i = a ∨ i = b := by simpa using h
theorem mem3 {a b c i : Nat} (h : i ∈ [a, b, c]) : i = a ∨ i = b ∨ i = c := by simpa using h

/-! ### Some of what is owned, in a new order -/
def pickr : List Nat → List Asr → Option (List Asr × List Asr)
  | [], pre => some ([], pre)
  | i :: is, pre => match pre[i]? with
    | some A => match pickr is (pre.eraseIdx i) with
      | some (es, rest) => some (A :: es, rest)
      | none => none
    | none => none
def picks (n : Nat) (is : List Nat) (L : List Asr) : Option (List Asr) :=
  match pickr is (L.take n) with
  | some (es, _) => some (es ++ L.drop n)
  | none => none
theorem pickr_perm : ∀ (is : List Nat) (pre es rest : List Asr), pickr is pre = some (es, rest) → (es ++ rest).Perm pre
  | [], pre, es, rest, h => by simp only [pickr, Option.some.injEq, Prod.mk.injEq] at h; obtain ⟨rfl, rfl⟩ := h; exact List.Perm.refl _
  | i :: is, pre, es, rest, h => by
    simp only [pickr] at h
    split at h
    · rename_i A hA
      split at h
      · rename_i es' rest' h2
        simp only [Option.some.injEq, Prod.mk.injEq] at h
        obtain ⟨rfl, rfl⟩ := h
        exact ((pickr_perm is _ _ _ h2).cons A).trans (perm_front hA)
      · cases h
    · cases h
theorem St.pick {g : World} {m : Mem} {L L' : List Asr} {w : World} (n : Nat) (is : List Nat) (hst : St g m L w) (h : picks n is L = some L') : St g m L' w := by
  unfold picks at h
  split at h
  · rename_i es rest hp
    simp only [Option.some.injEq] at h
    subst h
    have h1 := pickr_perm _ _ _ _ hp
    have h2 : ((es ++ rest) ++ L.drop n).Perm L := by
      have := h1.append_right (L.drop n)
      rwa [List.take_append_drop] at this
    refine (hst.perm h2).sub ?_
    exact (List.sublist_append_left es rest).append_right _
  · cases h

section
variable {P : Program} {ops : Array Oper} {Q : Exit → Act → World → Prop} {n : Nat} {f : Fr} {w g : World} {m : Mem} {L : List Asr} {dl : List Deferred}

theorem wpG_strong {q : Bool} {fuel : Nat} {S S2 : World → Prop} {listed : Array Bool} {a : Act} (hs : ∀ x, S2 x → S x) (h : wpG P ops Q q fuel S2 listed a w) : wpG P ops Q q fuel S listed a w := by
  cases fuel with
  | zero => exact h
  | succ k => exact ⟨h.1, fun i hi => wpOp_mono (fun a' w' ⟨S', h1, h2, h3⟩ => ⟨S', fun x hx => hs x (h1 x hx), h2, h3⟩) (h.2 i hi)⟩

theorem addr_add_add (ad : Addr) (i j : Nat) : (ad.add i).add j = ad.add (i + j) := by
  unfold Addr.add
  by_cases hi : i = 0
  · subst hi; simp
  · by_cases hj : j = 0
    · subst hj; simp [hi]
    · simp [hi, hj, Nat.add_assoc]

/-- the end of a sealed slice -/
theorem slice_rs {α : Type} {T : Ty α} {A : Option Addr} {xs : List α} {c : Nat} (hrs : RS T m (.slice A xs.length c) xs) {lo : Int} (hb : (decide (0 ≤ lo) && decide (lo ≤ xs.length)) = true) :
    ∃ A' c', RS T m (.slice A' (xs.drop lo.toNat).length c') (xs.drop lo.toNat) ∧ ∀ {o : Oper} {t : TypeId} {X Y : Operand} {k : IntKind} {n : Nat} {f : Fr} {w : World}, o.op = .slice t X (some Y) none none → elemSize P t = some T.size →
      evo n f X = .slice A xs.length c → evo n f Y = .int k lo → (execOp (evo n f) o).run P w = .ok (.value (.slice A' (xs.drop lo.toNat).length c')) w := by
  simp only [Bool.and_eq_true, decide_eq_true_eq] at hb
  obtain ⟨h0, h1⟩ := hb
  obtain ⟨A0, c0, e, hc, hx⟩ := hrs
  cases e
  refine ⟨if c = lo.toNat then A else A.map (·.add (lo.toNat * T.size)), c - lo.toNat, ⟨_, _, rfl, by rw [List.length_drop]; omega, fun i x hi => ?_⟩, fun {o t X Y k n f w} ho hsz hX hY => ?_⟩
  · rw [List.getElem?_drop] at hi
    obtain ⟨ad, cs, rfl, hR, hat⟩ := hx _ x hi
    have hlt : lo.toNat + i < xs.length := by
      rcases Nat.lt_or_ge (lo.toNat + i) xs.length with h | h
      · exact h
      · rw [List.getElem?_eq_none h] at hi; cases hi
    rw [if_neg (by omega)]
    refine ⟨_, cs, rfl, hR, ?_⟩
    rw [addr_add_add, ← Nat.add_mul]
    exact hat
  · unfold elemSize at hsz
    split at hsz
    · rename_i e hu
      cases hin : P.info? e with
      | none => simp [hin] at hsz
      | some inf =>
        simp only [hin, Option.map_some, Option.some.injEq] at hsz
        simp [execOp, ho, hX, hY, Instr.sliceAt, Instr.slice, Instr.sliceBounds, Instr.sliceBound, asIntOf, run_underlying hu, sizeOf, typeInfo, hin, hsz, h0, h1, List.length_drop]
    · cases hsz

theorem run_rem (k : IntKind) (a b : Int) (o : Oper) (t t' : TypeId) (x y : Operand) (ho : o.op = .binOp .rem t x y t') (hx : evo n f x = .int k a) (hy : evo n f y = .int k b) (hb : (!(b == 0)) = true) :
    (execOp (evo n f) o).run P w = .ok (.value (.int k (a.tmod b))) w := by
  have hb : b ≠ 0 := by simpa using hb
  have hgd : eqGuard .rem t x y (.int k a) (.int k b) = pure () := rfl
  simp [execOp, ho, hx, hy, hgd, binOp_rem, Op.intDiv, hb]
/-- an error: is it one? -/
def ErrV (v : Value) (b : Bool) : Prop := (b = false ∧ v = .nilIface) ∨ (b = true ∧ ∃ t x, v = .iface t x)
theorem run_err_neq {v : Value} {b : Bool} (hv : ErrV v b) (o : Oper) (t t' : TypeId) (x : Operand) (ho : o.op = .binOp .neq t x (.const .nilIface) t') (hx : evo n f x = v) (ht : P.underlying t = some (.interface (P.methodsAt t))) :
    (execOp (evo n f) o).run P w = .ok (.value (.bool b)) w := by
  have hy : evo n f (.const .nilIface) = .nilIface := rfl
  rcases hv with ⟨rfl, rfl⟩ | ⟨rfl, t1, x1, rfl⟩
  · have hgd : eqGuard .neq t x (.const .nilIface) .nilIface .nilIface = pure () := by cases x <;> rfl
    simp [execOp, ho, hx, hy, hgd, run_neq_nil_nil w _ ht]
  · have hgd : eqGuard .neq t x (.const .nilIface) (.iface t1 x1) .nilIface = pure () := by cases x <;> rfl
    simp [execOp, ho, hx, hy, hgd, run_neq_held_nil w _ _ _ ht]
end
end Go.Proofs.YtfnaahkgegfbnaaGreatDoor
