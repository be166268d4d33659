/- Types of plain data: how they lie in cells; sealed slices; owned rows. -/
import Derived.Test.YtfnaahkgegfbnaaGreatDoorB0
set_option linter.unusedVariables false
set_option linter.unusedSimpArgs false
namespace Go.Proofs.YtfnaahkgegfbnaaGreatDoor

/-- how an 'α' lies in cells -/
structure Ty (α : Type) where
  size : Nat
  R : Mem → α → List Value → Prop
  mono : ∀ {m m' : Mem} {x : α} {cs : List Value}, m.le m' → R m x cs → R m' x cs
  len : ∀ {m : Mem} {x : α} {cs : List Value}, R m x cs → cs.length = size
  one : ∀ {m : Mem} {x : α} {cs : List Value}, R m x cs → ∀ v ∈ cs, v.oneCell' = true

/-- cells that lie, sealed, at an address -/
def At (m : Mem) (ad : Addr) (cs : List Value) : Prop :=
  ad.spot = none ∧ ∃ c t fr, m ad.block = some (.cells c t fr) ∧ ∀ j v, cs[j]? = some v → c[ad.off + j]? = some v
theorem At.mono {m m' : Mem} (h : m.le m') {ad : Addr} {cs : List Value} (k : At m ad cs) : At m' ad cs := by
  obtain ⟨hs, c, t, fr, hm, hc⟩ := k
  exact ⟨hs, c, t, fr, h _ _ hm, hc⟩

def RS {α : Type} (T : Ty α) (m : Mem) (v : Value) (xs : List α) : Prop :=
  ∃ A c, v = .slice A xs.length c ∧ xs.length ≤ c ∧ ∀ i x, xs[i]? = some x → ∃ ad cs, A = some ad ∧ T.R m x cs ∧ At m (ad.add (i * T.size)) cs
theorem RS.mono {α : Type} {T : Ty α} {m m' : Mem} (h : m.le m') {v : Value} {xs : List α} (k : RS T m v xs) : RS T m' v xs := by
  obtain ⟨A, c, e, hc, k⟩ := k
  refine ⟨A, c, e, hc, fun i x hx => ?_⟩
  obtain ⟨ad, cs, ha, hr, hat⟩ := k i x hx
  exact ⟨ad, cs, ha, T.mono h hr, hat.mono h⟩
theorem RS.nil {α : Type} (T : Ty α) (m : Mem) : RS T m (.slice none 0 0) [] := ⟨none, 0, rfl, Nat.le_refl _, fun i x hx => by simp at hx⟩

/-- what a row's cells say -/
def RC {α : Type} (T : Ty α) (m : Mem) (xs : List α) (cs : List Value) : Prop :=
  cs.length = xs.length * T.size ∧ ∀ i x, xs[i]? = some x → T.R m x ((cs.drop (i * T.size)).take T.size)
theorem RC.mono {α : Type} {T : Ty α} {m m' : Mem} (h : m.le m') {xs : List α} {cs : List Value} (k : RC T m xs cs) : RC T m' xs cs :=
  ⟨k.1, fun i x hx => T.mono h (k.2 i x hx)⟩
theorem RC.nil {α : Type} (T : Ty α) (m : Mem) : RC T m [] [] := ⟨by simp, fun i x hx => by simp at hx⟩
theorem RC.append {α : Type} {T : Ty α} {m : Mem} {xs ys : List α} {cs ds : List Value} (h : RC T m xs cs) (k : RC T m ys ds) : RC T m (xs ++ ys) (cs ++ ds) := by
  refine ⟨by rw [List.length_append, List.length_append, h.1, k.1, Nat.add_mul], fun i x hx => ?_⟩
  rcases Nat.lt_or_ge i xs.length with hi | hi
  · rw [List.getElem?_append_left hi] at hx
    have h1 : i * T.size + T.size ≤ cs.length := by rw [h.1, ← Nat.succ_mul]; exact Nat.mul_le_mul_right _ hi
    rw [List.drop_append_of_le_length (by omega), List.take_append_of_le_length (by rw [List.length_drop]; omega)]
    exact h.2 i x hx
  · rw [List.getElem?_append_right hi] at hx
    have h2 := k.2 _ x hx
    have e : i * T.size = cs.length + (i - xs.length) * T.size := by rw [h.1, ← Nat.add_mul]; congr 1; omega
    rw [e, List.drop_append, List.drop_eq_nil_of_le (by omega)]
    simpa using h2
theorem RC.single {α : Type} {T : Ty α} {m : Mem} {x : α} {cs : List Value} (h : T.R m x cs) : RC T m [x] cs := by
  have hl := T.len h
  refine ⟨by simp [hl], fun i y hy => ?_⟩
  cases i with
  | zero => simp at hy; subst hy; simp [← hl]; exact h
  | succ i => simp at hy
theorem RC.cons {α : Type} {T : Ty α} {m : Mem} {x : α} {cs : List Value} {xs : List α} {ds : List Value} (h : T.R m x cs) (k : RC T m xs ds) : RC T m (x :: xs) (cs ++ ds) :=
  RC.append (RC.single h) k
theorem RC.one {α : Type} {T : Ty α} {m : Mem} {xs : List α} {cs : List Value} (h : RC T m xs cs) (hs : 0 < T.size) : ∀ v ∈ cs, v.oneCell' = true := by
  intro v hv
  obtain ⟨j, hj⟩ := List.getElem?_of_mem hv
  have hlt : j < cs.length := by
    rcases Nat.lt_or_ge j cs.length with h' | h'
    · exact h'
    · rw [List.getElem?_eq_none h'] at hj; cases hj
  have hq : j / T.size < xs.length := by rw [h.1] at hlt; exact Nat.div_lt_of_lt_mul (by rw [Nat.mul_comm]; exact hlt)
  refine T.one (h.2 (j / T.size) xs[j / T.size] (by simp [hq])) v ?_
  rw [List.mem_iff_getElem?]
  refine ⟨j % T.size, ?_⟩
  rw [List.getElem?_take, if_pos (Nat.mod_lt _ hs), List.getElem?_drop]
  rw [show j / T.size * T.size + j % T.size = j by rw [Nat.mul_comm]; exact Nat.div_add_mod j T.size]
  exact hj

theorem addr_add (ad : Addr) (n : Nat) (h : ad.spot = none) : ad.add n = ⟨ad.block, ad.off + n, none⟩ := by
  unfold Addr.add
  split
  · rename_i e; subst e; cases ad; simp at h; subst h; rfl
  · cases ad; simp at h; subst h; rfl

/-- a row is sealed -/
theorem St.seal_row {α : Type} {T : Ty α} {g : World} {m : Mem} {e : TypeId} {v : Value} {n : Nat} {cs : List Value} {xs : List α} {L : List Asr} {w : World}
    (h : St g m (.row e T.size v n cs :: L) w) (hn : n = xs.length) (hr : RC T m xs cs) : ∃ m', m.le m' ∧ St g m' L w ∧ RS T m' v xs := by
  subst hn
  have ho : w.ownsRow 0 e T.size v xs.length cs := h.own _ List.mem_cons_self
  rcases ho.2 with ⟨rfl, hn0⟩ | ⟨gb, cap, cur, rfl, _, hb, hle, _, _, hcur⟩
  · have : xs = [] := List.eq_nil_of_length_eq_zero hn0
    subst this
    exact ⟨m, Mem.le.refl m, h.sub (List.sublist_cons_self _ _), RS.nil T m⟩
  · have hL : St g m (.obj gb e cur.toList :: L) w := by
      refine ⟨h.mem, fun A hA => ?_, ?_, fun A hA b hb' => ?_, h.os, h.tape, h.output⟩
      · rcases List.mem_cons.1 hA with rfl | hA
        · exact hb
        · exact h.own A (List.mem_cons_of_mem _ hA)
      · exact h.nod
      · rcases List.mem_cons.1 hA with rfl | hA
        · exact h.sep _ List.mem_cons_self b hb'
        · exact h.sep A (List.mem_cons_of_mem _ hA) b hb'
    obtain ⟨hle', hst⟩ := hL.seal_obj
    refine ⟨_, hle', hst, some ⟨gb, 0, none⟩, cap, rfl, hle, fun i x hx => ?_⟩
    have hR := T.mono hle' (hr.2 i x hx)
    refine ⟨_, _, rfl, hR, ?_⟩
    rw [addr_add _ _ rfl]
    refine ⟨rfl, ⟨cur.toList⟩, e, (0, 0), Mem.put_same _ _ _, fun j u hj => ?_⟩
    have hjs : j < T.size := by
      have := T.len hR
      rcases Nat.lt_or_ge j T.size with h' | h'
      · exact h'
      · rw [List.getElem?_eq_none (by omega)] at hj; cases hj
    rw [List.getElem?_take, if_pos hjs, List.getElem?_drop, ← hcur, List.getElem?_take] at hj
    split at hj
    · simpa using hj
    · cases hj

/-! ### Reading: 'Rd m L w': what is sealed and what is owned lies in the world -/
structure Rd (m : Mem) (L : List Asr) (w : World) : Prop where
  mem : ∀ b o, m b = some o → w.heap[b]? = some o
  own : ∀ A ∈ L, A.holds w
theorem St.rd {g : World} {m : Mem} {L : List Asr} {w : World} (h : St g m L w) : Rd m L w := ⟨h.mem, h.own⟩
theorem Rd.cell {m : Mem} {L : List Asr} {w : World} (h : Rd m L w) {i b : Nat} {t : TypeId} {cs : List Value} (hi : L[i]? = some (.obj b t cs)) {off : Nat} {v : Value} (hc : cs[off]? = some v) :
    w.cell? ⟨b, off, none⟩ = some v := by
  have : w.heap[b]? = some (.cells ⟨cs⟩ t (0, 0)) := h.own _ (List.mem_of_getElem? hi)
  simp [World.cell?, this, hc]
theorem Rd.free {m : Mem} {L : List Asr} {w : World} (h : Rd m L w) {i b : Nat} {t : TypeId} {cs : List Value} (hi : L[i]? = some (.obj b t cs)) (off : Nat) :
    w.frozen? ⟨b, off, none⟩ = false := by
  have : w.heap[b]? = some (.cells ⟨cs⟩ t (0, 0)) := h.own _ (List.mem_of_getElem? hi)
  simp [World.frozen?, this]
theorem Rd.at_ {m : Mem} {L : List Asr} {w : World} (h : Rd m L w) {ad : Addr} {cs : List Value} (k : At m ad cs) {j : Nat} {v : Value} (hj : cs[j]? = some v) :
    w.cell? (ad.add j) = some v := by
  obtain ⟨hs, c, t, fr, hm, hc⟩ := k
  rw [addr_add _ _ hs]
  simp [World.cell?, h.mem _ _ hm, hc j v hj]

end Go.Proofs.YtfnaahkgegfbnaaGreatDoor
