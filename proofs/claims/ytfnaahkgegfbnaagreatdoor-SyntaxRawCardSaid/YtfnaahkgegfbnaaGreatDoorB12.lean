/- The map of the reserved words. -/
import Derived.Test.YtfnaahkgegfbnaaGreatDoorB11
import Derived.Test.YtfnaahkgegfbnaaGreatDoorShelf
import Derived.MapKept
import Derived.Laws.StructEq
set_option linter.unusedVariables false
set_option linter.unusedSimpArgs false
namespace Go.Proofs.YtfnaahkgegfbnaaGreatDoor

def ent (p : Str × Nat) : MapEntry := { key := vstr p.1, val := .bool true, born := p.2 }
def ents (xs : List Str) (j : Nat) : List MapEntry := (xs.zipIdx j).map ent
theorem ents_cons (x : Str) (xs : List Str) (j : Nat) : ents (x :: xs) j = ent (x, j) :: ents xs (j + 1) := rfl
theorem vstr_beq (s t : Str) : ((⟨⟨s⟩⟩ : ByteArray) == ⟨⟨t⟩⟩) = (s == t) := by
  rw [beq_toListBytes, Lib.toList_data, Lib.toList_data]
theorem findNow_ents (s : Str) : ∀ (xs : List Str) (j i : Nat), ∃ r, Instr.findNow .string (vstr s) (ents xs j) i = some r ∧ (s ∉ xs → r = none) ∧ (s ∈ xs → ∃ k, r = some (k, .bool true))
  | [], j, i => ⟨none, rfl, fun _ => rfl, fun h => by cases h⟩
  | x :: xs, j, i => by
    rw [ents_cons]
    have e : Instr.sameNow .string (vstr s) (vstr x) = some (s == x) := by
      show some ((⟨⟨s⟩⟩ : ByteArray) == ⟨⟨x⟩⟩) = _
      rw [vstr_beq]
    by_cases h : s = x
    · subst h
      refine ⟨some (i, .bool true), ?_, fun hn => absurd List.mem_cons_self hn, fun _ => ⟨i, rfl⟩⟩
      simp only [Instr.findNow, ent, e, beq_self_eq_true]
    · obtain ⟨r, h1, h2, h3⟩ := findNow_ents s xs (j + 1) (i + 1)
      refine ⟨r, ?_, fun hn => h2 (fun hm => hn (List.mem_cons_of_mem _ hm)), fun hm => h3 ?_⟩
      · simp only [Instr.findNow, ent, e, beq_eq_false_iff_ne.2 h]
        exact h1
      · rcases List.mem_cons.1 hm with rfl | hm
        · exact absurd rfl h
        · exact hm

section
variable {P : Program} {n : Nat} {f : Fr} {w : World}
/-- a look-up in the map -/
theorem run_lookup_ents {b c : Nat} {xs : List Str} {s : Str} {o : Oper} {t k e : TypeId} {x y : Operand} (ho : o.op = .lookup t x y false) (ht : P.underlying t = some (.map k e)) (hk : P.underlying k = some .string) (hz : (zeroValue e).run P w = .ok (.bool false) w)
    (hx : evo n f x = .map (some b)) (hy : evo n f y = vstr s) (hb : w.heap[b]? = some (.map ⟨ents xs 0⟩ c)) : (execOp (evo n f) o).run P w = .ok (.value (.bool (xs.contains s))) w := by
  obtain ⟨r, h1, h2, h3⟩ := findNow_ents s xs 0 0
  have hfk := MapKept.run_findKey (P := P) (w := w) hk h1
  have hck : ∀ em, (Instr.checkKey em 10000 k (vstr s)).run P w = .ok () w := by
    intro em
    unfold Instr.checkKey
    simp [run_underlying hk]
  unfold execOp
  simp only [ho, hx, hy]
  by_cases hm : s ∈ xs
  · obtain ⟨i, rfl⟩ := h3 hm
    have hcon : xs.contains s = true := by simpa using hm
    simp [Instr.lookup, run_underlying ht, MapKept.run_getObj_map hb, hck, hfk, hcon, hm]
  · have := h2 hm; subst this
    have hcon : xs.contains s = false := by simpa using hm
    simp [Instr.lookup, run_underlying ht, MapKept.run_getObj_map hb, hck, hfk, hcon, hz, hm]

/-- a new word -/
theorem run_mapUpdate_ents {b c : Nat} {xs : List Str} {s : Str} {o : Oper} {t k e : TypeId} {x y z : Operand} (ho : o.op = .mapUpdate t x y z) (ht : P.underlying t = some (.map k e)) (hk : P.underlying k = some .string)
    (hx : evo n f x = .map (some b)) (hy : evo n f y = vstr s) (hz : evo n f z = .bool true) (hb : w.heap[b]? = some (.map ⟨ents xs 0⟩ xs.length)) (hn : s ∉ xs) :
    (execOp (evo n f) o).run P w = .ok .skip { w with heap := w.heap.setIfInBounds b (.map ⟨ents (xs ++ [s]) 0⟩ (xs ++ [s]).length) } := by
  obtain ⟨r, h1, h2, h3⟩ := findNow_ents s xs 0 0
  have := h2 hn; subst this
  have hfk := MapKept.run_findKey (P := P) (w := w) hk h1
  have hck : ∀ em, (Instr.checkKey em 10000 k (vstr s)).run P w = .ok () w := by
    intro em
    unfold Instr.checkKey
    simp [run_underlying hk]
  have e1 : ents (xs ++ [s]) 0 = ents xs 0 ++ [{ key := vstr s, val := .bool true, born := xs.length }] := by
    simp [ents, List.zipIdx_append, ent]
  unfold execOp
  simp only [ho, hx, hy, hz]
  rw [e1]
  simp [Instr.mapUpdate, run_underlying ht, MapKept.run_getObj_map hb, hck, hfk, setObj, Sem.run, hb]
end
theorem w64_id {x : Int} (h0 : -9223372036854775808 ≤ x) (h1 : x ≤ 9223372036854775807) : w64 x = x := by
  have e : w64 x = if x % 18446744073709551616 ≥ 9223372036854775808 then x % 18446744073709551616 - 18446744073709551616 else x % 18446744073709551616 := by
    simp [w64, IntKind.wrap, IntKind.bits, IntKind.signed]
  rw [e]
  split <;> omega
def resText : Str := [97, 110, 100, 32, 97, 110, 99, 101, 115, 116, 111, 114, 32, 97, 116, 116, 114, 32, 98, 101, 102, 111, 114, 101, 32, 98, 121, 32, 99, 111, 109, 112, 117, 116, 101, 32, 100, 101, 115, 99, 32, 100, 105, 115, 116, 105, 110, 99, 116, 32, 101, 115, 116, 105, 109, 97, 116, 101, 32, 102, 97, 108, 115, 101, 32, 102, 105, 110, 100, 32, 103, 114, 101, 97, 116, 101, 115, 116, 32, 103, 114, 111, 117, 112, 32, 104, 97, 115, 32, 108, 101, 97, 115, 116, 32, 108, 105, 109, 105, 116, 32, 108, 105, 110, 107, 32, 109, 97, 116, 99, 104, 101, 115, 32, 110, 111, 116, 32, 111, 114, 32, 111, 114, 100, 101, 114, 32, 112, 97, 114, 101, 110, 116, 32, 112, 114, 101, 102, 105, 120, 32, 113, 117, 97, 110, 116, 105, 108, 101, 32, 115, 105, 98, 108, 105, 110, 103, 32, 115, 108, 111, 116, 115, 32, 115, 117, 109, 32, 116, 114, 97, 99, 101, 115, 32, 116, 114, 117, 101, 32, 119, 104, 101, 114, 101]
def resWords : List Str := Lib.fields resText
def resCells : List Value := resWords.map fun l => vstr l
theorem resWords_length : resWords.length = 30 := by kernel_rfl
theorem resCells_length : resCells.length = 30 := by kernel_rfl

theorem St.other {g : World} {m : Mem} {L : List Asr} {w : World} {b : Nat} {o : Obj} (h : St g m L w) (hm : m b = none) (hL : ∀ A ∈ L, A.blk ≠ some b) : St g m L { w with heap := w.heap.setIfInBounds b o } := by
  have hne : ∀ c, c ≠ b → (w.heap.setIfInBounds b o)[c]? = w.heap[c]? := fun c hc => by rw [Array.getElem?_setIfInBounds_ne (Ne.symm hc)]
  refine ⟨fun c o' hb => ?_, fun A hA => ?_, h.nod, h.sep, h.os, h.tape, h.output⟩
  · have : c ≠ b := fun e => by subst e; rw [hm] at hb; cases hb
    rw [hne c this]; exact h.mem c o' hb
  · exact Asr.holds_of_heap (h.own A hA) fun c hc => hne c fun e => hL A hA (by rw [hc, e])

theorem run_index_at {P : Program} {n : Nat} {f : Fr} {w : World} {N i c bf : Nat} {o : Oper} {t : TypeId} {X Y : Operand} (ho : o.op = .indexAddr t X Y) (hsz : elemSize P t = some 1) (hX : evo n f X = .slice (some ⟨bf, 0, none⟩) N c) (hY : evo n f Y = .int .i64 (i : Int)) (hi : i < N) :
    (execOp (evo n f) o).run P w = .ok (.value (.pointer (some ⟨bf, i, none⟩))) w := by
  have ha : (⟨bf, 0, none⟩ : Addr).add i = ⟨bf, i, none⟩ := by rw [addr_add _ _ rfl]; simp
  unfold elemSize at hsz
  split at hsz
  · rename_i e hu
    cases hin : P.info? e with
    | none => simp [hin] at hsz
    | some inf =>
      simp only [hin, Option.map_some, Option.some.injEq] at hsz
      simp [execOp, ho, hX, hY, Instr.indexAt, asIntOf, run_underlying hu, sizeOf, typeInfo, hin, hsz, hi, ha]
  · cases hsz

set_option maxRecDepth 10000 in
theorem c_reserved {g : World} {m : Mem} {F : List Asr} {w : World} (hst : St g m F w) (hG : Glob m) :
    Calls Tryz.prog 44 ⟨[]⟩ w (fun e w' => ∃ v, e = .returned v ∧ ∃ b, v = .map (some b) ∧ St g m F w' ∧ w'.heap[b]? = some (.map ⟨ents resWords 0⟩ resWords.length)) := by
  refine calls_enter Tryz.func44 rfl rfl ?_
  refine wp_seq (wp_region_lit (wl_seg 1 [(0, .map none)] [] (by kernel_rfl) trivial (wl_nil (then_n ?_))))
  refine wp_seq (wp_region_lit ?_)
  refine wl_val (v := .map (some w.heap.size)) (w' := w.alloc (.map #[] 0)) rfl rfl ?_
  have hb0 : (w.alloc (.map #[] 0)).heap[w.heap.size]? = some (.map #[] 0) := heap_alloc_new _ _
  have hst1 : St g m F (w.alloc (.map #[] 0)) := hst.wider (fun b hb => heap_alloc_old _ _ hb) rfl rfl rfl
  have hmb : m w.heap.size = none := by
    cases hm : m w.heap.size with
    | none => rfl
    | some o => exact absurd (hst.heap_lt hm) (Nat.lt_irrefl _)
  have hFb : ∀ A ∈ F, A.blk ≠ some w.heap.size := fun A hA e => Nat.lt_irrefl _ (Asr.blk_lt (hst.own A hA) e)
  generalize hw1 : w.alloc (.map #[] 0) = w1 at hb0 hst1 ⊢
  generalize hbb : w.heap.size = b at hb0 hmb hFb ⊢
  refine wl_seg 1 [(1, .map (some b))] [] (by kernel_rfl) trivial (wl_nil (then_n ?_))
  refine wp_seq (wp_seq (wp_region_lit ?_))
  have hF := Tryz.strings_Fields ⟨⟨resText⟩⟩ w1 (Nat.le_of_ble_eq_true (by kernel_rfl)) (fun j b hj => ?hasc) (hG.s w1 hst1.mem)
  case hasc =>
    have h1 : resText.all (fun b => Nat.blt b.toNat 128) = true := by kernel_rfl
    have h2 := List.all_eq_true.1 h1 b (List.mem_of_getElem? hj)
    simpa [Nat.blt_eq] using h2
  refine wl_call_ok (B := fun v w' => v = .slice (some ⟨w1.heap.size, 0, none⟩) resWords.length resWords.length ∧ w' = w1.alloc (.cells ⟨resCells⟩ 9)) (fid := 98) (A := ⟨[vstr resText]⟩) (hF.mono ?_) rfl (by kernel_rfl) ?_
  · rintro e w' ⟨rfl, rfl⟩
    exact ⟨_, rfl, rfl, rfl⟩
  rintro v w2 ⟨rfl, rfl⟩
  have hst2 := hst1.alloc 9 resCells
  have hbf : w1.heap.size ≠ b := fun e => by have := (Array.getElem?_eq_some_iff.1 hb0).1; omega
  have hb1 : (w1.alloc (.cells ⟨resCells⟩ 9 (0, 0))).heap[b]? = some (.map #[] 0) := by
    rw [heap_alloc_old _ _ (Array.getElem?_eq_some_iff.1 hb0).1]; exact hb0
  generalize hw2 : w1.alloc (.cells ⟨resCells⟩ 9 (0, 0)) = w2 at hst2 hb1 ⊢
  generalize hbb2 : w1.heap.size = bf at hbf hst2 ⊢
  rw [resWords_length]
  refine wl_seg 2 [(6, .int .i64 30), (7, .int .i64 0)] [] (by kernel_rfl) trivial (wl_nil (then_n ?_))
  have hLb : ∀ A ∈ (.obj bf 9 resCells :: F : List Asr), A.blk ≠ some b := by
    intro A hA
    rcases List.mem_cons.1 hA with rfl | hA
    · simpa [Asr.blk] using hbf
    · exact hFb A hA
  refine wp_block ?_
  refine wc_loop (fun k a w => ∃ (f0 : Fr) (i : Nat), a = act Tryz.f44.ntmps (upds f0 [(1, .map (some b)), (5, .slice (some ⟨bf, 0, none⟩) 30 30), (6, .int .i64 30), (7, .int .i64 i)]) ∧ i ≤ 30 ∧ k = 30 - i ∧ St g m (.obj bf 9 resCells :: F) w ∧ w.heap[b]? = some (.map ⟨ents (resWords.take i) 0⟩ (resWords.take i).length)) 30 ?_ ?_
  ·exact ⟨_, 0, act_upds ⟨by kernel_rfl, by kernel_rfl, by kernel_rfl, by kernel_rfl, trivial⟩, Nat.zero_le _, rfl, hst2, hb1⟩
  rintro k ih _ w3 ⟨f0, i, rfl, hi, hk, hst3, hb3⟩
  refine wp_seq (wp_region_lit (wl_seg 1 [(8, .bool (decide ((i : Int) < 30)))] [] (by kernel_rfl) trivial (wl_nil (then_n (wp_seq ?_)))))
  refine wc_cond (t := decide ((i : Int) < 30)) (by kernel_rfl) (fun hc => ?_) (fun hc => ?_)
  ·have hc := of_decide_eq_true hc
   have hi' : i < resWords.length := by rw [resWords_length]; omega
   have hcell : resCells[i]? = some (vstr resWords[i]) := by simp [resCells, hi']
   refine wp_skip (then_n (wp_seq (wp_block (wp_seq (wp_region_lit ?_)))))
   refine wl_val (v := .pointer (some ⟨bf, i, none⟩)) (w' := w3) rfl (run_index_at (N := 30) (c := 30) rfl (by kernel_rfl) (by kernel_rfl) (by kernel_rfl) (by omega)) ?_
   refine wl_seg 2 [(10, vstr resWords[i]), (3, vstr resWords[i])] [(⟨bf, i, none⟩, vstr resWords[i])] (by kernel_rfl) ⟨hst3.rd.cell (i := 0) rfl hcell, trivial⟩ (wl_nil (then_n ?_))
   refine wp_region_lit (wl_seg 2 [(11, .map (some b)), (12, vstr resWords[i])] [] (by kernel_rfl) trivial ?_)
   refine wl_unit rfl (run_mapUpdate_ents (c := 0) (k := 9) (e := 4) (s := resWords[i]) rfl (by kernel_rfl) (by kernel_rfl) (by kernel_rfl) (by kernel_rfl) (by kernel_rfl) hb3 ?_) ?_
   · have hnd : resWords.Nodup := of_decide_eq_true (by kernel_rfl)
     exact fun hm => by
       obtain ⟨j, hj, e⟩ := List.mem_take_iff_getElem.1 hm
       have := (List.getElem_inj hnd).1 e
       omega
   refine wl_nil (block_n (then_n ?_))
   refine wp_region_lit (wl_seg 2 [(13, .int .i64 (w64 ((i : Int) + 1))), (7, .int .i64 (w64 ((i : Int) + 1)))] [] (by kernel_rfl) trivial (wl_nil (then_n ?_)))
   have hw : w64 ((i : Int) + 1) = ((i + 1 : Nat) : Int) := by
     exact w64_id (by omega) (by omega)
   rw [hw]
   refine ih (30 - (i + 1)) (by omega) _ _ ⟨_, i + 1, act_upds ⟨by kernel_rfl, by kernel_rfl, by kernel_rfl, by kernel_rfl, trivial⟩, by omega, rfl, hst3.other hmb hLb, ?_⟩
   have hlt := (Array.getElem?_eq_some_iff.1 hb3).1
   rw [List.take_add_one, List.getElem?_eq_getElem hi', Option.toList_some]
   simp [hlt]
  have hc := of_decide_eq_false hc
  have hin : i = 30 := by omega
  subst hin
  refine wp_exit (then_x (then_x (block_x (then_n ?_))))
  refine wp_seq (wp_region_lit (wl_seg 2 [(14, .map (some b)), (0, .map (some b))] [] (by kernel_rfl) trivial (wl_nil (then_n ?_))))
  refine wp_ret ?_
  refine wc_ret [.map (some b)] [] (by kernel_rfl) trivial ?_
  refine ⟨_, rfl, b, rfl, hst3.drop 0, ?_⟩
  have ht : resWords.take 30 = resWords := List.take_of_length_le (by rw [resWords_length]; exact Nat.le_refl _)
  rw [ht] at hb3
  exact hb3
end Go.Proofs.YtfnaahkgegfbnaaGreatDoor
