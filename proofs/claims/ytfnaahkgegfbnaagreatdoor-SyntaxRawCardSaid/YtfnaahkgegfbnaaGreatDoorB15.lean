/- From the row's conditions to the walks: what the package variables hold; what a call leaves; decimals that the kernel can work out. -/
import Derived.Test.YtfnaahkgegfbnaaGreatDoorB14
import Derived.Test.YtfnaahkgegfbnaaGreatDoorRows
import Derived.ProofKit
import Derived.OpenShut
import Derived.LaidMore
import Derived.MakeChecks
import Derived.SliceStrings
import Derived.Stop.LaidErr
import Derived.Lib.LaidTab
import Derived.Below
import Derived.Carry
import Derived.OpenShut
set_option linter.unusedVariables false
set_option linter.unusedSimpArgs false
namespace Go.Proofs.YtfnaahkgegfbnaaGreatDoor
open Go.RowKit Go.ChangeShapes Go.WideShapes Go.ChangeAt Go.WideMaps Go.WideElems

/-! ### decimals -/
def decK : Nat → Nat → Str
  | 0, _ => []
  | k + 1, u => if u < 10 then [UInt8.ofNat (48 + u)] else decK k (u / 10) ++ [UInt8.ofNat (48 + u % 10)]
theorem decK_eq : ∀ (k u : Nat), u < 10 ^ (k + 1) → decK (k + 1) u = Lib.decDigits u
  | k, u, h => by
    rw [Lib.decDigits]
    unfold decK
    by_cases h10 : u < 10
    · rw [if_pos h10, dif_pos h10]
    · rw [if_neg h10, dif_neg h10]
      cases k with
      | zero => exact absurd h (by omega)
      | succ k => rw [decK_eq k (u / 10) (by rw [Nat.div_lt_iff_lt_mul (by omega)]; rw [Nat.pow_succ] at h; exact h)]
def itoaK (n : Int) : Str := if n < 0 then 45 :: decK 20 n.natAbs else decK 20 n.toNat
theorem itoaK_eq {n : Int} (h0 : -9223372036854775808 ≤ n) (h1 : n ≤ 9223372036854775807) : itoaK n = Lib.itoa n := by
  unfold itoaK Lib.itoa
  have h2 : n.natAbs < 10 ^ (19 + 1) := by
    have : (10 : Nat) ^ (19 + 1) = 100000000000000000000 := by decide
    omega
  have h3 : n.toNat < 10 ^ (19 + 1) := by omega
  rw [decK_eq 19 _ h2, decK_eq 19 _ h3]

/-! ### the memory of a world, all of it sealed -/
def mOf (W : World) : Mem := fun b => W.heap[b]?
theorem St.of (W : World) : St W (mOf W) [] W :=
  ⟨fun _ _ h => h, fun A hA => (by cases hA), List.nodup_nil, fun A hA => (by cases hA), rfl, rfl, rfl⟩
theorem At.of {W : World} {a : Addr} {v : Value} (h : W.cell? a = some v) : At (mOf W) a [v] := by
  unfold World.cell? at h
  split at h
  · rename_i c t fr hc
    split at h
    · cases h
    · rename_i hs
      refine ⟨by simpa using hs, c, t, fr, hc, fun j u hj => ?_⟩
      cases j with
      | zero => simp at hj; subst hj; simpa using h
      | succ j => simp at hj
  · cases h
theorem Below.of {W w' : World} {m' : Mem} (hl : (mOf W).le m') (h : St W m' [] w') : Below W.heap.size W w' := by
  have hb : ∀ b, b < W.heap.size → w'.heap[b]? = W.heap[b]? := fun b hb => by
    have : mOf W b = some W.heap[b] := by simp [mOf, hb]
    rw [h.mem b _ (hl b _ this)]
    simp [hb]
  refine ⟨h.os, h.tape, h.output, ?_, hb⟩
  rcases Nat.lt_or_ge w'.heap.size W.heap.size with hlt | hge
  · have := hb w'.heap.size hlt
    simp [hlt] at this
  · exact hge

/-! ### what the package variables hold -/
theorem glob_of_head {P : Program} {W : World} {name : String} {xs : List Str} {rest : List (String × DataW Unit)} {g : Nat} {t e : TypeId}
    (hg : P.globalNamed name = some g) (hty : (P.globals[g]?).map (·.type) = some t) (ht : P.underlying t = some (.slice e)) (he : P.underlying e = some .string) (hce : P.cellsOf e = 1)
    (h : laidMet P ((name, .slice (xs.map fun l => .lit (.string l)) []) :: rest) W) : GlobAt (mOf W) g xs := by
  obtain ⟨ps, ⟨g', t', cs, fuel, p, q, hg', ht', hvar, hd, _, _⟩, _⟩ := h
  obtain rfl := Option.some.inj (hg.symm.trans hg')
  obtain rfl := Option.some.inj (hty.symm.trans ht')
  rcases open_strings ht he hce hd with ⟨_, hx⟩ | ⟨a, len, cap, ss, hcs, _, hl, _, hss, hx, hcell, _⟩
  · simp at hx
  · simp only [Prod.mk.injEq, DataW.slice.injEq] at hx
    simp only [if_true] at hss
    obtain ⟨⟨h1, h2⟩, _⟩ := hx
    have hxs : xs = (ss.take len).map fun s => s.data.toList := by
      have h3 := congrArg (fun l : List (DataW Unit) => l.map fun d => match d with | .lit (.string s) => s | _ => []) h1
      simpa [strs, Function.comp_def] using h3
    have hlen : xs.length = len := by
      rw [hxs]; simp; omega
    have hv : W.cell? ⟨g, 0, none⟩ = some (.slice (some a) xs.length cap) := by
      rw [World.var?_cell hg hvar 0, Array.eq_one_of_toList hcs, hlen]; rfl
    refine ⟨_, At.of hv, some a, cap, rfl, by omega, fun i x hi => ⟨a, [vstr x], rfl, rfl, ?_⟩⟩
    have hi' : i < xs.length := by
      rcases Nat.lt_or_ge i xs.length with h | h
      · exact h
      · rw [List.getElem?_eq_none h] at hi; cases hi
    have hc := hcell i (by omega)
    have hx : x = (ss.getD i ByteArray.empty).data.toList := by
      rw [hxs, List.getElem?_map, List.getElem?_take, if_pos (by omega)] at hi
      cases hsi : ss[i]? with
      | none => simp [hsi] at hi
      | some s => simp [hsi] at hi; simp [List.getD_eq_getElem?_getD, hsi, hi]
    have : TStr.size = 1 := rfl
    rw [this, Nat.mul_one]
    refine At.of (hc.trans ?_)
    rw [hx]
    rfl
theorem laid_drop {P : Program} {W : World} : ∀ (k : Nat) {l : List (String × DataW Unit)}, laidMet P l W → laidMet P (l.drop k) W
  | 0, l, h => h
  | k + 1, [], h => h
  | k + 1, x :: l, h => laid_drop k h.tail
theorem tab_at {W w : World} {name : String} {k : IntKind} {zs : List Int} (hw : ∀ b o, mOf W b = some o → w.heap[b]? = some o) (h : Lib.TabIs Tryz.prog W name k zs) : Lib.TabIs Tryz.prog w name k zs := by
  unfold Lib.TabIs World.var? at *
  cases hg : Tryz.prog.globalNamed name with
  | none => rw [hg] at h; cases h
  | some g =>
    rw [hg] at h
    simp only [Option.bind_some] at h ⊢
    cases hh : W.heap[g]? with
    | none => rw [hh] at h; cases h
    | some o => rw [hh] at h; rw [hw g o hh]; exact h
set_option maxRecDepth 100000 in
theorem Glob.of {W : World} (h : laidMetH Tryz.prog Rows.syntaxNamesRow.laid W) : Glob (mOf W) := by
  rw [MakeChecks.laidMetH_plain _ _ _ (by kernel_rfl)] at h
  refine ⟨?_, ?_, ?_, ?_, fun w hw => ?_, fun w hw => ?_⟩
  · exact glob_of_head (xs := namesR) (name := "sleuth/syntax.relationNames") (e := 9) (by kernel_rfl) (t := 22) (by kernel_rfl) (by kernel_rfl) (by kernel_rfl) (by kernel_rfl) (laid_drop 9 h)
  · exact glob_of_head (xs := namesA) (name := "sleuth/syntax.aggregateNames") (e := 9) (by kernel_rfl) (t := 22) (by kernel_rfl) (by kernel_rfl) (by kernel_rfl) (by kernel_rfl) (laid_drop 10 h)
  · exact glob_of_head (xs := namesT) (name := "sleuth/syntax.tight") (e := 9) (by kernel_rfl) (t := 22) (by kernel_rfl) (by kernel_rfl) (by kernel_rfl) (by kernel_rfl) (laid_drop 7 h)
  · exact glob_of_head (xs := namesC) (name := "sleuth/syntax.closing") (e := 9) (by kernel_rfl) (t := 22) (by kernel_rfl) (by kernel_rfl) (by kernel_rfl) (by kernel_rfl) (laid_drop 8 h)
  · have h1 : Lib.TabIs Tryz.prog W "internal/strconv.uint64pow10" .u64 Lib.pow10Tab := Lib.tabIs_of_head (g := 8) (t := 241) (e := 229) (n := 20) (by kernel_rfl) (by kernel_rfl) (by kernel_rfl) (by kernel_rfl) (by kernel_rfl) (by kernel_rfl) (laid_drop 2 h)
    exact tab_at hw h1
  · have h1 : Lib.TabIs Tryz.prog W "strings.asciiSpace" .u8 Lib.asciiSpaceTab := Lib.tabIs_of_head (g := 1) (t := 179) (e := 5) (n := 256) (by kernel_rfl) (by kernel_rfl) (by kernel_rfl) (by kernel_rfl) (by kernel_rfl) (by kernel_rfl) (laid_drop 6 h)
    exact tab_at hw h1

/-! ### what a law's call leaves -/
theorem trodAll_carry {H : Type} {enc : TypeId × Value → H} {P : Program} (hl : laidOutB P = true) {W W' : World} (hb : Below W.heap.size W W') :
    ∀ {ts : List TypeId} {vs : List Value} {ds : List (DataW H)} {ps : List MemPlace}, (ts.all fun t => P.readableRec t && decide (t < P.types.size)) = true → (∀ x ∈ ps, x.block < W.heap.size) →
      DataW.TrodAll enc P W 0 (fun _ => true) true ts vs ds ps → DataW.TrodAll enc P W' 0 (fun b => decide (b < W.heap.size)) true ts vs ds ps
  | [], [], [], _, _, _, h => h
  | [], [], _ :: _, _, _, _, h => h.elim
  | [], _ :: _, _, _, _, _, h => h.elim
  | _ :: _, [], _, _, _, _, h => h.elim
  | _ :: _, _ :: _, [], _, _, _, h => h.elim
  | t :: ts, v :: vs, d :: ds, ps, ht, hlt, h => by
    obtain ⟨p, q, h1, h2, rfl⟩ := h
    simp only [List.all_cons, Bool.and_eq_true, decide_eq_true_eq] at ht
    exact ⟨p, q, Below.trod hl ht.1.1 ht.1.2 h1 hb (fun x hx => hlt x (List.mem_append_left _ hx)), trodAll_carry hl hb (by simpa using ht.2) (fun x hx => hlt x (List.mem_append_right _ hx)) h2, rfl⟩
theorem law_post {H : Type} {enc : TypeId × Value → H} {f : Func} {s : ChangeSpec} {W W' : World} {args : Array Value} {ds : List (DataW H)} {before : List MemPlace}
    (hr : f.resultTypes = #[4]) (hs : s.vars = []) (hfn : s.fn H (ds ++ []) = { results := [.lit (.bool true)], args := ds }) (hp : (f.params.toList.all fun t => Tryz.prog.readableRec t && decide (t < Tryz.prog.types.size)) = true)
    (hW : DataW.Whole enc Tryz.prog f.params.toList s.vars false W args.toList ds [] before) (hb : Below W.heap.size W W') : s.post enc Tryz.prog f false true false false W args (.bool true) W' := by
  have hlt : ∀ p ∈ before, p.block < W.heap.size := fun p hp => by simpa using hW.lt p hp
  have hW' := hW
  obtain ⟨p, q, hA, hV, rfl, _, _⟩ := hW'
  rw [hs] at hV
  obtain rfl : q = [] := hV
  rw [List.append_nil] at hlt hW
  refine ⟨ds, [], p, [], p, [], hW, ?_, ?_, ?_, hb.frame _, fun h => by cases h⟩
  · rw [hfn, hr]
    exact trodAll_cons_mk (shut_bool Tryz.underlying4 _) trodAll_mk0
  · rw [hfn]
    exact trodAll_carry (by kernel_rfl) hb hp hlt hA
  · rw [hfn, hs]
    rfl
end Go.Proofs.YtfnaahkgegfbnaaGreatDoor
