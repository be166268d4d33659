/- What is checked of values and predicates: what the written functions answer. -/
import Derived.Test.YtfnaahkgegfbnaaGreatDoorPb
import Derived.Test.YtfnaahkgegfbnaaGreatDoorDe
set_option linter.unusedVariables false
set_option linter.unusedSimpArgs false
namespace Go.Proofs.YtfnaahkgegfbnaaGreatDoor

def withinB (lo hi : Nat) (s : Str) : Bool := s.all fun c => decide (lo ≤ c.toNat) && decide (c.toNat ≤ hi)
theorem within_l (s : Str) (lo hi : Nat) (hs : s.length ≤ 9223372036854775806) : ∀ (d i k : Nat), i + d = s.length → d < k → attribute_within_l1 k s (lo : Int) (hi : Int) (i : Int) = some (withinB lo hi (s.drop i))
  | d, i, 0, _, h => by omega
  | 0, i, k + 1, hd, _ => by
    rw [attribute_within_l1, if_neg (by simp; omega), List.drop_eq_nil_of_le (by omega)]; rfl
  | d + 1, i, k + 1, hd, hk => by
    have hi' : i < s.length := by omega
    rw [attribute_within_l1, if_pos (by simp; omega), chk_pos (dec_nonneg i), toNat_cast, List.getElem?_eq_getElem hi', Option.bind_some, chk_pos (dec_nonneg i), Option.bind_some, w64_succ (by omega),
      within_l s lo hi hs d (i + 1) k (by omega) (by omega), List.drop_eq_getElem_cons hi']
    have e1 : decide ((s[i].toNat : Int) < (lo : Int)) = !decide (lo ≤ s[i].toNat) := by rw [Bool.eq_iff_iff]; simp
    have e2 : decide ((s[i].toNat : Int) > (hi : Int)) = !decide (s[i].toNat ≤ hi) := by rw [Bool.eq_iff_iff]; simp
    rw [e1, e2]
    simp only [withinB, List.all_cons]
    cases decide (lo ≤ s[i].toNat) <;> cases decide (s[i].toNat ≤ hi) <;> simp
theorem within_eq {s : Str} {k : Nat} (lo hi : Nat) (hs : s.length ≤ 9223372036854775806) (hk : s.length < k) : attribute_within k s (lo : Int) (hi : Int) = some (withinB lo hi s) := by
  unfold attribute_within
  have := within_l s lo hi hs s.length 0 k (by omega) hk
  simpa using this
def nameB (s : Str) : Bool := !(s == w_0) && decide (s.length ≤ 64) && withinB 33 126 s
theorem IsName_eq {s : Str} {k : Nat} (hs : s.length ≤ 9223372036854775806) (hk : s.length < k) : attribute_IsName k s = some (nameB s) := by
  unfold attribute_IsName
  have h := within_eq 33 126 hs hk
  have h' : attribute_within k s 33 126 = some (withinB 33 126 s) := h
  rw [h', dec_len]
  unfold nameB
  cases (s == w_0) <;> cases decide (s.length ≤ 64) <;> simp
def valE1 (v : GValue) (b : Bool) : Int := if decide ((v.Text.length : Int) > 4096) = true then 5 else if (!b) = true then 3 else 0
def valE (v : GValue) : Int :=
  if (v.Kind == 1) = true then valE1 v (withinB 32 126 v.Text && v.Int == 0)
  else if (v.Kind == 2) = true then valE1 v (v.Text == w_0 && (decide (v.Int ≥ (-1099511627776)) && decide (v.Int ≤ 1099511627776)))
  else if (v.Kind == 3) = true then valE1 v (v.Text == w_0 && (v.Int == 0 || v.Int == 1)) else 12
theorem valE1_eq (v : GValue) (b : Bool) : attribute_CheckValue_j1 v b = some (valE1 v b) := by
  unfold attribute_CheckValue_j1 valE1
  split
  · rfl
  · split <;> rfl
theorem CheckValue_eq {v : GValue} {k : Nat} (hs : v.Text.length ≤ 9223372036854775806) (hk : v.Text.length < k) : attribute_CheckValue k v = some (valE v) := by
  unfold attribute_CheckValue valE
  have h : attribute_within k v.Text 32 126 = some (withinB 32 126 v.Text) := within_eq 32 126 hs hk
  simp only [h, Option.bind_some, valE1_eq]
  cases (v.Kind == 1) <;> cases (v.Kind == 2) <;> cases (v.Kind == 3) <;> cases withinB 32 126 v.Text <;> cases (v.Text == w_0) <;> cases decide (v.Int ≥ (-1099511627776)) <;> cases (v.Int == 0) <;> simp
def isT (p : GPred) : Bool := p.Op == 5 || (p.Op == 6 || p.Op == 7)
theorem isTest_eq (p : GPred) : attribute_isTest p = some (isT p) := by
  unfold attribute_isTest isT
  cases (p.Op == 5) <;> cases (p.Op == 6) <;> simp
def nE5 (p : GPred) : Int := if (valE p.Value != 0) = true then valE p.Value else if ((p.Op == 6 && p.Value.Kind == 3) || (p.Op == 7 && p.Value.Kind != 1)) = true then 13 else 0
def nE7 (p : GPred) (r x : Bool) : Int := if x = true then 11 else if (!r) = true then 0 else if (!nameB p.Field || ((p.Field == w_attr && !nameB p.Key) || (!(p.Field == w_attr) && !(p.Key == w_0)))) = true then 11 else nE5 p
def nE6 (p : GPred) (r x : Bool) : Int := if x = true then 3 else nE7 p r (p.Op == 4 && !nameB p.Key)
def nE2 (p : GPred) (ok : Bool) : Int :=
  nE6 p (isT p) (!ok || ((!isT p && (!(p.Field == w_0) || !(eqV p.Value ⟨0, w_0, 0⟩))) || (!isT p && (!(p.Op == 4) && !(p.Key == w_0)))))
/-- the error of a node -/
def nodeE (p : GPred) : Int :=
  if (p.Op == 1 || p.Op == 2) = true then nE2 p (decide ((p.Args.length : Int) ≥ 1)) else if (p.Op == 3) = true then nE2 p ((p.Args.length : Int) == 1)
  else if (p.Op == 0 || (p.Op == 4 || (p.Op == 5 || (p.Op == 6 || p.Op == 7)))) = true then nE2 p ((p.Args.length : Int) == 0) else 12
section
variable {p : GPred} {k : Nat} (hc : wP p ≤ 9223372036854775806) (hk : wP p < k)
include hc hk
theorem j5_eq : attribute_checkNode_j5 k p = some (nE5 p) := by
  have hw := wP_eq p
  unfold attribute_checkNode_j5 nE5
  rw [CheckValue_eq (by omega) (by omega), Option.bind_some]
  cases (valE p.Value != 0) <;> cases (p.Op == 6) <;> cases (p.Value.Kind == 3) <;> cases (p.Op == 7) <;> cases (p.Value.Kind != 1) <;> simp
theorem j7_eq (r x : Bool) : attribute_checkNode_j7 k p r x = some (nE7 p r x) := by
  have hw := wP_eq p
  unfold attribute_checkNode_j7 nE7
  simp only [IsName_eq (s := p.Field) (k := k) (by omega) (by omega), IsName_eq (s := p.Key) (k := k) (by omega) (by omega), Option.bind_some, j5_eq hc hk]
  cases x <;> cases r <;> cases nameB p.Field <;> cases (p.Field == w_attr) <;> cases nameB p.Key <;> cases (p.Key == w_0) <;> simp
theorem j6_eq (r x : Bool) : attribute_checkNode_j6 k p r x = some (nE6 p r x) := by
  have hw := wP_eq p
  unfold attribute_checkNode_j6 nE6
  simp only [IsName_eq (s := p.Key) (k := k) (by omega) (by omega), Option.bind_some, j7_eq hc hk]
  cases x <;> cases (p.Op == 4) <;> simp
theorem j2_eq (ok : Bool) : attribute_checkNode_j2 k p ok = some (nE2 p ok) := by
  unfold attribute_checkNode_j2 nE2
  have hv : ((p.Value.Kind == 0) && ((p.Value.Text == w_0) && ((p.Value.Int == 0) && true))) = eqV p.Value ⟨0, w_0, 0⟩ := rfl
  simp only [isTest_eq, Option.bind_some, j6_eq hc hk, hv]
  cases ok <;> cases isT p <;> cases (p.Field == w_0) <;> cases eqV p.Value ⟨0, w_0, 0⟩ <;> cases (p.Op == 4) <;> cases (p.Key == w_0) <;> simp
theorem checkNode_eq : attribute_checkNode k p = some (nodeE p) := by
  unfold attribute_checkNode attribute_checkNode_j8 nodeE
  simp only [j2_eq hc hk]
  cases (p.Op == 1) <;> cases (p.Op == 2) <;> cases (p.Op == 3) <;> cases (p.Op == 0) <;> cases (p.Op == 4) <;> cases (p.Op == 5) <;> cases (p.Op == 6) <;> cases (p.Op == 7) <;> simp
end
/-! ### attribute.Check -/
mutual
def visP : GPred → Int → Int → Int × Int
  | ⟨o, f, ke, v, a⟩, lev, n => if decide (n ≥ 64) = true then (n, 6) else if decide (lev > 16) = true then (n, 15) else if (nodeE ⟨o, f, ke, v, a⟩ != 0) = true then (n + 1, nodeE ⟨o, f, ke, v, a⟩) else visL a (lev + 1) (n + 1)
def visL : List GPred → Int → Int → Int × Int
  | [], _, n => (n, 0)
  | p :: l, lev, n => if ((visP p lev n).2 != 0) = true then visP p lev n else visL l lev (visP p lev n).1
end
theorem visP_eq (p : GPred) (lev n : Int) : visP p lev n = if decide (n ≥ 64) = true then (n, 6) else if decide (lev > 16) = true then (n, 15) else if (nodeE p != 0) = true then (n + 1, nodeE p) else visL p.Args (lev + 1) (n + 1) := by cases p; rfl
theorem vis_bound : ∀ p : GPred, ∀ lev n : Int, 0 ≤ n → n ≤ 64 → 0 ≤ (visP p lev n).1 ∧ (visP p lev n).1 ≤ 64 := by
  refine GPred.byW fun p ih => ?_
  intro lev n h0 h1
  rw [visP_eq]
  split
  · exact ⟨h0, h1⟩
  rename_i hn
  have hn : ¬ n ≥ 64 := by simpa using hn
  split
  · exact ⟨h0, h1⟩
  split
  · exact ⟨by show 0 ≤ n + 1; omega, by show n + 1 ≤ 64; omega⟩
  have key : ∀ l : List GPred, (∀ q ∈ l, q ∈ p.Args) → ∀ n : Int, 0 ≤ n → n ≤ 64 → 0 ≤ (visL l (lev + 1) n).1 ∧ (visL l (lev + 1) n).1 ≤ 64 := by
    intro l
    induction l with
    | nil => intro _ n h0 h1; exact ⟨h0, h1⟩
    | cons q l ihl =>
      intro hm n h0 h1
      have := ih q (wP_arg (hm q List.mem_cons_self)) (lev + 1) n h0 h1
      simp only [visL]
      split
      · exact this
      · exact ihl (fun x hx => hm x (List.mem_cons_of_mem _ hx)) _ this.1 this.2
  exact key _ (fun q h => h) _ (by omega) (by omega)
theorem vis_eq : ∀ p : GPred, ∀ (lev n : Int) (k : Nat), wP p ≤ 9223372036854775806 → 4 * wP p ≤ k → 0 ≤ lev → lev ≤ 17 → 0 ≤ n → n ≤ 64 → attribute_Check_c1 k p lev n = some (visP p lev n) := by
  refine GPred.byW fun p ih => ?_
  intro lev n k hc hk hl0 hl1 h0 h1
  have hw := wP_eq p
  have hp := wP_pos p
  obtain ⟨k, rfl⟩ : ∃ m, k = m + 1 := ⟨k - 1, by omega⟩
  rw [attribute_Check_c1, visP_eq, checkNode_eq hc (by omega), Option.bind_some, w64_id (by omega) (by omega)]
  cases hn' : decide (n ≥ 64)
  case true => simp
  cases hlv' : decide (lev > 16)
  case true => simp
  have hn := of_decide_eq_false hn'
  have hlv := of_decide_eq_false hlv'
  cases hE : (nodeE p != 0)
  case true => simp
  simp only [Bool.false_eq_true, if_false]
  have loop : ∀ (d i k : Nat) (n : Int), i + d = p.Args.length → 4 * wL (p.Args.drop i) + 1 ≤ k → 0 ≤ n → n ≤ 64 → attribute_Check_c1_l1 k p lev n (i : Int) = some (visL (p.Args.drop i) (lev + 1) n) := by
    intro d
    induction d with
    | zero =>
      intro i k n hi hk h0 h1
      obtain ⟨k, rfl⟩ : ∃ m, k = m + 1 := ⟨k - 1, by omega⟩
      rw [attribute_Check_c1_l1, if_neg (by simp; omega), List.drop_eq_nil_of_le (by omega)]; rfl
    | succ d ihd =>
      intro i k n hi hk h0 h1
      obtain ⟨k, rfl⟩ : ∃ m, k = m + 1 := ⟨k - 1, by omega⟩
      have h1' : i < p.Args.length := by omega
      have hd := wL_drop h1'
      have hm : wP p.Args[i] < wP p := wP_arg (List.getElem_mem h1')
      have hpos := wP_pos p.Args[i]
      have hlen := wL_len p.Args
      have hb := vis_bound p.Args[i] (lev + 1) n h0 h1
      rw [attribute_Check_c1_l1, if_pos (by simp; omega), chk_pos (dec_nonneg i), toNat_cast, List.getElem?_eq_getElem h1', Option.bind_some, w64_id (x := lev + 1) (by omega) (by omega),
        ih _ hm _ _ k (by omega) (by omega) (by omega) (by omega) h0 h1, Option.bind_some, w64_succ (by omega), ihd (i + 1) k _ (by omega) (by omega) hb.1 hb.2, List.drop_eq_getElem_cons h1']
      simp only [visL]
      split <;> rfl
  have := loop p.Args.length 0 k (n + 1) (by omega) (by rw [List.drop_zero]; omega) (by omega) (by omega)
  simpa using this
def chkA (p : GPred) : Int := (visP p 1 0).2
theorem Check_eq {p : GPred} {k : Nat} (hc : wP p ≤ 9223372036854775806) (hk : 4 * wP p ≤ k) : attribute_Check k p = some (chkA p) := by
  unfold attribute_Check
  rw [vis_eq p 1 0 k hc hk (by omega) (by omega) (by omega) (by omega)]; rfl
/-! ### a condition on some node -/
mutual
def anyP (f : GPred → Bool) : GPred → Bool
  | ⟨o, fi, ke, v, a⟩ => f ⟨o, fi, ke, v, a⟩ || anyL f a
def anyL (f : GPred → Bool) : List GPred → Bool
  | [] => false
  | p :: l => anyP f p || anyL f l
end
theorem anyP_eq (f : GPred → Bool) (p : GPred) : anyP f p = (f p || anyL f p.Args) := by cases p; rfl
theorem anyL_drop {f : GPred → Bool} {l : List GPred} {i : Nat} (h : i < l.length) : anyL f (l.drop i) = (anyP f l[i] || anyL f (l.drop (i + 1))) := by rw [List.drop_eq_getElem_cons h]; rfl
def formB (p : GPred) : Bool := (p.Op == 1 || p.Op == 2) && decide ((p.Args.length : Int) < 2)
def fieldB (p : GPred) : Bool := decide (p.Op ≥ 5) && (!(p.Field == w_attr) && !fldB p.Field)
theorem c1_eq (p : GPred) : syntax_CheckPred_c1 p = some (formB p) := by
  unfold syntax_CheckPred_c1 formB
  cases (p.Op == 1) <;> cases (p.Op == 2) <;> simp
theorem c2_eq {p : GPred} {k : Nat} (hc : wP p ≤ 9223372036854775806) (hk : wP p < k) : syntax_CheckPred_c2 k p = some (fieldB p) := by
  have hw := wP_eq p
  unfold syntax_CheckPred_c2 fieldB
  rw [IsField_eq (by omega) (by omega), Option.bind_some]
  cases decide (p.Op ≥ 5) <;> cases (p.Field == w_attr) <;> simp
theorem inTree_eq : ∀ p : GPred, ∀ k : Nat, wP p ≤ 9223372036854775806 → 8 * wP p ≤ k → syntax_inTree k p = some (anyP formB p) := by
  refine GPred.byW fun p ih => ?_
  intro k hc hk
  have hw := wP_eq p
  have hp := wP_pos p
  have hlen := wL_len p.Args
  have loop : ∀ (d i k : Nat), i + d = p.Args.length → 8 * wL (p.Args.drop i) + 2 ≤ k → ∃ r, slices_IndexFunc_api_Pred_l1 k p.Args (i : Int) = some r ∧ decide (r ≥ 0) = anyL formB (p.Args.drop i) := by
    intro d
    induction d with
    | zero =>
      intro i k hi hk
      obtain ⟨k, rfl⟩ : ∃ m, k = m + 1 := ⟨k - 1, by omega⟩
      refine ⟨-1, by rw [slices_IndexFunc_api_Pred_l1, if_neg (by simp; omega)], by rw [List.drop_eq_nil_of_le (by omega)]; rfl⟩
    | succ d ihd =>
      intro i k hi hk
      obtain ⟨k, rfl⟩ : ∃ m, k = m + 2 := ⟨k - 2, by have := wL_drop (l := p.Args) (i := i) (by omega); have := wP_pos (p.Args[i]'(by omega)); omega⟩
      have h1 : i < p.Args.length := by omega
      have hd := wL_drop h1
      have hm : wP p.Args[i] < wP p := wP_arg (List.getElem_mem h1)
      have hpos := wP_pos p.Args[i]
      obtain ⟨r, hr, hr2⟩ := ihd (i + 1) (k + 1) (by omega) (by omega)
      have hc1 : syntax_inTree_c1 (k + 1) p.Args[i] = some (anyP formB p.Args[i]) := by
        rw [syntax_inTree_c1, ih _ hm k (by omega) (by omega)]; rfl
      rw [slices_IndexFunc_api_Pred_l1, if_pos (by simp; omega), chk_pos (dec_nonneg i), toNat_cast, List.getElem?_eq_getElem h1, Option.bind_some, hc1, Option.bind_some, w64_succ (by omega), anyL_drop h1]
      cases anyP formB p.Args[i] with
      | true => exact ⟨_, rfl, by simp⟩
      | false => exact ⟨r, by simpa using hr, by simpa using hr2⟩
  obtain ⟨k, rfl⟩ : ∃ m, k = m + 3 := ⟨k - 3, by omega⟩
  obtain ⟨r, hr, hr2⟩ := loop p.Args.length 0 k (by omega) (by rw [List.drop_zero]; omega)
  have hr' : slices_IndexFunc_api_Pred_l1 k p.Args 0 = some r := hr
  rw [syntax_inTree, c1_eq, Option.bind_some, slices_ContainsFunc_api_Pred, slices_IndexFunc_api_Pred, hr', Option.bind_some, Option.bind_some, anyP_eq, hr2, List.drop_zero]
  cases formB p <;> simp
theorem inTree_i1_eq : ∀ p : GPred, ∀ k : Nat, wP p ≤ 9223372036854775806 → 8 * wP p ≤ k → syntax_inTree_i1 k p = some (anyP fieldB p) := by
  refine GPred.byW fun p ih => ?_
  intro k hc hk
  have hw := wP_eq p
  have hp := wP_pos p
  have hlen := wL_len p.Args
  have loop : ∀ (d i k : Nat), i + d = p.Args.length → 8 * wL (p.Args.drop i) + 2 ≤ k → ∃ r, slices_IndexFunc_api_Pred_i1_l1 k p.Args (i : Int) = some r ∧ decide (r ≥ 0) = anyL fieldB (p.Args.drop i) := by
    intro d
    induction d with
    | zero =>
      intro i k hi hk
      obtain ⟨k, rfl⟩ : ∃ m, k = m + 1 := ⟨k - 1, by omega⟩
      refine ⟨-1, by rw [slices_IndexFunc_api_Pred_i1_l1, if_neg (by simp; omega)], by rw [List.drop_eq_nil_of_le (by omega)]; rfl⟩
    | succ d ihd =>
      intro i k hi hk
      obtain ⟨k, rfl⟩ : ∃ m, k = m + 2 := ⟨k - 2, by have := wL_drop (l := p.Args) (i := i) (by omega); have := wP_pos (p.Args[i]'(by omega)); omega⟩
      have h1 : i < p.Args.length := by omega
      have hd := wL_drop h1
      have hm : wP p.Args[i] < wP p := wP_arg (List.getElem_mem h1)
      have hpos := wP_pos p.Args[i]
      obtain ⟨r, hr, hr2⟩ := ihd (i + 1) (k + 1) (by omega) (by omega)
      have hc1 : syntax_inTree_c1_i1 (k + 1) p.Args[i] = some (anyP fieldB p.Args[i]) := by
        rw [syntax_inTree_c1_i1, ih _ hm k (by omega) (by omega)]; rfl
      rw [slices_IndexFunc_api_Pred_i1_l1, if_pos (by simp; omega), chk_pos (dec_nonneg i), toNat_cast, List.getElem?_eq_getElem h1, Option.bind_some, hc1, Option.bind_some, w64_succ (by omega), anyL_drop h1]
      cases anyP fieldB p.Args[i] with
      | true => exact ⟨_, rfl, by simp⟩
      | false => exact ⟨r, by simpa using hr, by simpa using hr2⟩
  obtain ⟨k, rfl⟩ : ∃ m, k = m + 3 := ⟨k - 3, by omega⟩
  obtain ⟨r, hr, hr2⟩ := loop p.Args.length 0 k (by omega) (by rw [List.drop_zero]; omega)
  have hr' : slices_IndexFunc_api_Pred_i1_l1 k p.Args 0 = some r := hr
  rw [syntax_inTree_i1, c2_eq hc (by omega), Option.bind_some, slices_ContainsFunc_api_Pred_i1, slices_IndexFunc_api_Pred_i1, hr', Option.bind_some, Option.bind_some, anyP_eq, hr2, List.drop_zero]
  cases fieldB p <;> simp

theorem fits_eq (b : Bool) : ∀ p : GPred, ∀ k : Nat, wP p ≤ 9223372036854775806 → 8 * wP p + 40 ≤ k → l36_fits k p b = some (!anyP (if b = true then fieldB else formB) p) := by
  refine GPred.byW fun p ih => ?_
  intro k hc hk
  have hw := wP_eq p
  have hp := wP_pos p
  have hlen := wL_len p.Args
  have loop : ∀ (d i k : Nat), i + d = p.Args.length → 8 * wL (p.Args.drop i) + 41 ≤ k → l36_fits_l2 k p b (i : Int) = some (!anyL (if b = true then fieldB else formB) (p.Args.drop i)) := by
    intro d
    induction d with
    | zero =>
      intro i k hi hk
      obtain ⟨k, rfl⟩ : ∃ m, k = m + 1 := ⟨k - 1, by omega⟩
      rw [l36_fits_l2, if_neg (by simp; omega), List.drop_eq_nil_of_le (by omega)]; rfl
    | succ d ihd =>
      intro i k hi hk
      obtain ⟨k, rfl⟩ : ∃ m, k = m + 1 := ⟨k - 1, by omega⟩
      have h1 : i < p.Args.length := by omega
      have hd := wL_drop h1
      have hm : wP p.Args[i] < wP p := wP_arg (List.getElem_mem h1)
      have hpos := wP_pos p.Args[i]
      rw [l36_fits_l2, if_pos (by simp; omega), chk_pos (dec_nonneg i), toNat_cast, List.getElem?_eq_getElem h1, Option.bind_some, ih _ hm k (by omega) (by omega), Option.bind_some, w64_succ (by omega), ihd (i + 1) k (by omega) (by omega), anyL_drop h1]
      cases anyP (if b = true then fieldB else formB) p.Args[i] <;> simp
  obtain ⟨k, rfl⟩ : ∃ m, k = m + 2 := ⟨k - 2, by omega⟩
  have hl := loop p.Args.length 0 k (by omega) (by rw [List.drop_zero]; omega)
  have hl' : l36_fits_l2 k p b 0 = some (!anyL (if b = true then fieldB else formB) p.Args) := by simpa using hl
  have hj : l36_fits_j1 (k + 1) p b = some (!anyL (if b = true then fieldB else formB) p.Args) := by rw [l36_fits_j1, hl']
  rw [l36_fits, anyP_eq]
  cases b with
  | true =>
    rw [if_pos rfl, lfield_eq (by omega) (by omega) (by omega), Option.bind_some, hj]
    simp only [if_true, fieldB]
    cases decide (p.Op ≥ 5) <;> cases fldB p.Field <;> cases (p.Field == w_attr) <;> simp
  | false =>
    rw [if_neg (by simp), hj]
    simp only [Bool.false_eq_true, if_false, formB]
    cases (p.Op == 1) <;> cases (p.Op == 2) <;> cases decide ((p.Args.length : Int) < 2) <;> simp
/-- the error of a predicate without a text -/
def chkP (p : GPred) : Int := if (chkA p != 0) = true then chkA p else if anyP formB p = true then 3 else if anyP fieldB p = true then 11 else 0
theorem CheckPred_eq {p : GPred} {k : Nat} (hc : wP p ≤ 9223372036854775806) (hk : 8 * wP p ≤ k) : syntax_CheckPred k p = some (chkP p) := by
  unfold syntax_CheckPred chkP
  rw [Check_eq hc (by omega), Option.bind_some, inTree_eq p k hc hk, Option.bind_some, inTree_i1_eq p k hc hk, Option.bind_some]
  cases (chkA p != 0) <;> cases anyP formB p <;> cases anyP fieldB p <;> simp
theorem checkPred_eq {p : GPred} {k : Nat} (hc : wP p ≤ 9223372036854775806) (hk : 8 * wP p + 40 ≤ k) : l36_checkPred k p = some (chkP p) := by
  unfold l36_checkPred chkP
  rw [Check_eq hc (by omega), Option.bind_some, fits_eq false p k hc hk, Option.bind_some, fits_eq true p k hc hk, Option.bind_some]
  simp only [Bool.false_eq_true, if_false, if_true]
  cases (chkA p != 0) <;> cases anyP formB p <;> cases anyP fieldB p <;> simp
end Go.Proofs.YtfnaahkgegfbnaaGreatDoor
