/- Texts joined by a program of this session: Pa, Pb, Pc, Pd, Pe, Pf, B16, Pg, Ph, Dp, Pn, Du, Pr, Pi, Pj, Pl, Pm, Po, B18. -/
import Derived.Test.YtfnaahkgegfbnaaGreatDoorZ1
import Derived.Test.YtfnaahkgegfbnaaGreatDoorZ0
import Derived.ChangeArms
set_option linter.unusedVariables false
set_option linter.unusedSimpArgs false
set_option linter.unusedSectionVars false
namespace Go.Proofs.YtfnaahkgegfbnaaGreatDoor
@[simp] theorem chk_true {α : Type} (x : Option α) : chk true x = x := rfl
theorem chk_pos {α : Type} {b : Bool} (h : b = true) (x : Option α) : chk b x = x := by subst h; rfl
theorem w64_nat {i : Nat} (h : i ≤ 9223372036854775807) : w64 (i : Int) = (i : Int) := w64_id (by omega) (by omega)
theorem w64_succ {i : Nat} (h : i < 9223372036854775807) : w64 ((i : Int) + 1) = ((i + 1 : Nat) : Int) := by
  rw [← Int.natCast_succ]; exact w64_nat (by omega)
theorem dec_nonneg (i : Nat) : decide ((0 : Int) ≤ (i : Int)) = true := decide_eq_true (by omega)
@[simp] theorem toNat_cast (i : Nat) : Int.toNat (i : Int) = i := Int.toNat_natCast i
def letN (n : Nat) : Bool := decide (97 ≤ n) && decide (n ≤ 122) || decide (65 ≤ n) && decide (n ≤ 90) || n == 95
def digN (n : Nat) : Bool := decide (48 ≤ n) && decide (n ≤ 57)
def innN (n : Nat) : Bool := letN n || digN n || n == 45
abbrev letB (c : UInt8) : Bool := letN c.toNat
abbrev digB (c : UInt8) : Bool := digN c.toNat
abbrev innB (c : UInt8) : Bool := innN c.toNat
theorem letN_eq : ∀ n : Nat, n < 256 → syntax_letter (n : Int) = some (letN n) := by decide +kernel
theorem innN_eq : ∀ n : Nat, n < 256 → syntax_inner (n : Int) = some (innN n) := by decide +kernel
theorem begN_eq : ∀ n : Nat, n < 256 → l36_begins (n : Int) = some (letN n) := by decide +kernel
theorem ldgN_eq : ∀ n : Nat, n < 256 → l36_digit (n : Int) = some (digN n) := by decide +kernel
theorem u8_lt (c : UInt8) : c.toNat < 256 := c.toNat_lt
theorem letter_eq (c : UInt8) : syntax_letter (c.toNat : Int) = some (letB c) := letN_eq _ (u8_lt c)
theorem inner_eq (c : UInt8) : syntax_inner (c.toNat : Int) = some (innB c) := innN_eq _ (u8_lt c)
theorem begins_eq (c : UInt8) : l36_begins (c.toNat : Int) = some (letB c) := begN_eq _ (u8_lt c)
theorem ldigit_eq (c : UInt8) : l36_digit (c.toNat : Int) = some (digB c) := ldgN_eq _ (u8_lt c)
def wordB : Str → Bool
  | [] => false
  | c :: r => letB c && r.all innB
theorem isWord_l (s : Str) (hs : s.length ≤ 9223372036854775806) : ∀ (d i k : Nat), i + d = s.length → d < k → syntax_isWord_l2 k s (i : Int) = some ((s.drop i).all innB)
  | d, i, 0, _, h => by omega
  | 0, i, k + 1, hd, _ => by
    rw [syntax_isWord_l2, if_neg (by simp; omega), List.drop_eq_nil_of_le (by omega)]; rfl
  | d + 1, i, k + 1, hd, hk => by
    have hi : i < s.length := by omega
    rw [syntax_isWord_l2, if_pos (by simp; omega), chk_pos (dec_nonneg i), toNat_cast, List.getElem?_eq_getElem hi, Option.bind_some, inner_eq, Option.bind_some, w64_succ (by omega),
      isWord_l s hs d (i + 1) k (by omega) (by omega), List.drop_eq_getElem_cons hi, List.all_cons]
    cases innB s[i] <;> simp
theorem isWord_eq {s : Str} {k : Nat} (hs : s.length ≤ 9223372036854775806) (hk : s.length < k) : syntax_isWord k s = some (wordB s) := by
  unfold syntax_isWord
  cases s with
  | nil => simp [syntax_isWord_j1, wordB]
  | cons c r =>
    have h := isWord_l (c :: r) hs (c :: r).length 0 k (by simp) hk
    have h0 : ((c :: r : Str) == w_0) = false := rfl
    rw [h0, if_neg (by simp), chk_pos (by decide)]
    simp only [Int.toNat_zero, List.getElem?_cons_zero, Option.bind_some, letter_eq, syntax_isWord_j1]
    have h' : syntax_isWord_l2 k (c :: r) 0 = some ((c :: r).all innB) := by simpa using h
    rw [h']
    have : letB c = true → innB c = true := fun hl => by simp [innN, hl]
    simp only [wordB, List.all_cons]
    cases hl : letB c <;> simp_all
theorem word_l (s : Str) (hs : s.length ≤ 9223372036854775806) : ∀ (d i k : Nat), i + d = s.length → d < k → 0 < i → l36_word_l1 k s (i : Int) = some ((s.drop i).all innB && !(s == w_0))
  | d, i, 0, _, h, _ => by omega
  | 0, i, k + 1, hd, _, h0 => by
    rw [l36_word_l1, if_neg (by simp; omega), List.drop_eq_nil_of_le (by omega)]; simp
  | d + 1, i, k + 1, hd, hk, h0 => by
    have hi : i < s.length := by omega
    have hne : ((i : Int) == 0) = false := by simp; omega
    rw [l36_word_l1, if_pos (by simp; omega), chk_pos (dec_nonneg i), toNat_cast, List.getElem?_eq_getElem hi, Option.bind_some, begins_eq, Option.bind_some, chk_pos (dec_nonneg i), Option.bind_some, ldigit_eq, Option.bind_some, chk_pos (dec_nonneg i), Option.bind_some,
      w64_succ (by omega), word_l s hs d (i + 1) k (by omega) (by omega) (by omega), List.drop_eq_getElem_cons hi, List.all_cons, hne]
    have e : innB s[i] = (letB s[i] || digB s[i] || s[i].toNat == 45) := rfl
    have e2 : (((s[i].toNat : Int)) != 45) = !(s[i].toNat == 45) := by
      rw [Bool.eq_iff_iff]; simp [bne]; omega
    rw [e, e2]
    cases letB s[i] <;> cases digB s[i] <;> cases (s[i].toNat == 45) <;> simp
theorem word_eq {s : Str} {k : Nat} (hs : s.length ≤ 9223372036854775806) (hk : s.length < k) : l36_word k s = some (wordB s) := by
  unfold l36_word
  obtain ⟨k, rfl⟩ : ∃ m, k = m + 1 := ⟨k - 1, by omega⟩
  cases s with
  | nil => rfl
  | cons c r =>
    simp only [List.length_cons] at hk hs
    have h := word_l (c :: r) (by simpa using hs) r.length 1 k (by rw [List.length_cons]; omega) (by omega) (by omega)
    rw [l36_word_l1, if_pos (by simp), chk_pos (by decide), Int.toNat_zero, List.getElem?_cons_zero, Option.bind_some, begins_eq, Option.bind_some]
    have h1 : w64 (0 + 1) = ((1 : Nat) : Int) := by decide
    rw [h1, h]
    simp only [wordB]
    cases hl : letB c <;> simp
def resK : List Str := [w_and, w_attr, w_false, w_has, w_not, w_or, w_prefix, w_true, w_ancestor, w_before, w_by, w_compute, w_desc, w_distinct, w_estimate, w_find, w_greatest, w_group, w_least, w_limit, w_link, w_matches, w_order, w_parent, w_quantile, w_sibling, w_slots, w_sum, w_traces, w_where]
theorem lreserved_eq : l36_reserved = some resK := rfl
theorem among_l (s : Str) (n : Nat) (hn : n ≤ resK.length) : ∀ (d i k : Nat), i + d = n → d < k → l36_among_l1 k s (n : Int) (i : Int) = some (((resK.take n).drop i).contains s)
  | d, i, 0, _, h => by omega
  | 0, i, k + 1, hd, _ => by
    rw [l36_among_l1, if_neg (by simp; omega), List.drop_eq_nil_of_le (by simp; omega)]; rfl
  | d + 1, i, k + 1, hd, hk => by
    have h30 : resK.length = 30 := rfl
    have hi : i < resK.length := by omega
    have hi2 : i < (resK.take n).length := by rw [List.length_take]; omega
    rw [l36_among_l1, if_pos (by simp; omega), lreserved_eq, Option.bind_some, chk_pos (dec_nonneg i), toNat_cast, List.getElem?_eq_getElem hi, Option.bind_some, w64_succ (by omega),
      among_l s n hn d (i + 1) k (by omega) (by omega), List.drop_eq_getElem_cons hi2, List.contains_cons, List.getElem_take]
    have e : (resK[i] == s) = (s == resK[i]) := by generalize resK[i] = y; rw [Bool.eq_iff_iff, beq_iff_eq, beq_iff_eq]; exact eq_comm
    rw [e]
    cases (s == resK[i]) <;> simp
theorem among_eq {s : Str} {n k : Nat} (hn : n ≤ 30) (hk : n < k) : l36_among k s (n : Int) = some ((resK.take n).contains s) := by
  unfold l36_among
  have := among_l s n (by exact hn) n 0 k (by omega) hk
  simpa using this
def varB (s : Str) : Bool := wordB s && decide (s.length ≤ 64) && !resK.contains s
def fldB (s : Str) : Bool := wordB s && decide (s.length ≤ 64) && !(resK.take 8).contains s
theorem dec_len (s : Str) : decide ((s.length : Int) ≤ 64) = decide (s.length ≤ 64) := by
  rw [Bool.eq_iff_iff]; simp; omega
theorem resWords_eq (s : Str) : resWords.contains s = resK.contains s := by
  have h1 : ∀ x ∈ resWords, x ∈ resK := by decide +kernel
  have h2 : ∀ x ∈ resK, x ∈ resWords := by decide +kernel
  rw [Bool.eq_iff_iff, List.contains_iff_mem, List.contains_iff_mem]
  exact ⟨h1 s, h2 s⟩
theorem lvariable_eq {s : Str} {k : Nat} (hs : s.length ≤ 9223372036854775806) (hk : s.length < k) (hk2 : 30 < k) : l36_variable k s = some (varB s) := by
  unfold l36_variable
  rw [word_eq hs hk, Option.bind_some, lreserved_eq, Option.bind_some]
  have : l36_among k s ((resK.length : Nat) : Int) = some ((resK.take 30).contains s) := among_eq (n := 30) (Nat.le_refl _) hk2
  rw [this, Option.bind_some, dec_len]
  have e : resK.take 30 = resK := rfl
  rw [e]
  unfold varB
  cases wordB s <;> cases decide (s.length ≤ 64) <;> simp
theorem lfield_eq {s : Str} {k : Nat} (hs : s.length ≤ 9223372036854775806) (hk : s.length < k) (hk2 : 30 < k) : l36_field k s = some (fldB s) := by
  unfold l36_field
  have : l36_among k s 8 = some ((resK.take 8).contains s) := among_eq (n := 8) (by omega) (by omega)
  rw [word_eq hs hk, Option.bind_some, this, Option.bind_some, dec_len]
  unfold fldB
  cases wordB s <;> cases decide (s.length ≤ 64) <;> simp
theorem IsVariable_eq {s : Str} {k : Nat} (hs : s.length ≤ 9223372036854775806) (hk : s.length < k) : syntax_IsVariable k s = some (varB s) := by
  unfold syntax_IsVariable
  rw [isWord_eq hs hk, Option.bind_some, dec_len, resWords_eq]
  unfold varB
  cases wordB s <;> cases decide (s.length ≤ 64) <;> simp
theorem IsField_eq {s : Str} {k : Nat} (hs : s.length ≤ 9223372036854775806) (hk : s.length < k) : syntax_IsField k s = some (fldB s) := by
  unfold syntax_IsField
  rw [isWord_eq hs hk, Option.bind_some]
  have e : decide ((s.length : Int) > 64) = !decide (s.length ≤ 64) := by rw [Bool.eq_iff_iff]; simp; omega
  rw [e]
  have e8 : resK.take 8 = [w_and, w_attr, w_false, w_has, w_not, w_or, w_prefix, w_true] := rfl
  unfold fldB syntax_IsField_j1
  rw [e8]
  simp only [List.contains_cons, List.contains_nil]
  cases wordB s <;> cases decide (s.length ≤ 64) <;> cases (s == w_and) <;> cases (s == w_attr) <;> cases (s == w_false) <;> cases (s == w_has) <;> cases (s == w_not) <;> cases (s == w_or) <;> cases (s == w_prefix) <;> cases (s == w_true) <;> rfl
mutual
def wP : GPred → Nat
  | ⟨_, f, k, v, args⟩ => 1 + f.length + k.length + v.Text.length + wL args
def wL : List GPred → Nat
  | [] => 0
  | p :: l => wP p + wL l
end
theorem wP_eq (p : GPred) : wP p = 1 + p.Field.length + p.Key.length + p.Value.Text.length + wL p.Args := by cases p; rfl
theorem wP_pos (p : GPred) : 1 ≤ wP p := by rw [wP_eq]; omega
theorem wL_drop {l : List GPred} {i : Nat} (h : i < l.length) : wL (l.drop i) = wP l[i] + wL (l.drop (i + 1)) := by
  rw [List.drop_eq_getElem_cons h]; rfl
theorem wL_len : ∀ l : List GPred, l.length ≤ wL l
  | [] => Nat.le_refl _
  | p :: l => by have := wL_len l; have := wP_pos p; simp only [wL, List.length_cons]; omega
theorem wL_mem : ∀ {l : List GPred} {p : GPred}, p ∈ l → wP p ≤ wL l
  | q :: l, p, h => by
    rcases List.mem_cons.1 h with rfl | h
    · simp only [wL]; omega
    · have := wL_mem h; simp only [wL]; omega
theorem GPred.byW {C : GPred → Prop} (h : ∀ p, (∀ q, wP q < wP p → C q) → C p) : ∀ p, C p := by
  have key : ∀ n p, wP p < n → C p := by
    intro n
    induction n with
    | zero => intro p hp; omega
    | succ n ih => intro p hp; exact h p fun q hq => ih q (by omega)
  exact fun p => key _ p (Nat.lt_succ_self _)
theorem wP_arg {p q : GPred} (h : q ∈ p.Args) : wP q < wP p := by
  have := wL_mem h; rw [wP_eq p]; omega
def eqV (a b : GValue) : Bool := (a.Kind == b.Kind) && ((a.Text == b.Text) && ((a.Int == b.Int) && true))
mutual
def eqP : GPred → GPred → Bool
  | ⟨o, f, k, v, a⟩, ⟨o', f', k', v', a'⟩ => o == o' && (f == f' && (k == k' && (eqV v v' && eqL a a')))
def eqL : List GPred → List GPred → Bool
  | [], [] => true
  | p :: l, q :: m => eqP p q && eqL l m
  | _, _ => false
end
theorem eqP_eq (p q : GPred) : eqP p q = (p.Op == q.Op && (p.Field == q.Field && (p.Key == q.Key && (eqV p.Value q.Value && eqL p.Args q.Args)))) := by cases p; cases q; rfl
theorem eqL_len : ∀ {l m : List GPred}, l.length ≠ m.length → eqL l m = false
  | [], [], h => absurd rfl h
  | [], _ :: _, _ => rfl
  | _ :: _, [], _ => rfl
  | p :: l, q :: m, h => by
    simp only [eqL, eqL_len (l := l) (m := m) (by simpa using h), Bool.and_false]
theorem eqL_drop {l m : List GPred} {i : Nat} (h : i < l.length) (h' : i < m.length) : eqL (l.drop i) (m.drop i) = (eqP l[i] m[i] && eqL (l.drop (i + 1)) (m.drop (i + 1))) := by
  rw [List.drop_eq_getElem_cons h, List.drop_eq_getElem_cons h']; rfl
theorem eqV_refl (a : GValue) : eqV a a = true := by simp [eqV]
theorem eqP_refl : ∀ p : GPred, eqP p p = true := by
  refine GPred.byW fun p ih => ?_
  rw [eqP_eq, eqV_refl]
  have : eqL p.Args p.Args = true := by
    have key : ∀ l : List GPred, (∀ q ∈ l, eqP q q = true) → eqL l l = true := by
      intro l
      induction l with
      | nil => intro _; rfl
      | cons q l ihl => intro h; simp only [eqL, h q List.mem_cons_self, ihl fun x hx => h x (List.mem_cons_of_mem _ hx), Bool.and_self]
    exact key _ fun q hq => ih q (wP_arg hq)
  simp [this]
theorem bne_ofNat (a b : Nat) : (((a : Int)) != (b : Int)) = !(a == b) := by
  rw [Bool.eq_iff_iff]; simp [bne]; omega
theorem samePred_eq : ∀ p : GPred, ∀ (q : GPred) (k : Nat), wP p ≤ 9223372036854775806 → 4 * wP p ≤ k → l36_samePred k p q = some (eqP p q) := by
  refine GPred.byW fun p ih => ?_
  intro q k hc hk
  have hw := wP_eq p
  have loop : ∀ (d i k : Nat), p.Args.length = q.Args.length → i + d = p.Args.length → 4 * wL (p.Args.drop i) + 1 ≤ k → l36_samePred_l2 k p q (i : Int) = some (eqL (p.Args.drop i) (q.Args.drop i)) := by
    intro d
    induction d with
    | zero =>
      intro i k hl hi hk
      obtain ⟨k, rfl⟩ : ∃ m, k = m + 1 := ⟨k - 1, by omega⟩
      rw [l36_samePred_l2, if_neg (by simp; omega), List.drop_eq_nil_of_le (by omega), List.drop_eq_nil_of_le (by omega)]; rfl
    | succ d ihd =>
      intro i k hl hi hk
      obtain ⟨k, rfl⟩ : ∃ m, k = m + 1 := ⟨k - 1, by omega⟩
      have h1 : i < p.Args.length := by omega
      have h2 : i < q.Args.length := by omega
      have hd := wL_drop h1
      have hm : wP p.Args[i] < wP p := wP_arg (List.getElem_mem h1)
      have hpos := wP_pos p.Args[i]
      have hlen := wL_len p.Args
      rw [l36_samePred_l2, if_pos (by simp; omega), chk_pos (dec_nonneg i), toNat_cast, List.getElem?_eq_getElem h1, Option.bind_some, chk_pos (dec_nonneg i), List.getElem?_eq_getElem h2, Option.bind_some,
        ih _ hm _ k (by omega) (by omega), Option.bind_some, w64_succ (by omega), ihd (i + 1) k hl (by omega) (by omega), eqL_drop h1 h2]
      cases eqP p.Args[i] q.Args[i] <;> simp
  obtain ⟨k, rfl⟩ : ∃ m, k = m + 3 := ⟨k - 3, by omega⟩
  have j1 : l36_samePred_j1 (k + 2) p q true = some false := by rw [l36_samePred_j1, if_pos rfl]
  rw [l36_samePred, j1, eqP_eq]
  have hv : ((p.Value.Kind == q.Value.Kind) && ((p.Value.Text == q.Value.Text) && ((p.Value.Int == q.Value.Int) && true))) = eqV p.Value q.Value := rfl
  have ho : (p.Op != q.Op) = !(p.Op == q.Op) := rfl
  rw [hv, ho, bne_ofNat, l36_samePred_j1]
  by_cases hl : p.Args.length = q.Args.length
  · have := loop p.Args.length 0 (k + 1) hl (by omega) (by rw [List.drop_zero]; omega)
    simp only [List.drop_zero] at this
    have h0 : ((0 : Nat) : Int) = 0 := rfl
    rw [h0] at this
    rw [this, hl]
    cases (p.Op == q.Op) <;> cases (p.Field == q.Field) <;> cases (p.Key == q.Key) <;> cases eqV p.Value q.Value <;> simp
  · have hb : (p.Args.length == q.Args.length) = false := by simpa using hl
    rw [eqL_len hl, hb]
    cases (p.Op == q.Op) <;> cases (p.Field == q.Field) <;> cases (p.Key == q.Key) <;> cases eqV p.Value q.Value <;> simp
theorem EqualPred_eq : ∀ p : GPred, ∀ (q : GPred) (k : Nat), wP p ≤ 9223372036854775806 → 4 * wP p ≤ k → syntax_EqualPred k p q = some (eqP p q) := by
  refine GPred.byW fun p ih => ?_
  intro q k hc hk
  have hw := wP_eq p
  have loop : ∀ (d i k : Nat), p.Args.length = q.Args.length → i + d = p.Args.length → 4 * wL (p.Args.drop i) + 1 ≤ k → slices_EqualFunc_api_Pred_l1 k p.Args q.Args (i : Int) = some (eqL (p.Args.drop i) (q.Args.drop i)) := by
    intro d
    induction d with
    | zero =>
      intro i k hl hi hk
      obtain ⟨k, rfl⟩ : ∃ m, k = m + 1 := ⟨k - 1, by omega⟩
      rw [slices_EqualFunc_api_Pred_l1, if_neg (by simp; omega), List.drop_eq_nil_of_le (by omega), List.drop_eq_nil_of_le (by omega)]; rfl
    | succ d ihd =>
      intro i k hl hi hk
      obtain ⟨k, rfl⟩ : ∃ m, k = m + 1 := ⟨k - 1, by omega⟩
      have h1 : i < p.Args.length := by omega
      have h2 : i < q.Args.length := by omega
      have hd := wL_drop h1
      have hm : wP p.Args[i] < wP p := wP_arg (List.getElem_mem h1)
      have hpos := wP_pos p.Args[i]
      have hlen := wL_len p.Args
      rw [slices_EqualFunc_api_Pred_l1, if_pos (by simp; omega), chk_pos (dec_nonneg i), toNat_cast, List.getElem?_eq_getElem h1, Option.bind_some, chk_pos (dec_nonneg i), List.getElem?_eq_getElem h2, Option.bind_some,
        ih _ hm _ k (by omega) (by omega), Option.bind_some, w64_succ (by omega), ihd (i + 1) k hl (by omega) (by omega), eqL_drop h1 h2]
      cases eqP p.Args[i] q.Args[i] <;> simp
  obtain ⟨k, rfl⟩ : ∃ m, k = m + 3 := ⟨k - 3, by omega⟩
  rw [syntax_EqualPred, eqP_eq]
  have hv : ((p.Value.Kind == q.Value.Kind) && ((p.Value.Text == q.Value.Text) && ((p.Value.Int == q.Value.Int) && true))) = eqV p.Value q.Value := rfl
  rw [hv, slices_EqualFunc_api_Pred, bne_ofNat]
  by_cases hl : p.Args.length = q.Args.length
  · have := loop p.Args.length 0 (k + 1) hl (by omega) (by rw [List.drop_zero]; omega)
    simp only [List.drop_zero] at this
    have h0 : ((0 : Nat) : Int) = 0 := rfl
    rw [h0] at this
    rw [this, hl]
    cases (p.Op == q.Op) <;> cases (p.Field == q.Field) <;> cases (p.Key == q.Key) <;> cases eqV p.Value q.Value <;> simp
  · have hb : (p.Args.length == q.Args.length) = false := by simpa using hl
    rw [eqL_len hl, hb]
    cases (p.Op == q.Op) <;> cases (p.Field == q.Field) <;> cases (p.Key == q.Key) <;> cases eqV p.Value q.Value <;> simp
def withinB (lo hi : Nat) (s : Str) : Bool := s.all fun c => decide (lo ≤ c.toNat) && decide (c.toNat ≤ hi)
theorem within_l (s : Str) (lo hi : Nat) (hs : s.length ≤ 9223372036854775806) : ∀ (d i k : Nat), i + d = s.length → d < k → attribute_within_l1 k s (lo : Int) (hi : Int) (i : Int) = some (withinB lo hi (s.drop i))
  | d, i, 0, _, h => by omega
  | 0, i, k + 1, hd, _ => by
    rw [attribute_within_l1, if_neg (by simp; omega), List.drop_eq_nil_of_le (by omega)]; rfl
  | d + 1, i, k + 1, hd, hk => by
    have hi' : i < s.length := by omega
    rw [attribute_within_l1, if_pos (by simp; omega), chk_pos (dec_nonneg i), toNat_cast, List.getElem?_eq_getElem hi', Option.bind_some, chk_pos (dec_nonneg i), Option.bind_some, w64_succ (by omega),
      within_l s lo hi hs d (i + 1) k (by omega) (by omega), List.drop_eq_getElem_cons hi']
    have e1 : decide ((s[i].toNat : Int) < (lo : Int)) = !decide (lo ≤ s[i].toNat) := by rw [Bool.eq_iff_iff]; simp
    have e2 : decide ((s[i].toNat : Int) > (hi : Int)) = !decide (s[i].toNat ≤ hi) := by rw [Bool.eq_iff_iff]; simp
    rw [e1, e2]
    simp only [withinB, List.all_cons]
    cases decide (lo ≤ s[i].toNat) <;> cases decide (s[i].toNat ≤ hi) <;> simp
theorem within_eq {s : Str} {k : Nat} (lo hi : Nat) (hs : s.length ≤ 9223372036854775806) (hk : s.length < k) : attribute_within k s (lo : Int) (hi : Int) = some (withinB lo hi s) := by
  unfold attribute_within
  have := within_l s lo hi hs s.length 0 k (by omega) hk
  simpa using this
def nameB (s : Str) : Bool := !(s == w_0) && decide (s.length ≤ 64) && withinB 33 126 s
theorem IsName_eq {s : Str} {k : Nat} (hs : s.length ≤ 9223372036854775806) (hk : s.length < k) : attribute_IsName k s = some (nameB s) := by
  unfold attribute_IsName
  have h := within_eq 33 126 hs hk
  have h' : attribute_within k s 33 126 = some (withinB 33 126 s) := h
  rw [h', dec_len]
  unfold nameB
  cases (s == w_0) <;> cases decide (s.length ≤ 64) <;> simp
def valE1 (v : GValue) (b : Bool) : Int := if decide ((v.Text.length : Int) > 4096) = true then 5 else if (!b) = true then 3 else 0
def valE (v : GValue) : Int :=
  if (v.Kind == 1) = true then valE1 v (withinB 32 126 v.Text && v.Int == 0)
  else if (v.Kind == 2) = true then valE1 v (v.Text == w_0 && (decide (v.Int ≥ (-1099511627776)) && decide (v.Int ≤ 1099511627776)))
  else if (v.Kind == 3) = true then valE1 v (v.Text == w_0 && (v.Int == 0 || v.Int == 1)) else 12
theorem valE1_eq (v : GValue) (b : Bool) : attribute_CheckValue_j1 v b = some (valE1 v b) := by
  unfold attribute_CheckValue_j1 valE1
  split
  · rfl
  · split <;> rfl
theorem CheckValue_eq {v : GValue} {k : Nat} (hs : v.Text.length ≤ 9223372036854775806) (hk : v.Text.length < k) : attribute_CheckValue k v = some (valE v) := by
  unfold attribute_CheckValue valE
  have h : attribute_within k v.Text 32 126 = some (withinB 32 126 v.Text) := within_eq 32 126 hs hk
  simp only [h, Option.bind_some, valE1_eq]
  cases (v.Kind == 1) <;> cases (v.Kind == 2) <;> cases (v.Kind == 3) <;> cases withinB 32 126 v.Text <;> cases (v.Text == w_0) <;> cases decide (v.Int ≥ (-1099511627776)) <;> cases (v.Int == 0) <;> simp
def isT (p : GPred) : Bool := p.Op == 5 || (p.Op == 6 || p.Op == 7)
theorem isTest_eq (p : GPred) : attribute_isTest p = some (isT p) := by
  unfold attribute_isTest isT
  cases (p.Op == 5) <;> cases (p.Op == 6) <;> simp
def nE5 (p : GPred) : Int := if (valE p.Value != 0) = true then valE p.Value else if ((p.Op == 6 && p.Value.Kind == 3) || (p.Op == 7 && p.Value.Kind != 1)) = true then 13 else 0
def nE7 (p : GPred) (r x : Bool) : Int := if x = true then 11 else if (!r) = true then 0 else if (!nameB p.Field || ((p.Field == w_attr && !nameB p.Key) || (!(p.Field == w_attr) && !(p.Key == w_0)))) = true then 11 else nE5 p
def nE6 (p : GPred) (r x : Bool) : Int := if x = true then 3 else nE7 p r (p.Op == 4 && !nameB p.Key)
def nE2 (p : GPred) (ok : Bool) : Int :=
  nE6 p (isT p) (!ok || ((!isT p && (!(p.Field == w_0) || !(eqV p.Value ⟨0, w_0, 0⟩))) || (!isT p && (!(p.Op == 4) && !(p.Key == w_0)))))
def nodeE (p : GPred) : Int :=
  if (p.Op == 1 || p.Op == 2) = true then nE2 p (decide ((p.Args.length : Int) ≥ 1)) else if (p.Op == 3) = true then nE2 p ((p.Args.length : Int) == 1)
  else if (p.Op == 0 || (p.Op == 4 || (p.Op == 5 || (p.Op == 6 || p.Op == 7)))) = true then nE2 p ((p.Args.length : Int) == 0) else 12
section
variable {p : GPred} {k : Nat} (hc : wP p ≤ 9223372036854775806) (hk : wP p < k)
include hc hk
theorem j5_eq : attribute_checkNode_j5 k p = some (nE5 p) := by
  have hw := wP_eq p
  unfold attribute_checkNode_j5 nE5
  rw [CheckValue_eq (by omega) (by omega), Option.bind_some]
  cases (valE p.Value != 0) <;> cases (p.Op == 6) <;> cases (p.Value.Kind == 3) <;> cases (p.Op == 7) <;> cases (p.Value.Kind != 1) <;> simp
theorem j7_eq (r x : Bool) : attribute_checkNode_j7 k p r x = some (nE7 p r x) := by
  have hw := wP_eq p
  unfold attribute_checkNode_j7 nE7
  simp only [IsName_eq (s := p.Field) (k := k) (by omega) (by omega), IsName_eq (s := p.Key) (k := k) (by omega) (by omega), Option.bind_some, j5_eq hc hk]
  cases x <;> cases r <;> cases nameB p.Field <;> cases (p.Field == w_attr) <;> cases nameB p.Key <;> cases (p.Key == w_0) <;> simp
theorem j6_eq (r x : Bool) : attribute_checkNode_j6 k p r x = some (nE6 p r x) := by
  have hw := wP_eq p
  unfold attribute_checkNode_j6 nE6
  simp only [IsName_eq (s := p.Key) (k := k) (by omega) (by omega), Option.bind_some, j7_eq hc hk]
  cases x <;> cases (p.Op == 4) <;> simp
theorem j2_eq (ok : Bool) : attribute_checkNode_j2 k p ok = some (nE2 p ok) := by
  unfold attribute_checkNode_j2 nE2
  have hv : ((p.Value.Kind == 0) && ((p.Value.Text == w_0) && ((p.Value.Int == 0) && true))) = eqV p.Value ⟨0, w_0, 0⟩ := rfl
  simp only [isTest_eq, Option.bind_some, j6_eq hc hk, hv]
  cases ok <;> cases isT p <;> cases (p.Field == w_0) <;> cases eqV p.Value ⟨0, w_0, 0⟩ <;> cases (p.Op == 4) <;> cases (p.Key == w_0) <;> simp
theorem checkNode_eq : attribute_checkNode k p = some (nodeE p) := by
  unfold attribute_checkNode attribute_checkNode_j8 nodeE
  simp only [j2_eq hc hk]
  cases (p.Op == 1) <;> cases (p.Op == 2) <;> cases (p.Op == 3) <;> cases (p.Op == 0) <;> cases (p.Op == 4) <;> cases (p.Op == 5) <;> cases (p.Op == 6) <;> cases (p.Op == 7) <;> simp
end
mutual
def visP : GPred → Int → Int → Int × Int
  | ⟨o, f, ke, v, a⟩, lev, n => if decide (n ≥ 64) = true then (n, 6) else if decide (lev > 16) = true then (n, 15) else if (nodeE ⟨o, f, ke, v, a⟩ != 0) = true then (n + 1, nodeE ⟨o, f, ke, v, a⟩) else visL a (lev + 1) (n + 1)
def visL : List GPred → Int → Int → Int × Int
  | [], _, n => (n, 0)
  | p :: l, lev, n => if ((visP p lev n).2 != 0) = true then visP p lev n else visL l lev (visP p lev n).1
end
theorem visP_eq (p : GPred) (lev n : Int) : visP p lev n = if decide (n ≥ 64) = true then (n, 6) else if decide (lev > 16) = true then (n, 15) else if (nodeE p != 0) = true then (n + 1, nodeE p) else visL p.Args (lev + 1) (n + 1) := by cases p; rfl
theorem vis_bound : ∀ p : GPred, ∀ lev n : Int, 0 ≤ n → n ≤ 64 → 0 ≤ (visP p lev n).1 ∧ (visP p lev n).1 ≤ 64 := by
  refine GPred.byW fun p ih => ?_
  intro lev n h0 h1
  rw [visP_eq]
  split
  · exact ⟨h0, h1⟩
  rename_i hn
  have hn : ¬ n ≥ 64 := by simpa using hn
  split
  · exact ⟨h0, h1⟩
  split
  · exact ⟨by show 0 ≤ n + 1; omega, by show n + 1 ≤ 64; omega⟩
  have key : ∀ l : List GPred, (∀ q ∈ l, q ∈ p.Args) → ∀ n : Int, 0 ≤ n → n ≤ 64 → 0 ≤ (visL l (lev + 1) n).1 ∧ (visL l (lev + 1) n).1 ≤ 64 := by
    intro l
    induction l with
    | nil => intro _ n h0 h1; exact ⟨h0, h1⟩
    | cons q l ihl =>
      intro hm n h0 h1
      have := ih q (wP_arg (hm q List.mem_cons_self)) (lev + 1) n h0 h1
      simp only [visL]
      split
      · exact this
      · exact ihl (fun x hx => hm x (List.mem_cons_of_mem _ hx)) _ this.1 this.2
  exact key _ (fun q h => h) _ (by omega) (by omega)
theorem vis_eq : ∀ p : GPred, ∀ (lev n : Int) (k : Nat), wP p ≤ 9223372036854775806 → 4 * wP p ≤ k → 0 ≤ lev → lev ≤ 17 → 0 ≤ n → n ≤ 64 → attribute_Check_c1 k p lev n = some (visP p lev n) := by
  refine GPred.byW fun p ih => ?_
  intro lev n k hc hk hl0 hl1 h0 h1
  have hw := wP_eq p
  have hp := wP_pos p
  obtain ⟨k, rfl⟩ : ∃ m, k = m + 1 := ⟨k - 1, by omega⟩
  rw [attribute_Check_c1, visP_eq, checkNode_eq hc (by omega), Option.bind_some, w64_id (by omega) (by omega)]
  cases hn' : decide (n ≥ 64)
  case true => simp
  cases hlv' : decide (lev > 16)
  case true => simp
  have hn := of_decide_eq_false hn'
  have hlv := of_decide_eq_false hlv'
  cases hE : (nodeE p != 0)
  case true => simp
  simp only [Bool.false_eq_true, if_false]
  have loop : ∀ (d i k : Nat) (n : Int), i + d = p.Args.length → 4 * wL (p.Args.drop i) + 1 ≤ k → 0 ≤ n → n ≤ 64 → attribute_Check_c1_l1 k p lev n (i : Int) = some (visL (p.Args.drop i) (lev + 1) n) := by
    intro d
    induction d with
    | zero =>
      intro i k n hi hk h0 h1
      obtain ⟨k, rfl⟩ : ∃ m, k = m + 1 := ⟨k - 1, by omega⟩
      rw [attribute_Check_c1_l1, if_neg (by simp; omega), List.drop_eq_nil_of_le (by omega)]; rfl
    | succ d ihd =>
      intro i k n hi hk h0 h1
      obtain ⟨k, rfl⟩ : ∃ m, k = m + 1 := ⟨k - 1, by omega⟩
      have h1' : i < p.Args.length := by omega
      have hd := wL_drop h1'
      have hm : wP p.Args[i] < wP p := wP_arg (List.getElem_mem h1')
      have hpos := wP_pos p.Args[i]
      have hlen := wL_len p.Args
      have hb := vis_bound p.Args[i] (lev + 1) n h0 h1
      rw [attribute_Check_c1_l1, if_pos (by simp; omega), chk_pos (dec_nonneg i), toNat_cast, List.getElem?_eq_getElem h1', Option.bind_some, w64_id (x := lev + 1) (by omega) (by omega),
        ih _ hm _ _ k (by omega) (by omega) (by omega) (by omega) h0 h1, Option.bind_some, w64_succ (by omega), ihd (i + 1) k _ (by omega) (by omega) hb.1 hb.2, List.drop_eq_getElem_cons h1']
      simp only [visL]
      split <;> rfl
  have := loop p.Args.length 0 k (n + 1) (by omega) (by rw [List.drop_zero]; omega) (by omega) (by omega)
  simpa using this
def chkA (p : GPred) : Int := (visP p 1 0).2
theorem Check_eq {p : GPred} {k : Nat} (hc : wP p ≤ 9223372036854775806) (hk : 4 * wP p ≤ k) : attribute_Check k p = some (chkA p) := by
  unfold attribute_Check
  rw [vis_eq p 1 0 k hc hk (by omega) (by omega) (by omega) (by omega)]; rfl
mutual
def anyP (f : GPred → Bool) : GPred → Bool
  | ⟨o, fi, ke, v, a⟩ => f ⟨o, fi, ke, v, a⟩ || anyL f a
def anyL (f : GPred → Bool) : List GPred → Bool
  | [] => false
  | p :: l => anyP f p || anyL f l
end
theorem anyP_eq (f : GPred → Bool) (p : GPred) : anyP f p = (f p || anyL f p.Args) := by cases p; rfl
theorem anyL_drop {f : GPred → Bool} {l : List GPred} {i : Nat} (h : i < l.length) : anyL f (l.drop i) = (anyP f l[i] || anyL f (l.drop (i + 1))) := by rw [List.drop_eq_getElem_cons h]; rfl
def formB (p : GPred) : Bool := (p.Op == 1 || p.Op == 2) && decide ((p.Args.length : Int) < 2)
def fieldB (p : GPred) : Bool := decide (p.Op ≥ 5) && (!(p.Field == w_attr) && !fldB p.Field)
theorem c1_eq (p : GPred) : syntax_CheckPred_c1 p = some (formB p) := by
  unfold syntax_CheckPred_c1 formB
  cases (p.Op == 1) <;> cases (p.Op == 2) <;> simp
theorem c2_eq {p : GPred} {k : Nat} (hc : wP p ≤ 9223372036854775806) (hk : wP p < k) : syntax_CheckPred_c2 k p = some (fieldB p) := by
  have hw := wP_eq p
  unfold syntax_CheckPred_c2 fieldB
  rw [IsField_eq (by omega) (by omega), Option.bind_some]
  cases decide (p.Op ≥ 5) <;> cases (p.Field == w_attr) <;> simp
theorem inTree_eq : ∀ p : GPred, ∀ k : Nat, wP p ≤ 9223372036854775806 → 8 * wP p ≤ k → syntax_inTree k p = some (anyP formB p) := by
  refine GPred.byW fun p ih => ?_
  intro k hc hk
  have hw := wP_eq p
  have hp := wP_pos p
  have hlen := wL_len p.Args
  have loop : ∀ (d i k : Nat), i + d = p.Args.length → 8 * wL (p.Args.drop i) + 2 ≤ k → ∃ r, slices_IndexFunc_api_Pred_l1 k p.Args (i : Int) = some r ∧ decide (r ≥ 0) = anyL formB (p.Args.drop i) := by
    intro d
    induction d with
    | zero =>
      intro i k hi hk
      obtain ⟨k, rfl⟩ : ∃ m, k = m + 1 := ⟨k - 1, by omega⟩
      refine ⟨-1, by rw [slices_IndexFunc_api_Pred_l1, if_neg (by simp; omega)], by rw [List.drop_eq_nil_of_le (by omega)]; rfl⟩
    | succ d ihd =>
      intro i k hi hk
      obtain ⟨k, rfl⟩ : ∃ m, k = m + 2 := ⟨k - 2, by have := wL_drop (l := p.Args) (i := i) (by omega); have := wP_pos (p.Args[i]'(by omega)); omega⟩
      have h1 : i < p.Args.length := by omega
      have hd := wL_drop h1
      have hm : wP p.Args[i] < wP p := wP_arg (List.getElem_mem h1)
      have hpos := wP_pos p.Args[i]
      obtain ⟨r, hr, hr2⟩ := ihd (i + 1) (k + 1) (by omega) (by omega)
      have hc1 : syntax_inTree_c1 (k + 1) p.Args[i] = some (anyP formB p.Args[i]) := by
        rw [syntax_inTree_c1, ih _ hm k (by omega) (by omega)]; rfl
      rw [slices_IndexFunc_api_Pred_l1, if_pos (by simp; omega), chk_pos (dec_nonneg i), toNat_cast, List.getElem?_eq_getElem h1, Option.bind_some, hc1, Option.bind_some, w64_succ (by omega), anyL_drop h1]
      cases anyP formB p.Args[i] with
      | true => exact ⟨_, rfl, by simp⟩
      | false => exact ⟨r, by simpa using hr, by simpa using hr2⟩
  obtain ⟨k, rfl⟩ : ∃ m, k = m + 3 := ⟨k - 3, by omega⟩
  obtain ⟨r, hr, hr2⟩ := loop p.Args.length 0 k (by omega) (by rw [List.drop_zero]; omega)
  have hr' : slices_IndexFunc_api_Pred_l1 k p.Args 0 = some r := hr
  rw [syntax_inTree, c1_eq, Option.bind_some, slices_ContainsFunc_api_Pred, slices_IndexFunc_api_Pred, hr', Option.bind_some, Option.bind_some, anyP_eq, hr2, List.drop_zero]
  cases formB p <;> simp
theorem inTree_i1_eq : ∀ p : GPred, ∀ k : Nat, wP p ≤ 9223372036854775806 → 8 * wP p ≤ k → syntax_inTree_i1 k p = some (anyP fieldB p) := by
  refine GPred.byW fun p ih => ?_
  intro k hc hk
  have hw := wP_eq p
  have hp := wP_pos p
  have hlen := wL_len p.Args
  have loop : ∀ (d i k : Nat), i + d = p.Args.length → 8 * wL (p.Args.drop i) + 2 ≤ k → ∃ r, slices_IndexFunc_api_Pred_i1_l1 k p.Args (i : Int) = some r ∧ decide (r ≥ 0) = anyL fieldB (p.Args.drop i) := by
    intro d
    induction d with
    | zero =>
      intro i k hi hk
      obtain ⟨k, rfl⟩ : ∃ m, k = m + 1 := ⟨k - 1, by omega⟩
      refine ⟨-1, by rw [slices_IndexFunc_api_Pred_i1_l1, if_neg (by simp; omega)], by rw [List.drop_eq_nil_of_le (by omega)]; rfl⟩
    | succ d ihd =>
      intro i k hi hk
      obtain ⟨k, rfl⟩ : ∃ m, k = m + 2 := ⟨k - 2, by have := wL_drop (l := p.Args) (i := i) (by omega); have := wP_pos (p.Args[i]'(by omega)); omega⟩
      have h1 : i < p.Args.length := by omega
      have hd := wL_drop h1
      have hm : wP p.Args[i] < wP p := wP_arg (List.getElem_mem h1)
      have hpos := wP_pos p.Args[i]
      obtain ⟨r, hr, hr2⟩ := ihd (i + 1) (k + 1) (by omega) (by omega)
      have hc1 : syntax_inTree_c1_i1 (k + 1) p.Args[i] = some (anyP fieldB p.Args[i]) := by
        rw [syntax_inTree_c1_i1, ih _ hm k (by omega) (by omega)]; rfl
      rw [slices_IndexFunc_api_Pred_i1_l1, if_pos (by simp; omega), chk_pos (dec_nonneg i), toNat_cast, List.getElem?_eq_getElem h1, Option.bind_some, hc1, Option.bind_some, w64_succ (by omega), anyL_drop h1]
      cases anyP fieldB p.Args[i] with
      | true => exact ⟨_, rfl, by simp⟩
      | false => exact ⟨r, by simpa using hr, by simpa using hr2⟩
  obtain ⟨k, rfl⟩ : ∃ m, k = m + 3 := ⟨k - 3, by omega⟩
  obtain ⟨r, hr, hr2⟩ := loop p.Args.length 0 k (by omega) (by rw [List.drop_zero]; omega)
  have hr' : slices_IndexFunc_api_Pred_i1_l1 k p.Args 0 = some r := hr
  rw [syntax_inTree_i1, c2_eq hc (by omega), Option.bind_some, slices_ContainsFunc_api_Pred_i1, slices_IndexFunc_api_Pred_i1, hr', Option.bind_some, Option.bind_some, anyP_eq, hr2, List.drop_zero]
  cases fieldB p <;> simp
theorem fits_eq (b : Bool) : ∀ p : GPred, ∀ k : Nat, wP p ≤ 9223372036854775806 → 8 * wP p + 40 ≤ k → l36_fits k p b = some (!anyP (if b = true then fieldB else formB) p) := by
  refine GPred.byW fun p ih => ?_
  intro k hc hk
  have hw := wP_eq p
  have hp := wP_pos p
  have hlen := wL_len p.Args
  have loop : ∀ (d i k : Nat), i + d = p.Args.length → 8 * wL (p.Args.drop i) + 41 ≤ k → l36_fits_l2 k p b (i : Int) = some (!anyL (if b = true then fieldB else formB) (p.Args.drop i)) := by
    intro d
    induction d with
    | zero =>
      intro i k hi hk
      obtain ⟨k, rfl⟩ : ∃ m, k = m + 1 := ⟨k - 1, by omega⟩
      rw [l36_fits_l2, if_neg (by simp; omega), List.drop_eq_nil_of_le (by omega)]; rfl
    | succ d ihd =>
      intro i k hi hk
      obtain ⟨k, rfl⟩ : ∃ m, k = m + 1 := ⟨k - 1, by omega⟩
      have h1 : i < p.Args.length := by omega
      have hd := wL_drop h1
      have hm : wP p.Args[i] < wP p := wP_arg (List.getElem_mem h1)
      have hpos := wP_pos p.Args[i]
      rw [l36_fits_l2, if_pos (by simp; omega), chk_pos (dec_nonneg i), toNat_cast, List.getElem?_eq_getElem h1, Option.bind_some, ih _ hm k (by omega) (by omega), Option.bind_some, w64_succ (by omega), ihd (i + 1) k (by omega) (by omega), anyL_drop h1]
      cases anyP (if b = true then fieldB else formB) p.Args[i] <;> simp
  obtain ⟨k, rfl⟩ : ∃ m, k = m + 2 := ⟨k - 2, by omega⟩
  have hl := loop p.Args.length 0 k (by omega) (by rw [List.drop_zero]; omega)
  have hl' : l36_fits_l2 k p b 0 = some (!anyL (if b = true then fieldB else formB) p.Args) := by simpa using hl
  have hj : l36_fits_j1 (k + 1) p b = some (!anyL (if b = true then fieldB else formB) p.Args) := by rw [l36_fits_j1, hl']
  rw [l36_fits, anyP_eq]
  cases b with
  | true =>
    rw [if_pos rfl, lfield_eq (by omega) (by omega) (by omega), Option.bind_some, hj]
    simp only [if_true, fieldB]
    cases decide (p.Op ≥ 5) <;> cases fldB p.Field <;> cases (p.Field == w_attr) <;> simp
  | false =>
    rw [if_neg (by simp), hj]
    simp only [Bool.false_eq_true, if_false, formB]
    cases (p.Op == 1) <;> cases (p.Op == 2) <;> cases decide ((p.Args.length : Int) < 2) <;> simp
def chkP (p : GPred) : Int := if (chkA p != 0) = true then chkA p else if anyP formB p = true then 3 else if anyP fieldB p = true then 11 else 0
theorem CheckPred_eq {p : GPred} {k : Nat} (hc : wP p ≤ 9223372036854775806) (hk : 8 * wP p ≤ k) : syntax_CheckPred k p = some (chkP p) := by
  unfold syntax_CheckPred chkP
  rw [Check_eq hc (by omega), Option.bind_some, inTree_eq p k hc hk, Option.bind_some, inTree_i1_eq p k hc hk, Option.bind_some]
  cases (chkA p != 0) <;> cases anyP formB p <;> cases anyP fieldB p <;> simp
theorem checkPred_eq {p : GPred} {k : Nat} (hc : wP p ≤ 9223372036854775806) (hk : 8 * wP p + 40 ≤ k) : l36_checkPred k p = some (chkP p) := by
  unfold l36_checkPred chkP
  rw [Check_eq hc (by omega), Option.bind_some, fits_eq false p k hc hk, Option.bind_some, fits_eq true p k hc hk, Option.bind_some]
  simp only [Bool.false_eq_true, if_false, if_true]
  cases (chkA p != 0) <;> cases anyP formB p <;> cases anyP fieldB p <;> simp
structure PTk where
  k : Int
  s : Str
  txt : Str
def spB (ak : Int) (sa : Str) (bk : Int) (sb : Str) : Bool :=
  (ak == 4 && (sa == wx2c || (sa == wx3d || sa == wx3c))) || ((bk == 4 && (sb == wx3d || sb == wx3c)) || ((bk == 1 && !(ak == 4 && namesT.contains sa)) || (ak == 1 && !(bk == 4 && (sb == wx2828 || namesC.contains sb)))))
def unp (s : Str) : Str := if (s == wx2828) = true then wx28 else s
structure PW where
  b : Str
  k : Int
  s : Str
def toI (l : Str) : List Int := l.map fun b : UInt8 => (b.toNat : Int)
theorem toI_append (a b : Str) : toI (a ++ b) = toI a ++ toI b := List.map_append
theorem toI_len (a : Str) : (toI a).length = a.length := List.length_map ..
theorem ofI (a : Str) : (toI a).map (fun q : Int => UInt8.ofNat q.toNat) = a := by
  rw [toI, List.map_map]
  have : ((fun q : Int => UInt8.ofNat q.toNat) ∘ fun b : UInt8 => (b.toNat : Int)) = id := by
    funext b
    simp
  rw [this, List.map_id]
def PW.w (x : PW) : SWriter := ⟨toI x.b, ⟨x.k, 0, x.s, 0⟩⟩
def PW.sp (x : PW) (t : PTk) : Str := if (decide (0 < x.b.length) && spB x.k x.s t.k t.s) = true then [32] else []
def PW.put (x : PW) (t : PTk) : PW := ⟨x.b ++ x.sp t ++ t.txt, t.k, unp t.s⟩
def PW.puts (x : PW) (l : List PTk) : PW := l.foldl PW.put x
theorem PW.puts_append (x : PW) (l m : List PTk) : x.puts (l ++ m) = (x.puts l).puts m := List.foldl_append ..
theorem PW.puts_cons (x : PW) (t : PTk) (l : List PTk) : x.puts (t :: l) = (x.put t).puts l := rfl
def tb : List PTk → Nat
  | [] => 0
  | t :: l => t.txt.length + 1 + tb l
theorem tb_append (l m : List PTk) : tb (l ++ m) = tb l + tb m := by
  induction l with
  | nil => simp [tb]
  | cons t l ih => simp only [List.cons_append, tb, ih]; omega
theorem PW.put_len (x : PW) (t : PTk) : (x.put t).b.length ≤ x.b.length + 1 + t.txt.length := by
  simp only [PW.put, PW.sp, List.length_append]
  split <;> simp <;> omega
theorem PW.puts_len (l : List PTk) : ∀ x : PW, (x.puts l).b.length ≤ x.b.length + tb l := by
  induction l with
  | nil => intro x; exact Nat.le_refl _
  | cons t l ih => intro x; have := ih (x.put t); have := x.put_len t; rw [PW.puts_cons]; simp only [tb]; omega
theorem index_l (l : List Str) (s : Str) (hl : l.length ≤ 100) : ∀ (d i k : Nat), i + d = l.length → d < k → ∃ r, slices_Index_string_l1 k l s (i : Int) = some r ∧ decide (r ≥ 0) = (l.drop i).contains s
  | d, i, 0, _, h => by omega
  | 0, i, k + 1, hd, _ => ⟨-1, by rw [slices_Index_string_l1, if_neg (by simp; omega)], by rw [List.drop_eq_nil_of_le (by omega)]; rfl⟩
  | d + 1, i, k + 1, hd, hk => by
    have hi : i < l.length := by omega
    obtain ⟨r, hr, hr2⟩ := index_l l s hl d (i + 1) k (by omega) (by omega)
    rw [slices_Index_string_l1, if_pos (by simp; omega), chk_pos (dec_nonneg i), toNat_cast, List.getElem?_eq_getElem hi, Option.bind_some, w64_succ (by omega), List.drop_eq_getElem_cons hi, List.contains_cons]
    cases hx : (s == l[i]) with
    | true => exact ⟨_, by rw [if_pos rfl], by simp⟩
    | false => exact ⟨r, by rw [if_neg (by simp)]; exact hr, by simpa using hr2⟩
theorem Contains_eq {l : List Str} {s : Str} {k : Nat} (hl : l.length ≤ 100) (hk : l.length < k) : slices_Contains_string k l s = some (l.contains s) := by
  unfold slices_Contains_string slices_Index_string
  obtain ⟨r, hr, hr2⟩ := index_l l s hl l.length 0 k (by omega) hk
  have hr' : slices_Index_string_l1 k l s 0 = some r := hr
  rw [hr', Option.bind_some, hr2, List.drop_zero]
theorem spaced_eq {a b : SToken} {k : Nat} (hk : 10 < k) : syntax_spaced k a b = some (spB a.kind a.s_ b.kind b.s_) := by
  have h1 : slices_Contains_string k namesT a.s_ = some (namesT.contains a.s_) := Contains_eq (by decide) (by have : namesT.length = 3 := rfl; omega)
  have h2 : slices_Contains_string k namesC b.s_ = some (namesC.contains b.s_) := Contains_eq (by decide) (by have : namesC.length = 5 := rfl; omega)
  unfold syntax_spaced syntax_spaced_j1 syntax_spaced_j2 spB
  rw [h1, h2]
  generalize namesT.contains a.s_ = c1
  generalize namesC.contains b.s_ = c2
  simp only [Option.bind_some]
  cases (a.kind == 4) <;> cases (b.kind == 4) <;> cases (a.kind == 1) <;> cases (b.kind == 1) <;> cases (a.s_ == wx2c) <;> cases (a.s_ == wx3d) <;> cases (a.s_ == wx3c) <;> cases (b.s_ == wx3d) <;> cases (b.s_ == wx3c) <;> cases (b.s_ == wx2828) <;> cases c1 <;> cases c2 <;> rfl
theorem put_eq {x : PW} {t : PTk} {k : Nat} (hk : 10 < k) (hb : x.b.length + 1 + t.txt.length ≤ 140737488355328) : writer_put k x.w ⟨t.k, 0, t.s, 0⟩ t.txt = some (x.put t).w := by
  unfold writer_put writer_put_j3 writer_put_j2
  rw [spaced_eq hk, Option.bind_some]
  have e1 : decide (((x.w.out).length : Int) > 0) = decide (0 < x.b.length) := by
    rw [Bool.eq_iff_iff]; simp [PW.w, toI_len]
  have e2 : spB x.w.last.kind x.w.last.s_ t.k t.s = spB x.k x.s t.k t.s := rfl
  have e3 : ∀ l : Str, List.map (fun b : UInt8 => (b.toNat : Int)) l = toI l := fun l => rfl
  have e4 : x.w.out = toI x.b := rfl
  have e5 : toI x.b ++ [32] = toI (x.b ++ [32]) := by rw [toI_append]; rfl
  rw [e1]
  simp only [e2, e3, e4, e5, ← toI_append, toI_len, List.length_append, List.length_singleton, List.length_cons, List.length_nil]
  have c1 : decide ((x.b.length + 0 + 1) * 1 ≤ 140737488355328) = true := decide_eq_true (by omega)
  have c2 : decide (x.b.length + t.txt.length ≤ 140737488355328) = true := decide_eq_true (by omega)
  have c3 : decide (x.b.length + 1 + t.txt.length ≤ 140737488355328) = true := decide_eq_true (by omega)
  have c4 : decide (x.b.length + (0 + 1) + t.txt.length ≤ 140737488355328) = true := decide_eq_true (by omega)
  have c5 : decide ((x.b.length + 1) * 1 ≤ 140737488355328) = true := decide_eq_true (by omega)
  have c6 : decide ((x.b.length + (0 + 1)) * 1 ≤ 140737488355328) = true := decide_eq_true (by omega)
  unfold PW.put PW.sp
  simp only [c1, c2, c3, c4, c5, c6, chk_true]
  have e6 : ∀ l : Str, (if (t.s == wx2828) = true then some (SWriter.mk (toI l) (SToken.mk t.k 0 wx28 0)) else some (SWriter.mk (toI l) ⟨t.k, 0, t.s, 0⟩)) = some (PW.w ⟨l, t.k, unp t.s⟩) := by
    intro l
    unfold unp PW.w
    split <;> rfl
  simp only [e6]
  generalize decide (0 < x.b.length) = c
  generalize spB x.k x.s t.k t.s = c'
  cases c <;> cases c' <;> simp
def tW (s : Str) : PTk := ⟨1, s, s⟩
def tS (s : Str) : PTk := ⟨4, s, s⟩
theorem tb_drop_W (l : List Str) (i : Nat) (h : i < l.length) : tb ((l.drop i).map tW) = l[i].length + 1 + tb ((l.drop (i + 1)).map tW) := by
  rw [List.drop_eq_getElem_cons h]; rfl
theorem words_l (l : List Str) (hl : l.length ≤ 100) : ∀ (d i k : Nat) (x : PW), i + d = l.length → d + 11 < k → x.b.length + tb ((l.drop i).map tW) ≤ 140737488355328 →
    writer_words_l1 k l (toI x.b) x.k 0 x.s 0 (i : Int) = some (x.puts ((l.drop i).map tW)).w
  | d, i, 0, x, _, h, _ => by omega
  | 0, i, k + 1, x, hd, _, _ => by
    rw [writer_words_l1, if_neg (by simp; omega), List.drop_eq_nil_of_le (by omega)]; rfl
  | d + 1, i, k + 1, x, hd, hk, hb => by
    have hi : i < l.length := by omega
    have ht := tb_drop_W l i hi
    have hp := put_eq (x := x) (t := tW l[i]) (k := k) (by omega) (by simp only [tW]; omega)
    have hp' : writer_put k ⟨toI x.b, ⟨x.k, 0, x.s, 0⟩⟩ ⟨1, 0, l[i], 0⟩ l[i] = some (x.put (tW l[i])).w := hp
    have hlen := x.put_len (tW l[i])
    rw [writer_words_l1, if_pos (by simp; omega), chk_pos (dec_nonneg i), toNat_cast, List.getElem?_eq_getElem hi, Option.bind_some, hp', Option.bind_some, w64_succ (by omega)]
    have := words_l l hl d (i + 1) k (x.put (tW l[i])) (by omega) (by omega) (by simp only [tW] at hlen ⊢; omega)
    rw [show (x.put (tW l[i])).w.out = toI (x.put (tW l[i])).b from rfl, show (x.put (tW l[i])).w.last.kind = (x.put (tW l[i])).k from rfl, show (x.put (tW l[i])).w.last.at_ = 0 from rfl, show (x.put (tW l[i])).w.last.s_ = (x.put (tW l[i])).s from rfl, show (x.put (tW l[i])).w.last.n_ = 0 from rfl, this, List.drop_eq_getElem_cons hi]
    rfl
theorem words_eq {l : List Str} {x : PW} {k : Nat} (hl : l.length ≤ 100) (hk : l.length + 11 < k) (hb : x.b.length + tb (l.map tW) ≤ 140737488355328) : writer_words k x.w l = some (x.puts (l.map tW)).w := by
  unfold writer_words
  have := words_l l hl l.length 0 k x (by omega) hk (by simpa using hb)
  exact this
theorem word1_eq {s : Str} {x : PW} {k : Nat} (hk : 12 < k) (hb : x.b.length + 1 + s.length ≤ 140737488355328) : writer_words k x.w [s] = some (x.put (tW s)).w := by
  have := words_eq (l := [s]) (x := x) (k := k) (by simp) (by simpa using hk) (by simp [tb, tW]; omega)
  exact this
theorem sign_eq {s : Str} {x : PW} {k : Nat} (hk : 10 < k) (hb : x.b.length + 1 + s.length ≤ 140737488355328) : writer_sign k x.w s = some (x.put (tS s)).w := by
  unfold writer_sign
  have hp := put_eq (x := x) (t := tS s) (k := k) hk hb
  have hp' : writer_put k x.w ⟨4, 0, s, 0⟩ s = some (x.put (tS s)).w := hp
  rw [hp']; rfl
def escB (c : UInt8) : Str := if (c == 34 || c == 92) = true then [92, c] else [c]
def esc (s : Str) : Str := s.flatMap escB
def quo (s : Str) : Str := 34 :: (esc s ++ [34])
def tT (s : Str) : PTk := ⟨3, w_0, quo s⟩
theorem esc_cons (c : UInt8) (s : Str) : esc (c :: s) = escB c ++ esc s := rfl
theorem esc_len (s : Str) : (esc s).length ≤ 2 * s.length := by
  induction s with
  | nil => simp [esc]
  | cons c s ih =>
    rw [esc_cons, List.length_append, List.length_cons]
    have : (escB c).length ≤ 2 := by unfold escB; split <;> simp
    omega
theorem u8_beq (c : UInt8) (n : Nat) (hn : n < 256) : ((c.toNat : Int) == (n : Int)) = (c == UInt8.ofNat n) := by
  rw [Bool.eq_iff_iff, beq_iff_eq, beq_iff_eq]
  constructor
  · intro h
    have h' : c.toNat = n := by omega
    rw [← h']; simp
  · intro h
    subst h
    simp; omega
theorem toI_snoc (a : Str) (c : UInt8) : toI a ++ [(c.toNat : Int)] = toI (a ++ [c]) := by rw [toI_append]; rfl
theorem text_l (x : PW) (s : Str) (hs : s.length ≤ 1000000000) (hx : x.b.length ≤ 1000000000) : ∀ (d i k : Nat) (pre : Str), i + d = s.length → 2 * d + 11 < k → pre.length + 2 * d ≤ 2000000001 →
    writer_text_l3 k x.w s (toI pre) (i : Int) = some (x.put ⟨3, w_0, pre ++ esc (s.drop i) ++ [34]⟩).w
  | d, i, 0, pre, _, h, _ => by omega
  | 0, i, k + 1, pre, hd, hk, hb => by
    have hp := put_eq (x := x) (t := ⟨3, w_0, pre ++ [34]⟩) (k := k) (by omega) (by simp; omega)
    have e : toI pre ++ [34] = toI (pre ++ [34]) := by rw [toI_append]; rfl
    have hp' : writer_put k x.w ⟨3, 0, w_0, 0⟩ (pre ++ [34]) = some (x.put ⟨3, w_0, pre ++ [34]⟩).w := hp
    rw [writer_text_l3, if_neg (by simp; omega), e, ofI, chk_pos (by rw [toI_len]; simp; omega), hp', Option.bind_some, List.drop_eq_nil_of_le (by omega)]
    simp [esc]
  | d + 1, i, 1, pre, hd, hk, hb => by omega
  | d + 1, i, k + 2, pre, hd, hk, hb => by
    have hi : i < s.length := by omega
    have b34 : ((s[i].toNat : Int) == 34) = (s[i] == 34) := u8_beq s[i] 34 (by omega)
    have b92 : ((s[i].toNat : Int) == 92) = (s[i] == 92) := u8_beq s[i] 92 (by omega)
    have e92 : toI pre ++ [92] = toI (pre ++ [92]) := by rw [toI_append]; rfl
    have j4 : ∀ q : Str, q.length ≤ pre.length + 1 → writer_text_j4 (k + 1) x.w s (i : Int) (toI q) = some (x.put ⟨3, w_0, q ++ [s[i]] ++ esc (s.drop (i + 1)) ++ [34]⟩).w := by
      intro q hq
      rw [writer_text_j4, chk_pos (dec_nonneg i), toNat_cast, List.getElem?_eq_getElem hi, Option.bind_some, toI_snoc, chk_pos (by rw [toI_len]; simp; omega), w64_succ (by omega),
        text_l x s hs hx d (i + 1) k (q ++ [s[i]]) (by omega) (by omega) (by simp; omega)]
    rw [writer_text_l3, if_pos (by simp; omega), chk_pos (dec_nonneg i), toNat_cast, List.getElem?_eq_getElem hi, Option.bind_some, chk_pos (dec_nonneg i), Option.bind_some, e92, chk_pos (by rw [toI_len]; simp; omega), j4 _ (by simp), j4 _ (by omega), b34, b92,
      List.drop_eq_getElem_cons hi, esc_cons]
    unfold escB
    cases h1 : (s[i] == 34) <;> cases h2 : (s[i] == 92) <;> simp
theorem text_eq {x : PW} {s : Str} {k : Nat} (hs : s.length ≤ 1000000000) (hx : x.b.length ≤ 1000000000) (hk : 2 * s.length + 11 < k) : writer_text k x.w s = some (x.put (tT s)).w := by
  unfold writer_text
  have := text_l x s hs hx s.length 0 k [34] (by omega) hk (by simp; omega)
  have e : ([34] : List Int) = toI [34] := rfl
  have h0 : (0 : Int) = ((0 : Nat) : Int) := rfl
  rw [e, h0, this]
  rfl
def labT (s : Str) : PTk := if wordB s = true then tW s else tT s
theorem label_eq {x : PW} {s : Str} {k : Nat} (hs : s.length ≤ 1000000000) (hx : x.b.length ≤ 1000000000) (hk : 2 * s.length + 13 < k) : writer_label k x.w s = some (x.put (labT s)).w := by
  unfold writer_label labT
  rw [isWord_eq (by omega) (by omega), Option.bind_some, word1_eq (by omega) (by omega), Option.bind_some, text_eq hs hx (by omega), Option.bind_some]
  split <;> rfl
def pathT (f ke : Str) : List PTk := if (f == w_attr) = true then [tW f, tS wx2e, labT ke] else [tW f]
theorem path_eq {x : PW} {f ke : Str} {k : Nat} (hf : f.length ≤ 100000000) (hs : ke.length ≤ 100000000) (hx : x.b.length ≤ 100000000) (hk : 2 * ke.length + 13 < k) : writer_path k x.w f ke = some (x.puts (pathT f ke)).w := by
  unfold writer_path pathT
  have h1 := x.put_len (tW f)
  have h2 := (x.put (tW f)).put_len (tS wx2e)
  have e1 : (tW f).txt.length = f.length := rfl
  have e2 : (tS wx2e).txt.length = 1 := rfl
  rw [word1_eq (by omega) (by omega), Option.bind_some, sign_eq (by omega) (by have : wx2e.length = 1 := rfl; omega), Option.bind_some, label_eq (by omega) (by omega) (by omega), Option.bind_some]
  split <;> rfl
theorem decK_len : ∀ k u, (decK k u).length ≤ k
  | 0, u => Nat.le_refl _
  | k + 1, u => by
    unfold decK
    split
    · simp
    · have := decK_len k (u / 10); simp; omega
def tN (n : Int) : PTk := ⟨2, w_0, itoaK n⟩
def numT (n : Int) : List PTk := if decide (n < 0) = true then [tS wx2d, tN (0 - n)] else [tN n]
theorem itoaK_len (n : Int) : (itoaK n).length ≤ 21 := by
  unfold itoaK
  split
  · have := decK_len 20 n.natAbs; simp; omega
  · have := decK_len 20 n.toNat; omega
theorem number_eq {x : PW} {n : Int} {k : Nat} (h0 : -4611686018427387904 ≤ n) (h1 : n ≤ 4611686018427387904) (hx : x.b.length ≤ 100000000) (hk : 13 < k) : writer_number k x.w n = some (x.puts (numT n)).w := by
  unfold writer_number numT strconv_Itoa
  have hl1 := itoaK_len n
  have hl2 := itoaK_len (0 - n)
  have hp := x.put_len (tS wx2d)
  have e2 : (tS wx2d).txt.length = 1 := rfl
  have q1 := put_eq (x := x) (t := tN n) (k := k) (by omega) (by simp only [tN]; omega)
  have q2 := put_eq (x := x.put (tS wx2d)) (t := tN (0 - n)) (k := k) (by omega) (by simp only [tN]; omega)
  have q1' : writer_put k ⟨x.w.out, ⟨x.w.last.kind, x.w.last.at_, x.w.last.s_, x.w.last.n_⟩⟩ ⟨2, 0, w_0, 0⟩ (itoaK n) = some (x.put (tN n)).w := q1
  have q2' : writer_put k ⟨(x.put (tS wx2d)).w.out, ⟨(x.put (tS wx2d)).w.last.kind, (x.put (tS wx2d)).w.last.at_, (x.put (tS wx2d)).w.last.s_, (x.put (tS wx2d)).w.last.n_⟩⟩ ⟨2, 0, w_0, 0⟩ (itoaK (0 - n)) = some ((x.put (tS wx2d)).put (tN (0 - n))).w := q2
  rw [sign_eq (by omega) (by have : wx2d.length = 1 := rfl; omega), Option.bind_some, w64_id (by omega) (by omega), chk_pos (by simp; omega), chk_pos (by simp; omega), Option.bind_some, q2', Option.bind_some, Option.bind_some, q1', Option.bind_some]
  split <;> rfl
def valT (v : GValue) : List PTk := if (v.Kind == 1) = true then [tT v.Text] else if (v.Kind == 2) = true then numT v.Int else [tW (if (v.Int == 1) = true then w_true else w_false)]
def okV (v : GValue) : Prop := v.Kind = 1 ∨ (v.Kind = 2 ∧ -1099511627776 ≤ v.Int ∧ v.Int ≤ 1099511627776) ∨ (v.Kind = 3 ∧ (v.Int = 0 ∨ v.Int = 1))
theorem value_eq {x : PW} {v : GValue} {k : Nat} (hv : okV v) (hs : v.Text.length ≤ 100000000) (hx : x.b.length ≤ 100000000) (hk : 2 * v.Text.length + 13 < k) : writer_value k x.w v = some (x.puts (valT v)).w := by
  unfold writer_value valT
  rcases hv with h | ⟨h, h0, h1⟩ | ⟨h, h0 | h0⟩
  · rw [h]
    simp only [beq_self_eq_true, if_true]
    rw [text_eq (by omega) (by omega) (by omega), Option.bind_some]; rfl
  · have e1 : (v.Kind == 1) = false := by rw [h]; rfl
    have e2 : (v.Kind == 2) = true := by rw [h]; rfl
    rw [e1, e2]
    simp only [Bool.false_eq_true, if_false, if_true]
    rw [number_eq (by omega) (by omega) (by omega) (by omega), Option.bind_some]
  · have e1 : (v.Kind == 1) = false := by rw [h]; rfl
    have e2 : (v.Kind == 2) = false := by rw [h]; rfl
    rw [e1, e2, h0]
    have w := word1_eq (s := w_false) (x := x) (k := k) (by omega) (by have : w_false.length = 5 := rfl; omega)
    simp only [Bool.false_eq_true, if_false]
    exact (congrArg (fun z : Option SWriter => z.bind fun r27 => some r27) w)
  · have e1 : (v.Kind == 1) = false := by rw [h]; rfl
    have e2 : (v.Kind == 2) = false := by rw [h]; rfl
    rw [e1, e2, h0]
    have w := word1_eq (s := w_true) (x := x) (k := k) (by omega) (by have : w_true.length = 4 := rfl; omega)
    simp only [Bool.false_eq_true, if_false]
    exact (congrArg (fun z : Option SWriter => z.bind fun r27 => some r27) w)
def isJ (o : Int) : Bool := o == 1 || o == 2
def wrapT (o : Int) (l : List PTk) : List PTk := if isJ o = true then tS wx28 :: (l ++ [tS wx29]) else l
def sepT (o : Int) : Str := if (o == 1) = true then w_and else w_or
mutual
def tkP : GPred → List PTk
  | ⟨o, f, ke, v, a⟩ => if (o == 0) = true then [tW w_true] else if isJ o = true then tkJ o a else if (o == 3) = true then tW w_not :: tkH a else if (o == 4) = true then [tW w_has, labT ke]
    else pathT f ke ++ ((if (o == 5) = true then tS wx3d else if (o == 6) = true then tS wx3c else tW w_prefix) :: valT v)
def tkJ (o : Int) : List GPred → List PTk
  | [] => []
  | p :: l => wrapT p.Op (tkP p) ++ tkK o l
def tkK (o : Int) : List GPred → List PTk
  | [] => []
  | p :: l => tW (sepT o) :: (wrapT p.Op (tkP p) ++ tkK o l)
def tkH : List GPred → List PTk
  | [] => []
  | p :: _ => wrapT p.Op (tkP p)
end
theorem tkP_eq (p : GPred) : tkP p = if (p.Op == 0) = true then [tW w_true] else if isJ p.Op = true then tkJ p.Op p.Args else if (p.Op == 3) = true then tW w_not :: tkH p.Args else if (p.Op == 4) = true then [tW w_has, labT p.Key]
    else pathT p.Field p.Key ++ ((if (p.Op == 5) = true then tS wx3d else if (p.Op == 6) = true then tS wx3c else tW w_prefix) :: valT p.Value) := by cases p; rfl
def tkA (p : GPred) : List PTk := wrapT p.Op (tkP p)
theorem tkK_drop {o : Int} {l : List GPred} {i : Nat} (h : i < l.length) : tkK o (l.drop i) = tW (sepT o) :: (tkA l[i] ++ tkK o (l.drop (i + 1))) := by rw [List.drop_eq_getElem_cons h]; rfl
theorem tkJ_eq {o : Int} {l : List GPred} (h : 0 < l.length) : tkJ o l = tkA l[0] ++ tkK o (l.drop 1) := by
  cases l with
  | nil => simp at h
  | cons p l => rfl
theorem tkH_eq {l : List GPred} (h : 0 < l.length) : tkH l = tkA l[0] := by
  cases l with
  | nil => simp at h
  | cons p l => rfl
def okN (p : GPred) : Prop := (0 ≤ p.Op ∧ p.Op ≤ 7) ∧ (p.Op = 3 → 1 ≤ p.Args.length) ∧ (5 ≤ p.Op → okV p.Value ∧ 0 < p.Field.length) ∧ (isJ p.Op = true → 1 ≤ p.Args.length)
mutual
def allP (f : GPred → Prop) : GPred → Prop
  | ⟨o, fi, ke, v, a⟩ => f ⟨o, fi, ke, v, a⟩ ∧ allL f a
def allL (f : GPred → Prop) : List GPred → Prop
  | [] => True
  | p :: l => allP f p ∧ allL f l
end
theorem allP_eq (f : GPred → Prop) (p : GPred) : allP f p = (f p ∧ allL f p.Args) := by cases p; rfl
theorem allL_mem {f : GPred → Prop} : ∀ {l : List GPred} {p : GPred}, allL f l → p ∈ l → allP f p
  | q :: l, p, h, hm => by
    rcases List.mem_cons.1 hm with rfl | hm
    · exact h.1
    · exact allL_mem h.2 hm
theorem allP_arg {f : GPred → Prop} {p q : GPred} (h : allP f p) (hm : q ∈ p.Args) : allP f q := by
  rw [allP_eq] at h; exact allL_mem h.2 hm
theorem allP_node {f : GPred → Prop} {p : GPred} (h : allP f p) : f p := by rw [allP_eq] at h; exact h.1
theorem tb_quo (s : Str) : (quo s).length ≤ 2 * s.length + 2 := by have := esc_len s; simp [quo]; omega
theorem labT_len (s : Str) : (labT s).txt.length ≤ 2 * s.length + 2 := by
  unfold labT
  split
  · simp only [tW]; omega
  · exact tb_quo s
theorem tb_path (f ke : Str) : tb (pathT f ke) ≤ f.length + 2 * ke.length + 10 := by
  have := labT_len ke
  unfold pathT
  split <;> simp only [tb, tW, tS, List.length_cons, List.length_nil] <;> omega
theorem tb_num (n : Int) : tb (numT n) ≤ 30 := by
  have h1 := itoaK_len n
  have h2 := itoaK_len (0 - n)
  unfold numT
  split <;> simp only [tb, tN, tS, List.length_cons, List.length_nil] <;> omega
theorem tb_val (v : GValue) : tb (valT v) ≤ 2 * v.Text.length + 30 := by
  have h1 := tb_num v.Int
  have h2 := tb_quo v.Text
  have h3 : w_true.length = 4 := rfl
  have h4 : w_false.length = 5 := rfl
  unfold valT
  split
  · simp only [tb, tT]; omega
  · split
    · omega
    · simp only [tb, tW]; split <;> omega
theorem tb_sep (o : Int) : (sepT o).length ≤ 3 := by unfold sepT; split <;> decide
theorem tb_wrap (o : Int) (l : List PTk) : tb (wrapT o l) ≤ tb l + 4 := by
  unfold wrapT
  split
  · simp only [tb, tb_append, tS, List.length_cons, List.length_nil]; omega
  · omega
theorem tb_tkP : ∀ p : GPred, tb (tkP p) + 10 ≤ 60 * wP p := by
  refine GPred.byW fun p ih => ?_
  have hw := wP_eq p
  have hA : ∀ q ∈ p.Args, tb (tkA q) + 6 ≤ 60 * wP q := fun q hq => by
    have := ih q (wP_arg hq); have := tb_wrap q.Op (tkP q); unfold tkA; omega
  have hK : ∀ (o : Int) (l : List GPred), (∀ q ∈ l, tb (tkA q) + 6 ≤ 60 * wP q) → tb (tkK o l) ≤ 60 * wL l := by
    intro o l
    induction l with
    | nil => intro _; exact Nat.le_refl _
    | cons q l ihl =>
      intro h
      have h1 := h q List.mem_cons_self
      have h2 := ihl fun x hx => h x (List.mem_cons_of_mem _ hx)
      have h3 := tb_sep o
      have e : tkK o (q :: l) = tW (sepT o) :: (tkA q ++ tkK o l) := rfl
      rw [e]
      simp only [tb, tb_append, tW, wL]
      omega
  rw [tkP_eq]
  split
  · simp only [tb, tW]; have : w_true.length = 4 := rfl; omega
  split
  · cases ha : p.Args with
    | nil => simp only [tkJ, tb]; omega
    | cons q l =>
      rw [ha] at hA
      have h1 := hA q List.mem_cons_self
      have h2 := hK p.Op l fun x hx => hA x (List.mem_cons_of_mem _ hx)
      have e : tkJ p.Op (q :: l) = tkA q ++ tkK p.Op l := rfl
      rw [e, tb_append]
      rw [ha] at hw; simp only [wL] at hw; omega
  split
  · cases ha : p.Args with
    | nil => simp only [tkH, tb, tW]; have : w_not.length = 3 := rfl; omega
    | cons q l =>
      rw [ha] at hA
      have h1 := hA q List.mem_cons_self
      have e : tkH (q :: l) = tkA q := rfl
      rw [e]
      simp only [tb, tW]
      have : w_not.length = 3 := rfl
      rw [ha] at hw; simp only [wL] at hw; omega
  split
  · have := labT_len p.Key
    simp only [tb, tW]
    have : w_has.length = 3 := rfl
    omega
  · have h1 := tb_path p.Field p.Key
    have h2 := tb_val p.Value
    have h3 : (if (p.Op == 5) = true then tS wx3d else if (p.Op == 6) = true then tS wx3c else tW w_prefix).txt.length ≤ 6 := by
      split
      · decide
      · split <;> decide
    rw [tb_append]
    simp only [tb]
    omega
theorem tb_tkA (p : GPred) : tb (tkA p) + 6 ≤ 60 * wP p := by
  have := tb_tkP p; have := tb_wrap p.Op (tkP p); unfold tkA; omega
theorem isJ_eq {o : Int} (h : isJ o = true) : o = 1 ∨ o = 2 := by
  unfold isJ at h
  simpa using h
theorem pred_w : ∀ p : GPred, ∀ (x : PW) (k : Nat), allP okN p → 60 * wP p + 40 ≤ k → x.b.length + 100 * wP p ≤ 50000000 → writer_pred k x.w p = some (x.puts (tkP p)).w := by
  refine GPred.byW fun p ih => ?_
  intro x k hok hk hx
  have hw := wP_eq p
  have hn := allP_node hok
  have hlen := wL_len p.Args
  have hpos := wP_pos p
  have arg : ∀ (q : GPred), q ∈ p.Args → ∀ (x : PW) (k : Nat), 60 * wP q + 45 ≤ k → x.b.length + 100 * wP q + 10 ≤ 50000000 → writer_argument k x.w q = some (x.puts (tkA q)).w := by
    intro q hq x k hk hx
    have ihq := ih q (wP_arg hq)
    have hoq := allP_arg hok hq
    have hp1 := x.put_len (tS wx28)
    have e1 : (tS wx28).txt.length = 1 := rfl
    have e2 : wx28.length = 1 := rfl
    have e3 : wx29.length = 1 := rfl
    have hb := (x.put (tS wx28)).puts_len (tkP q)
    have ht := tb_tkP q
    obtain ⟨k, rfl⟩ : ∃ m, k = m + 2 := ⟨k - 2, by omega⟩
    have s1 := ihq x k hoq (by omega) (by omega)
    have s2 := ihq (x.put (tS wx28)) k hoq (by omega) (by omega)
    rw [writer_argument, writer_argument_j1, writer_argument_j1, s1, Option.bind_some, sign_eq (by omega) (by omega), Option.bind_some, s2, Option.bind_some, sign_eq (by omega) (by omega), Option.bind_some]
    unfold tkA wrapT isJ
    have b1 : (q.Op != 1) = !(q.Op == 1) := rfl
    have b2 : (q.Op != 2) = !(q.Op == 2) := rfl
    rw [b1, b2]
    cases (q.Op == 1) <;> cases (q.Op == 2) <;> simp [PW.puts_cons, PW.puts_append] <;> rfl
  have loop : isJ p.Op = true → ∀ (d i k : Nat) (x : PW), 0 < i → i + d = p.Args.length → 60 * wL (p.Args.drop i) + 50 ≤ k → x.b.length + 100 * wL (p.Args.drop i) + 50 ≤ 50000000 →
      writer_pred_l2 k p (toI x.b) x.k 0 x.s 0 (i : Int) = some (x.puts (tkK p.Op (p.Args.drop i))).w := by
    intro hj d
    induction d with
    | zero =>
      intro i k x h0 hi hk hx
      obtain ⟨k, rfl⟩ : ∃ m, k = m + 1 := ⟨k - 1, by omega⟩
      rw [writer_pred_l2, if_neg (by simp; omega), List.drop_eq_nil_of_le (by omega)]; rfl
    | succ d ihd =>
      intro i k x h0 hi hk hx
      obtain ⟨k, rfl⟩ : ∃ m, k = m + 1 := ⟨k - 1, by omega⟩
      have h1 : i < p.Args.length := by omega
      have hd := wL_drop h1
      have hm := List.getElem_mem h1
      have hq := wP_pos p.Args[i]
      have hsep : ([w_0, w_and, w_or] : List Str)[Int.toNat p.Op]? = some (sepT p.Op) := by
        rcases isJ_eq hj with h | h <;> rw [h] <;> rfl
      have hs3 := tb_sep p.Op
      have hp1 := x.put_len (tW (sepT p.Op))
      have e1 : (tW (sepT p.Op)).txt.length = (sepT p.Op).length := rfl
      have ht := tb_tkA p.Args[i]
      have hl2 := (x.put (tW (sepT p.Op))).puts_len (tkA p.Args[i])
      have a1 := arg _ hm (x.put (tW (sepT p.Op))) k (by omega) (by omega)
      have w1 : writer_words k (SWriter.mk (toI x.b) (SToken.mk x.k 0 x.s 0)) [sepT p.Op] = some (x.put (tW (sepT p.Op))).w := word1_eq (x := x) (by omega) (by omega)
      have nx := ihd (i + 1) k ((x.put (tW (sepT p.Op))).puts (tkA p.Args[i])) (by omega) (by omega) (by omega) (by omega)
      have ho : decide ((0 : Int) ≤ p.Op) = true := decide_eq_true hn.1.1
      rw [writer_pred_l2, if_pos (by simp; omega), chk_pos (dec_nonneg i), toNat_cast, List.getElem?_eq_getElem h1, Option.bind_some, if_pos (by simp; omega), chk_pos ho, hsep, Option.bind_some, w1, Option.bind_some, a1, Option.bind_some, w64_succ (by omega)]
      refine nx.trans ?_
      rw [tkK_drop h1, PW.puts_cons, PW.puts_append]
  have first : isJ p.Op = true → ∀ (k : Nat) (x : PW), 60 * wL p.Args + 60 ≤ k → x.b.length + 100 * wL p.Args + 60 ≤ 50000000 →
      writer_pred_l2 k p (toI x.b) x.k 0 x.s 0 0 = some (x.puts (tkJ p.Op p.Args)).w := by
    intro hj k x hk hx
    obtain ⟨k, rfl⟩ : ∃ m, k = m + 1 := ⟨k - 1, by omega⟩
    have h1 : 0 < p.Args.length := hn.2.2.2 hj
    have hm := List.getElem_mem h1
    have hd : wL p.Args = wP p.Args[0] + wL (p.Args.drop 1) := by have := wL_drop h1; simpa using this
    have ht := tb_tkA p.Args[0]
    have hl2 := x.puts_len (tkA p.Args[0])
    have a1 : writer_argument k (SWriter.mk (toI x.b) (SToken.mk x.k 0 x.s 0)) p.Args[0] = some (x.puts (tkA p.Args[0])).w := arg _ hm x k (by omega) (by omega)
    have nx := loop hj (p.Args.length - 1) 1 k (x.puts (tkA p.Args[0])) (by omega) (by omega) (by omega) (by omega)
    have h01 : w64 (0 + 1) = ((1 : Nat) : Int) := by decide
    rw [writer_pred_l2, if_pos (by simp; omega), chk_pos (by decide), Int.toNat_zero, List.getElem?_eq_getElem h1, Option.bind_some, if_neg (by decide), a1, Option.bind_some, h01]
    refine nx.trans ?_
    rw [tkJ_eq h1, PW.puts_append]
  obtain ⟨k, rfl⟩ : ∃ m, k = m + 2 := ⟨k - 2, by omega⟩
  rw [writer_pred, tkP_eq]
  by_cases h0 : p.Op = 0
  · have e0 : (p.Op == 0) = true := by rw [h0]; rfl
    have w1 := word1_eq (s := w_true) (x := x) (k := k + 1) (by omega) (by have : w_true.length = 4 := rfl; omega)
    simp only [e0, if_true]
    rw [w1]; rfl
  have e0 : (p.Op == 0) = false := by simpa using h0
  simp only [e0, Bool.false_eq_true, if_false]
  have hj1 : isJ p.Op = true → writer_pred_j1 (k + 1) x.w p true = some (x.puts (tkJ p.Op p.Args)).w := fun hj => by
    rw [writer_pred_j1, if_pos rfl]
    exact first hj k x (by omega) (by omega)
  by_cases hj : isJ p.Op = true
  · simp only [hj, if_true]
    rcases isJ_eq hj with h | h
    · have e1 : (p.Op == 1) = true := by rw [h]; rfl
      simp only [e1, if_true]; exact hj1 hj
    · have e1 : (p.Op == 1) = false := by rw [h]; rfl
      have e2 : (p.Op == 2) = true := by rw [h]; rfl
      simp only [e1, e2, Bool.false_eq_true, if_false]; exact hj1 hj
  have hj' : isJ p.Op = false := by simpa using hj
  have e1 : (p.Op == 1) = false := by
    cases h : (p.Op == 1) with
    | false => rfl
    | true => exact absurd (by unfold isJ; rw [h]; rfl) hj
  have e2 : (p.Op == 2) = false := by
    cases h : (p.Op == 2) with
    | false => rfl
    | true => exact absurd (by unfold isJ; rw [h]; simp) hj
  simp only [e1, e2, hj', Bool.false_eq_true, if_false, writer_pred_j1]
  by_cases h3 : p.Op = 3
  · have e3 : (p.Op == 3) = true := by rw [h3]; rfl
    have h1 : 0 < p.Args.length := hn.2.1 h3
    have hm := List.getElem_mem h1
    have hp1 := x.put_len (tW w_not)
    have l3 : w_not.length = 3 := rfl
    have l3' : (tW w_not).txt.length = 3 := rfl
    have hm2 := wL_mem hm
    have a1 := arg _ hm (x.put (tW w_not)) k (by omega) (by omega)
    simp only [e3, if_true]
    rw [word1_eq (by omega) (by omega), Option.bind_some, chk_pos (by decide), Int.toNat_zero, List.getElem?_eq_getElem h1, Option.bind_some, a1, Option.bind_some]
    rw [tkH_eq h1]; rfl
  have e3 : (p.Op == 3) = false := by simpa using h3
  simp only [e3, Bool.false_eq_true, if_false]
  by_cases h4 : p.Op = 4
  · have e4 : (p.Op == 4) = true := by rw [h4]; rfl
    have hp1 := x.put_len (tW w_has)
    have l3 : w_has.length = 3 := rfl
    have l3' : (tW w_has).txt.length = 3 := rfl
    simp only [e4, if_true]
    rw [word1_eq (by omega) (by omega), Option.bind_some, label_eq (by omega) (by omega) (by omega), Option.bind_some]
    rfl
  have e4 : (p.Op == 4) = false := by simpa using h4
  simp only [e4, Bool.false_eq_true, if_false]
  have hv : okV p.Value := And.left <| hn.2.2.1 (by
    have := hn.1
    have h5 : p.Op ≠ 1 := by intro h; rw [h] at e1; simp at e1
    have h6 : p.Op ≠ 2 := by intro h; rw [h] at e2; simp at e2
    omega)
  have hp := x.puts_len (pathT p.Field p.Key)
  have ht := tb_path p.Field p.Key
  rw [path_eq (by omega) (by omega) (by omega) (by omega), Option.bind_some, PW.puts_append, PW.puts_cons]
  generalize x.puts (pathT p.Field p.Key) = y at hp ⊢
  have l1 : wx3d.length = 1 := rfl
  have l2 : wx3c.length = 1 := rfl
  have l6 : w_prefix.length = 6 := rfl
  have q1 := y.put_len (tS wx3d)
  have q2 := y.put_len (tS wx3c)
  have q3 := y.put_len (tW w_prefix)
  have m1 : (tS wx3d).txt.length = 1 := rfl
  have m2 : (tS wx3c).txt.length = 1 := rfl
  have m6 : (tW w_prefix).txt.length = 6 := rfl
  rw [sign_eq (by omega) (by omega), Option.bind_some, value_eq hv (by omega) (by omega) (by omega), Option.bind_some, sign_eq (by omega) (by omega), Option.bind_some, value_eq hv (by omega) (by omega) (by omega), Option.bind_some, word1_eq (by omega) (by omega), Option.bind_some, value_eq hv (by omega) (by omega) (by omega), Option.bind_some]
  cases (p.Op == 5) <;> cases (p.Op == 6) <;> rfl
def sepB (l : Int × Str) (t : PTk) : Str := if spB l.1 l.2 t.k t.s = true then [32] else []
def ren (l : Int × Str) : List PTk → Str
  | [] => []
  | t :: ts => sepB l t ++ t.txt ++ ren (t.k, unp t.s) ts
def txt0 : List PTk → Str
  | [] => []
  | t :: ts => t.txt ++ ren (t.k, unp t.s) ts
def lst (l : Int × Str) : List PTk → Int × Str
  | [] => l
  | t :: ts => lst (t.k, unp t.s) ts
theorem ren_append (ts us : List PTk) : ∀ l, ren l (ts ++ us) = ren l ts ++ ren (lst l ts) us := by
  induction ts with
  | nil => intro l; rfl
  | cons t ts ih => intro l; simp only [List.cons_append, ren, lst, ih, List.append_assoc]
theorem lst_append (ts us : List PTk) : ∀ l, lst l (ts ++ us) = lst (lst l ts) us := by
  induction ts with
  | nil => intro l; rfl
  | cons t ts ih => intro l; simp only [List.cons_append, lst, ih]
theorem ren_cons (l : Int × Str) (t : PTk) (ts : List PTk) : ren l (t :: ts) = sepB l t ++ txt0 (t :: ts) := by simp only [ren, txt0, List.append_assoc]
theorem txt0_append {ts us : List PTk} (h : ts ≠ []) : txt0 (ts ++ us) = txt0 ts ++ ren (lst (0, w_0) ts) us := by
  cases ts with
  | nil => exact absurd rfl h
  | cons t ts => simp only [List.cons_append, txt0, ren_append, lst, List.append_assoc]
theorem ren_len (ts : List PTk) : ∀ l, (ren l ts).length ≤ tb ts := by
  induction ts with
  | nil => intro l; exact Nat.le_refl _
  | cons t ts ih =>
    intro l
    have := ih (t.k, unp t.s)
    have h : (sepB l t).length ≤ 1 := by unfold sepB; split <;> simp
    simp only [ren, List.length_append, tb]; omega
theorem txt0_len (ts : List PTk) : (txt0 ts).length ≤ tb ts := by
  cases ts with
  | nil => exact Nat.le_refl _
  | cons t ts => have := ren_len ts (t.k, unp t.s); simp only [txt0, List.length_append, tb]; omega
theorem puts_b : ∀ (ts : List PTk) (x : PW), 0 < x.b.length → (x.puts ts).b = x.b ++ ren (x.k, x.s) ts
  | [], x, _ => by simp [PW.puts, ren]
  | t :: ts, x, h => by
    have h1 : 0 < (x.put t).b.length := by simp only [PW.put, List.length_append]; omega
    rw [PW.puts_cons, puts_b ts _ h1]
    have e : x.sp t = sepB (x.k, x.s) t := by
      unfold PW.sp sepB
      rw [decide_eq_true h, Bool.true_and]
    have e2 : (x.put t).b = x.b ++ sepB (x.k, x.s) t ++ t.txt := by rw [← e]; rfl
    rw [e2]
    simp only [ren, List.append_assoc]
    rfl
def PW.o : PW := ⟨[], 0, w_0⟩
theorem puts_o {t : PTk} {ts : List PTk} (h : 0 < t.txt.length) : (PW.o.puts (t :: ts)).b = txt0 (t :: ts) := by
  have e : (PW.o.put t).b = t.txt := rfl
  rw [PW.puts_cons, puts_b ts _ (by rw [e]; exact h), e]
  rfl
def endK (l : Int × Str) : Prop := l.1 = 1 ∨ l.1 = 2 ∨ l.1 = 3 ∨ (l.1 = 4 ∧ l.2 = wx29)
def begK (t : PTk) : Prop := t.k = 1 ∨ (t.k = 4 ∧ t.s = wx28)
theorem sep_word {l : Int × Str} (h : endK l) (s : Str) : sepB l (tW s) = [32] := by
  unfold sepB spB tW
  rcases h with h | h | h | ⟨h, h2⟩
  · rw [h]; simp
  · rw [h]; simp
  · rw [h]; simp
  · rw [h, h2]; rfl
theorem sep_beg {t : PTk} (h : begK t) (s : Str) : sepB (1, s) t = [32] := by
  unfold sepB spB
  rcases h with h | ⟨h, h2⟩
  · rw [h]; simp
  · rw [h, h2]; rfl
theorem sep_open {t : PTk} (h : begK t) : sepB (4, wx28) t = [] := by
  unfold sepB spB
  rcases h with h | ⟨h, h2⟩
  · rw [h]; rfl
  · rw [h, h2]; rfl
theorem sep_close {l : Int × Str} (h : endK l) : sepB l (tS wx29) = [] := by
  unfold sepB spB tS
  rcases h with h | h | h | ⟨h, h2⟩
  · rw [h]; simp; decide
  · rw [h]; rfl
  · rw [h]; rfl
  · rw [h, h2]; rfl
theorem numT_lst (n : Int) (l : Int × Str) : endK (lst l (numT n)) := by
  unfold numT
  split
  · exact .inr (.inl rfl)
  · exact .inr (.inl rfl)
theorem valT_lst (v : GValue) (l : Int × Str) : endK (lst l (valT v)) := by
  unfold valT
  split
  · exact .inr (.inr (.inl rfl))
  · split
    · exact numT_lst _ _
    · exact .inl rfl
theorem labT_end (s : Str) (l : Int × Str) : endK (lst l [labT s]) := by
  unfold labT
  split
  · exact .inl rfl
  · exact .inr (.inr (.inl rfl))
theorem pathT_lst (f ke : Str) (l : Int × Str) : endK (lst l (pathT f ke)) := by
  unfold pathT
  split
  · exact labT_end ke (0, w_0)
  · exact .inl rfl
theorem pathT_cons (f ke : Str) : ∃ ts, pathT f ke = tW f :: ts := by
  unfold pathT
  split
  · exact ⟨_, rfl⟩
  · exact ⟨_, rfl⟩
def BE (ts : List PTk) : Prop := (∃ t r, ts = t :: r ∧ begK t ∧ 0 < t.txt.length) ∧ ∀ l, endK (lst l ts)
theorem BE.ne {ts : List PTk} (h : BE ts) : ts ≠ [] := by
  obtain ⟨⟨t, r, rfl, _⟩, _⟩ := h
  exact List.cons_ne_nil _ _
theorem BE.wrap {ts : List PTk} (h : BE ts) (o : Int) : BE (wrapT o ts) := by
  unfold wrapT
  split
  · refine ⟨⟨_, _, rfl, .inr ⟨rfl, rfl⟩, by decide⟩, fun l => ?_⟩
    have e : tS wx28 :: (ts ++ [tS wx29]) = (tS wx28 :: ts) ++ [tS wx29] := rfl
    rw [e, lst_append]
    exact .inr (.inr (.inr ⟨rfl, rfl⟩))
  · exact h
theorem BE.of_tkK {o : Int} : ∀ (l : List GPred), (∀ q ∈ l, BE (tkA q)) → ∀ m, endK m → endK (lst m (tkK o l))
  | [], _, m, h => h
  | q :: l, h, m, hm => by
    have e : tkK o (q :: l) = (tW (sepT o) :: tkA q) ++ tkK o l := rfl
    rw [e, lst_append]
    exact BE.of_tkK l (fun x hx => h x (List.mem_cons_of_mem _ hx)) _ ((h q List.mem_cons_self).2 _)
theorem tkP_BE : ∀ p : GPred, allP okN p → BE (tkP p) := by
  refine GPred.byW fun p ih hok => ?_
  have hn := allP_node hok
  have hA : ∀ q ∈ p.Args, BE (tkA q) := fun q hq => (ih q (wP_arg hq) (allP_arg hok hq)).wrap _
  rw [tkP_eq]
  split
  · exact ⟨⟨_, _, rfl, .inl rfl, by decide⟩, fun l => .inl rfl⟩
  rename_i e0
  split
  · rename_i hj
    have h1 := hn.2.2.2 hj
    rw [tkJ_eq h1]
    have h0 := hA _ (List.getElem_mem h1)
    refine ⟨?_, fun l => ?_⟩
    · obtain ⟨⟨t, r, ht, hb, hp⟩, _⟩ := h0
      exact ⟨t, _, by rw [ht]; rfl, hb, hp⟩
    · rw [lst_append]
      exact BE.of_tkK _ (fun q hq => hA q (List.mem_of_mem_drop hq)) _ (h0.2 _)
  rename_i hj
  split
  · rename_i e3
    have h1 := hn.2.1 (by simpa using e3)
    rw [tkH_eq h1]
    exact ⟨⟨_, _, rfl, .inl rfl, by decide⟩, fun l => (hA _ (List.getElem_mem h1)).2 _⟩
  rename_i e3
  split
  · exact ⟨⟨_, _, rfl, .inl rfl, by decide⟩, fun l => labT_end p.Key (0, w_0)⟩
  rename_i e4
  have h5 : 5 ≤ p.Op := by
    have := hn.1
    have a0 : p.Op ≠ 0 := by simpa using e0
    have a3 : p.Op ≠ 3 := by simpa using e3
    have a4 : p.Op ≠ 4 := by simpa using e4
    have a1 : p.Op ≠ 1 := fun h => hj (by unfold isJ; rw [h]; rfl)
    have a2 : p.Op ≠ 2 := fun h => hj (by unfold isJ; rw [h]; rfl)
    omega
  obtain ⟨ts, hts⟩ := pathT_cons p.Field p.Key
  refine ⟨⟨tW p.Field, _, by rw [hts]; rfl, .inl rfl, (hn.2.2.1 h5).2⟩, fun l => ?_⟩
  rw [lst_append]
  exact valT_lst _ _
theorem tkA_BE {p : GPred} (h : allP okN p) : BE (tkA p) := (tkP_BE p h).wrap _
theorem u8w (m : Nat) (h : m < 10) : UInt8.ofNat (IntKind.u8.wrap (w64 (48 + (m : Int)))).toNat = UInt8.ofNat (48 + m) := by
  have : ∀ m : Nat, m < 10 → UInt8.ofNat (IntKind.u8.wrap (w64 (48 + (m : Int)))).toNat = UInt8.ofNat (48 + m) := by decide +kernel
  exact this m h
theorem decDigits_len : ∀ n : Nat, n < 10 ^ 20 → (Lib.decDigits n).length ≤ 20 := by
  intro n h
  rw [← decK_eq 19 n h]
  exact decK_len 20 n
theorem decimal_nat : ∀ (n k : Nat), n ≤ 4611686018427387904 → n < 10 ^ k → l36_decimal (k + 2) (n : Int) = some (Lib.decDigits n) := by
  intro n
  induction n using Nat.strongRecOn with
  | ind n ih =>
    intro k hn hk
    rw [l36_decimal, if_neg (by simp)]
    by_cases h10 : n < 10
    · rw [if_pos (by simp; omega), Lib.decDigits, dif_pos h10]
      simp only [List.map_cons, List.map_nil, u8w n h10]
    · obtain ⟨k, rfl⟩ : ∃ m, k = m + 1 := ⟨k - 1, by cases k with | zero => simp at hk; omega | succ k => rfl⟩
      have hk' : n / 10 < 10 ^ k := by rw [Nat.div_lt_iff_lt_mul (by omega)]; rw [Nat.pow_succ] at hk; exact hk
      have e1 : ((n : Int)).tdiv 10 = ((n / 10 : Nat) : Int) := by rw [Int.tdiv_eq_ediv_of_nonneg (by omega)]; rfl
      have e2 : ((n : Int)).tmod 10 = ((n % 10 : Nat) : Int) := by rw [Int.tmod_eq_emod_of_nonneg (by omega)]; rfl
      have h20 : n < 10 ^ 20 := by have : (10 : Nat) ^ 20 = 100000000000000000000 := by decide
                                   omega
      have l1 := decDigits_len (n / 10) (by omega)
      have l2 := decDigits_len (n % 10) (by omega)
      have hm : n % 10 < 10 ^ (k + 1) := by
        have : 10 ^ 1 ≤ 10 ^ (k + 1) := Nat.pow_le_pow_right (by omega) (by omega)
        omega
      have s1 := ih (n / 10) (by omega) k (by omega) hk'
      have s2 := ih (n % 10) (by omega) (k + 1 - 1) (by omega) (by
        cases k with
        | zero => simp at hk; omega
        | succ k =>
          have : 10 ^ 1 ≤ 10 ^ (k + 1) := Nat.pow_le_pow_right (by omega) (by omega)
          simp only [Nat.add_sub_cancel]
          omega)
      have s2' : l36_decimal (k + 2) ((n % 10 : Nat) : Int) = some (Lib.decDigits (n % 10)) := s2
      have hd : Lib.decDigits (n % 10) = [UInt8.ofNat (48 + n % 10)] := by rw [Lib.decDigits, dif_pos (by omega)]
      rw [if_neg (by simp; omega), e1, e2, w64_nat (by omega), s1, Option.bind_some, s2', Option.bind_some, chk_pos (by simp only [List.length_append]; simp; omega)]
      rw [hd]
      conv => rhs; rw [Lib.decDigits, dif_neg h10]
theorem decimal_eq {n : Int} {k : Nat} (h0 : -4611686018427387904 ≤ n) (h1 : n ≤ 4611686018427387904) (hk : 25 ≤ k) : l36_decimal k n = some (txt0 (numT n)) := by
  obtain ⟨k, rfl⟩ : ∃ m, k = m + 3 := ⟨k - 3, by omega⟩
  have hp : ∀ m : Nat, m ≤ 4611686018427387904 → m < 10 ^ k := fun m hm => by
    have : 10 ^ 20 ≤ 10 ^ k := Nat.pow_le_pow_right (by omega) (by omega)
    have e : (10 : Nat) ^ 20 = 100000000000000000000 := by decide
    omega
  have hp1 : ∀ m : Nat, m ≤ 4611686018427387904 → m < 10 ^ (k + 1) := fun m hm => by
    have := hp m hm
    have : 10 ^ k ≤ 10 ^ (k + 1) := Nat.pow_le_pow_right (by omega) (by omega)
    omega
  unfold numT
  by_cases hn : n < 0
  · obtain ⟨m, rfl⟩ : ∃ m : Nat, n = -(m : Int) := ⟨(-n).toNat, by omega⟩
    have hm := decimal_nat m k (by omega) (hp m (by omega))
    have h20 : m < 10 ^ 20 := by have : (10 : Nat) ^ 20 = 100000000000000000000 := by decide
                                 omega
    have l1 := decDigits_len m h20
    have e : (0 : Int) - -(m : Int) = (m : Int) := by omega
    have e2 : itoaK (m : Int) = Lib.decDigits m := by
      rw [itoaK_eq (by omega) (by omega), Lib.itoa, if_neg (by omega)]; rfl
    rw [l36_decimal, if_pos (by simp; omega), if_pos (by simp; omega), e, w64_nat (by omega), hm, Option.bind_some, chk_pos (by simp only [List.length_append]; simp; omega)]
    have e3 : sepB (4, unp wx2d) ⟨2, w_0, Lib.decDigits m⟩ = [] := rfl
    simp only [txt0, ren, tS, tN, e2, e3, List.append_nil, List.nil_append]
  · obtain ⟨m, rfl⟩ : ∃ m : Nat, n = (m : Int) := ⟨n.toNat, by omega⟩
    have hm := decimal_nat m (k + 1) (by omega) (hp1 m (by omega))
    have e2 : itoaK (m : Int) = Lib.decDigits m := by
      rw [itoaK_eq (by omega) (by omega), Lib.itoa, if_neg (by omega)]; rfl
    rw [if_neg (by simp)]
    simp only [txt0, ren, tN, e2, List.append_nil]
    exact hm
theorem quoted_l (s : Str) (hs : s.length ≤ 1000000000) : ∀ (d i k : Nat) (pre : Str), i + d = s.length → 2 * d + 1 < k → pre.length + 2 * d ≤ 2000000001 →
    l36_quoted_l3 k s (toI pre) (i : Int) = some (pre ++ esc (s.drop i) ++ [34])
  | d, i, 0, pre, _, h, _ => by omega
  | 0, i, k + 1, pre, hd, hk, hb => by
    have e : toI pre ++ [34] = toI (pre ++ [34]) := by rw [toI_append]; rfl
    rw [l36_quoted_l3, if_neg (by simp; omega), e, ofI, chk_pos (by rw [toI_len]; simp; omega), List.drop_eq_nil_of_le (by omega)]
    simp [esc]
  | d + 1, i, 1, pre, hd, hk, hb => by omega
  | d + 1, i, k + 2, pre, hd, hk, hb => by
    have hi : i < s.length := by omega
    have b34 : ((s[i].toNat : Int) == 34) = (s[i] == 34) := u8_beq s[i] 34 (by omega)
    have b92 : ((s[i].toNat : Int) == 92) = (s[i] == 92) := u8_beq s[i] 92 (by omega)
    have e92 : toI pre ++ [92] = toI (pre ++ [92]) := by rw [toI_append]; rfl
    have j4 : ∀ q : Str, q.length ≤ pre.length + 1 → l36_quoted_j4 (k + 1) s (i : Int) (toI q) = some (q ++ [s[i]] ++ esc (s.drop (i + 1)) ++ [34]) := by
      intro q hq
      rw [l36_quoted_j4, chk_pos (dec_nonneg i), toNat_cast, List.getElem?_eq_getElem hi, Option.bind_some, toI_snoc, chk_pos (by rw [toI_len]; simp; omega), w64_succ (by omega),
        quoted_l s hs d (i + 1) k (q ++ [s[i]]) (by omega) (by omega) (by simp; omega)]
    rw [l36_quoted_l3, if_pos (by simp; omega), chk_pos (dec_nonneg i), toNat_cast, List.getElem?_eq_getElem hi, Option.bind_some, chk_pos (dec_nonneg i), Option.bind_some, e92, chk_pos (by rw [toI_len]; simp; omega), j4 _ (by simp), j4 _ (by omega), b34, b92,
      List.drop_eq_getElem_cons hi, esc_cons]
    unfold escB
    cases h1 : (s[i] == 34) <;> cases h2 : (s[i] == 92) <;> simp
theorem quoted_eq {s : Str} {k : Nat} (hs : s.length ≤ 1000000000) (hk : 2 * s.length + 1 < k) : l36_quoted k s = some (quo s) := by
  unfold l36_quoted
  have := quoted_l s hs s.length 0 k [34] (by omega) hk (by simp; omega)
  have e : ([34] : List Int) = toI [34] := rfl
  have h0 : (0 : Int) = ((0 : Nat) : Int) := rfl
  rw [e, h0, this]
  rfl
theorem llabel_eq {s : Str} {k : Nat} (hs : s.length ≤ 1000000000) (hk : 2 * s.length + 1 < k) : l36_label k s = some (labT s).txt := by
  unfold l36_label labT
  rw [word_eq (by omega) (by omega), Option.bind_some, quoted_eq hs hk, Option.bind_some]
  split <;> rfl
theorem lvalue_eq {v : GValue} {k : Nat} (hv : okV v) (hs : v.Text.length ≤ 1000000000) (hk : 2 * v.Text.length + 25 < k) : l36_value k v = some (txt0 (valT v)) := by
  unfold l36_value valT
  rcases hv with h | ⟨h, h0, h1⟩ | ⟨h, h0 | h0⟩
  · rw [h, quoted_eq hs (by omega)]
    simp [txt0, ren, tT]
  · rw [h, decimal_eq (by omega) (by omega) (by omega)]
    simp
  · rw [h, h0]; rfl
  · rw [h, h0]; rfl
theorem sep_eq {l : Int × Str} (h : endK l) : sepB l (tS wx3d) = [32] := by
  unfold sepB spB tS
  rcases h with h | h | h | ⟨h, h2⟩
  · rw [h]; rfl
  · rw [h]; rfl
  · rw [h]; rfl
  · rw [h, h2]; rfl
theorem sep_lt {l : Int × Str} (h : endK l) : sepB l (tS wx3c) = [32] := by
  unfold sepB spB tS
  rcases h with h | h | h | ⟨h, h2⟩
  · rw [h]; rfl
  · rw [h]; rfl
  · rw [h]; rfl
  · rw [h, h2]; rfl
theorem valT_cons (v : GValue) : ∃ t ts, valT v = t :: ts ∧ (t.k = 3 ∨ t.k = 2 ∨ (t.k = 4 ∧ t.s = wx2d) ∨ t.k = 1) := by
  unfold valT numT
  split
  · exact ⟨_, _, rfl, .inl rfl⟩
  · split
    · split
      · exact ⟨_, _, rfl, .inr (.inr (.inl ⟨rfl, rfl⟩))⟩
      · exact ⟨_, _, rfl, .inr (.inl rfl)⟩
    · exact ⟨_, _, rfl, .inr (.inr (.inr rfl))⟩
theorem ren_val (q : Int × Str) (hq : q = (4, wx3d) ∨ q = (4, wx3c) ∨ q = (1, w_prefix)) (v : GValue) : ren q (valT v) = 32 :: txt0 (valT v) := by
  obtain ⟨t, ts, e, ht⟩ := valT_cons v
  rw [e, ren_cons]
  have : sepB q t = [32] := by
    unfold sepB spB
    rcases hq with rfl | rfl | rfl
    · rfl
    · rfl
    · rcases ht with h | h | ⟨h, h2⟩ | h
      · rw [h]; rfl
      · rw [h]; rfl
      · rw [h, h2]; rfl
      · rw [h]; simp
  rw [this]; rfl
theorem txt0_wrap {o : Int} {ts : List PTk} (h : BE ts) (hj : isJ o = true) : txt0 (wrapT o ts) = wx28 ++ txt0 ts ++ wx29 := by
  obtain ⟨⟨t, r, rfl, hb, _⟩, hl⟩ := h
  unfold wrapT
  rw [if_pos hj]
  have e1 : sepB (4, unp wx28) t = [] := sep_open hb
  have e2 := sep_close (hl (0, w_0))
  simp only [txt0, tS, List.cons_append, ren, ren_append, e1, lst, List.nil_append, List.append_assoc]
  simp only [lst, tS] at e2
  rw [e2]
  simp
theorem ren_tkK {o : Int} : ∀ (l : List GPred), (∀ q ∈ l, BE (tkA q)) → ∀ m, endK m → ren m (tkK o l) = l.flatMap fun q => 32 :: (sepT o ++ 32 :: txt0 (tkA q))
  | [], _, m, _ => rfl
  | q :: l, h, m, hm => by
    have hq := h q List.mem_cons_self
    obtain ⟨⟨t, r, ht, hb, _⟩, hl⟩ := hq
    have e : tkK o (q :: l) = (tW (sepT o) :: tkA q) ++ tkK o l := rfl
    rw [e, ren_append, ren_tkK l (fun x hx => h x (List.mem_cons_of_mem _ hx)) (lst m (tW (sepT o) :: tkA q)) (hl _), List.flatMap_cons]
    congr 1
    have e1 : ren (1, unp (sepT o)) (tkA q) = 32 :: txt0 (tkA q) := by
      rw [ht, ren_cons, sep_beg hb]; rfl
    have e2 : ren m (tW (sepT o) :: tkA q) = sepB m (tW (sepT o)) ++ sepT o ++ ren (1, unp (sepT o)) (tkA q) := rfl
    rw [e2, sep_word hm, e1]
    simp
theorem isJ_iff {o : Int} : isJ o = (o == 1 || o == 2) := rfl
theorem lpred_eq : ∀ p : GPred, ∀ k : Nat, allP okN p → 60 * wP p + 60 ≤ k → wP p ≤ 100000 → l36_pred k p = some (txt0 (tkP p)) := by
  refine GPred.byW fun p ih => ?_
  intro k hok hk hx
  have hw := wP_eq p
  have hn := allP_node hok
  have hlen := wL_len p.Args
  have hpos := wP_pos p
  have hBE : ∀ q ∈ p.Args, BE (tkA q) := fun q hq => tkA_BE (allP_arg hok hq)
  have arg : ∀ (q : GPred), q ∈ p.Args → ∀ (k : Nat), 60 * wP q + 62 ≤ k → l36_part k q = some (txt0 (tkA q)) := by
    intro q hq k hk
    have hoq := allP_arg hok hq
    have hb := tkP_BE q hoq
    obtain ⟨k, rfl⟩ : ∃ m, k = m + 1 := ⟨k - 1, by omega⟩
    have hwq := wP_arg hq
    have ht := tb_tkP q
    have hl := txt0_len (tkP q)
    have l1 : wx28.length = 1 := rfl
    have l2 : wx29.length = 1 := rfl
    rw [l36_part, ih q hwq k hoq (by omega) (by omega)]
    have c1 : decide ((wx28 ++ txt0 (tkP q)).length ≤ 9223372036854775807) = true := decide_eq_true (by rw [List.length_append]; omega)
    have c2 : decide ((wx28 ++ txt0 (tkP q) ++ wx29).length ≤ 9223372036854775807) = true := decide_eq_true (by rw [List.length_append, List.length_append]; omega)
    simp only [Option.bind_some, chk_pos c1, chk_pos c2]
    unfold tkA
    cases hj : isJ q.Op with
    | true => rw [txt0_wrap hb hj]; rw [isJ_iff] at hj; cases h1 : (q.Op == 1) <;> cases h2 : (q.Op == 2) <;> simp_all
    | false =>
      unfold wrapT
      rw [hj]
      rw [isJ_iff] at hj
      cases h1 : (q.Op == 1) <;> cases h2 : (q.Op == 2) <;> simp_all
  have bound : ∀ l : List GPred, (l.flatMap fun q => 32 :: (sepT p.Op ++ 32 :: txt0 (tkA q))).length ≤ 70 * wL l := by
    intro l
    induction l with
    | nil => exact Nat.le_refl _
    | cons q l ihl =>
      rw [List.flatMap_cons, List.length_append]
      have := txt0_len (tkA q)
      have := tb_tkA q
      have := tb_sep p.Op
      simp only [List.length_cons, List.length_append, wL]
      omega
  have loop : isJ p.Op = true → ∀ (d i k : Nat) (out : Str), i + d = p.Args.length → 60 * wL (p.Args.drop i) + 65 ≤ k → out.length + 70 * wL (p.Args.drop i) ≤ 100000000 →
      l36_pred_l4 k p (32 :: (sepT p.Op ++ [32])) out (i : Int) = some (out ++ (p.Args.drop i).flatMap fun q => 32 :: (sepT p.Op ++ 32 :: txt0 (tkA q))) := by
    intro hj d
    induction d with
    | zero =>
      intro i k out hi hk hx
      obtain ⟨k, rfl⟩ : ∃ m, k = m + 1 := ⟨k - 1, by omega⟩
      rw [l36_pred_l4, if_neg (by simp; omega), List.drop_eq_nil_of_le (by omega)]; simp
    | succ d ihd =>
      intro i k out hi hk hx
      obtain ⟨k, rfl⟩ : ∃ m, k = m + 1 := ⟨k - 1, by omega⟩
      have h1 : i < p.Args.length := by omega
      have hd := wL_drop h1
      have hm := List.getElem_mem h1
      have hq := wP_pos p.Args[i]
      have ht := tb_tkA p.Args[i]
      have hl := txt0_len (tkA p.Args[i])
      have hs := tb_sep p.Op
      have nx := ihd (i + 1) k ((out ++ (32 :: (sepT p.Op ++ [32]))) ++ txt0 (tkA p.Args[i])) (by omega) (by omega) (by simp only [List.length_append, List.length_cons, List.length_nil]; omega)
      rw [l36_pred_l4, if_pos (by simp; omega), chk_pos (by simp only [List.length_append, List.length_cons, List.length_nil]; simp; omega), chk_pos (dec_nonneg i), toNat_cast, List.getElem?_eq_getElem h1, Option.bind_some, arg _ hm k (by omega), Option.bind_some,
        chk_pos (by simp only [List.length_append, List.length_cons, List.length_nil]; simp; omega), w64_succ (by omega), nx, List.drop_eq_getElem_cons h1, List.flatMap_cons]
      simp
  have j2 : ∀ (k : Nat) (name : Str), 60 * wP p + 57 ≤ k → name = txt0 (pathT p.Field p.Key) → (isJ p.Op = true → l36_pred_j2 k p name true = some (txt0 (tkP p))) ∧ (isJ p.Op = false → l36_pred_j2 k p name false = some (txt0 (tkP p))) := by
    intro k name hk hname
    obtain ⟨k, rfl⟩ : ∃ m, k = m + 2 := ⟨k - 2, by omega⟩
    constructor
    · intro hj
      have h1 := hn.2.2.2 hj
      have hm := List.getElem_mem h1
      have hm2 := wL_mem hm
      have e0 : (p.Op == 0) = false := by rcases isJ_eq hj with h | h <;> rw [h] <;> rfl
      have hd : wL p.Args = wP p.Args[0] + wL (p.Args.drop 1) := by have := wL_drop h1; simpa using this
      have ht := tb_tkA p.Args[0]
      have hl := txt0_len (tkA p.Args[0])
      have lp := loop hj (p.Args.length - 1) 1 k (txt0 (tkA p.Args[0])) (by omega) (by omega) (by omega)
      have j3 : l36_pred_j3 (k + 1) p (32 :: (sepT p.Op ++ [32])) = some (txt0 (tkP p)) := by
        rw [l36_pred_j3, chk_pos (by decide), Int.toNat_zero, List.getElem?_eq_getElem h1, Option.bind_some, arg _ hm k (by omega), Option.bind_some]
        refine lp.trans ?_
        rw [tkP_eq, e0, if_neg (by simp), if_pos hj, tkJ_eq h1, txt0_append (hBE _ hm).ne, ren_tkK _ (fun q hq => hBE q (List.mem_of_mem_drop hq)) _ ((hBE _ hm).2 _)]
      rw [l36_pred_j2, if_pos rfl]
      rcases isJ_eq hj with h | h
      · have e : (p.Op == 2) = false := by rw [h]; rfl
        have e' : 32 :: (sepT p.Op ++ [32]) = wx20616e6420 := by rw [h]; rfl
        rw [e, if_neg (by simp), ← e']; exact j3
      · have e : (p.Op == 2) = true := by rw [h]; rfl
        have e' : 32 :: (sepT p.Op ++ [32]) = wx206f7220 := by rw [h]; rfl
        rw [e, if_pos rfl, ← e']; exact j3
    · intro hj
      have l1 : wx6e6f7420.length = 4 := rfl
      have l2 : wx68617320.length = 4 := rfl
      have l3 : wx203d20.length = 3 := rfl
      have l4 : wx203c20.length = 3 := rfl
      have l5 : wx2070726566697820.length = 8 := rfl
      rw [l36_pred_j2, if_neg (by simp), tkP_eq, hj]
      simp only [Bool.false_eq_true, if_false]
      by_cases h3 : p.Op = 3
      · have e3 : (p.Op == 3) = true := by rw [h3]; rfl
        have e0 : (p.Op == 0) = false := by rw [h3]; rfl
        have h1 := hn.2.1 h3
        have hm := List.getElem_mem h1
        have hm2 := wL_mem hm
        have ht := tb_tkA p.Args[0]
        have hl := txt0_len (tkA p.Args[0])
        simp only [e3, e0, if_true, Bool.false_eq_true, if_false]
        rw [chk_pos (by decide), Int.toNat_zero, List.getElem?_eq_getElem h1, Option.bind_some, arg _ hm (k + 1) (by omega), Option.bind_some, chk_pos (by simp only [List.length_append]; simp; omega), tkH_eq h1]
        obtain ⟨⟨t, r, ht, hb, _⟩, _⟩ := hBE _ hm
        rw [ht]
        have e : txt0 (tW w_not :: t :: r) = w_not ++ ren (1, unp w_not) (t :: r) := rfl
        rw [e, ren_cons, sep_beg hb]
        rfl
      have e3 : (p.Op == 3) = false := by simpa using h3
      by_cases h4 : p.Op = 4
      · have e4 : (p.Op == 4) = true := by rw [h4]; rfl
        have e0 : (p.Op == 0) = false := by rw [h4]; rfl
        have hl := labT_len p.Key
        simp only [e3, e4, e0, if_true, Bool.false_eq_true, if_false]
        rw [llabel_eq (by omega) (by omega), Option.bind_some, chk_pos (by simp only [List.length_append]; simp; omega)]
        have e : txt0 [tW w_has, labT p.Key] = w_has ++ (sepB (1, unp w_has) (labT p.Key) ++ (labT p.Key).txt ++ []) := rfl
        have e2 : sepB (1, unp w_has) (labT p.Key) = [32] := by
          unfold labT
          split
          · exact sep_word (.inl rfl) _
          · rfl
        rw [e, e2]
        simp
      have e4 : (p.Op == 4) = false := by simpa using h4
      by_cases h0 : p.Op = 0
      · rw [h0]; rfl
      have e0 : (p.Op == 0) = false := by simpa using h0
      have a1 : p.Op ≠ 1 := fun h => by rw [h] at hj; cases hj
      have a2 : p.Op ≠ 2 := fun h => by rw [h] at hj; cases hj
      have hv := (hn.2.2.1 (by have := hn.1; omega)).1
      have hnl := txt0_len (pathT p.Field p.Key)
      have htp := tb_path p.Field p.Key
      have hvl := txt0_len (valT p.Value)
      have htv := tb_val p.Value
      obtain ⟨ts, hts⟩ := pathT_cons p.Field p.Key
      have hpne : pathT p.Field p.Key ≠ [] := by rw [hts]; exact List.cons_ne_nil _ _
      have hpe := pathT_lst p.Field p.Key (0, w_0)
      simp only [e3, e4, e0, Bool.false_eq_true, if_false]
      rw [lvalue_eq hv (by omega) (by omega), txt0_append hpne, hname]
      generalize txt0 (pathT p.Field p.Key) = n at hnl
      generalize lst (0, w_0) (pathT p.Field p.Key) = q at hpe
      have c1 : decide ((n ++ wx203d20).length ≤ 9223372036854775807) = true := decide_eq_true (by rw [List.length_append]; omega)
      have c2 : decide (((n ++ wx203d20) ++ txt0 (valT p.Value)).length ≤ 9223372036854775807) = true := decide_eq_true (by rw [List.length_append, List.length_append]; omega)
      have c3 : decide ((n ++ wx203c20).length ≤ 9223372036854775807) = true := decide_eq_true (by rw [List.length_append]; omega)
      have c4 : decide (((n ++ wx203c20) ++ txt0 (valT p.Value)).length ≤ 9223372036854775807) = true := decide_eq_true (by rw [List.length_append, List.length_append]; omega)
      have c5 : decide ((n ++ wx2070726566697820).length ≤ 9223372036854775807) = true := decide_eq_true (by rw [List.length_append]; omega)
      have c6 : decide (((n ++ wx2070726566697820) ++ txt0 (valT p.Value)).length ≤ 9223372036854775807) = true := decide_eq_true (by rw [List.length_append, List.length_append]; omega)
      simp only [Option.bind_some, chk_pos c1, chk_pos c2, chk_pos c3, chk_pos c4, chk_pos c5, chk_pos c6]
      have r1 : ren q (tS wx3d :: valT p.Value) = wx203d20 ++ txt0 (valT p.Value) := by
        have : ren (4, wx3d) (valT p.Value) = 32 :: txt0 (valT p.Value) := ren_val _ (.inl rfl) _
        simp only [ren, sep_eq hpe]
        rw [show ((tS wx3d).k, unp (tS wx3d).s) = (4, wx3d) from rfl, this]; rfl
      have r2 : ren q (tS wx3c :: valT p.Value) = wx203c20 ++ txt0 (valT p.Value) := by
        have : ren (4, wx3c) (valT p.Value) = 32 :: txt0 (valT p.Value) := ren_val _ (.inr (.inl rfl)) _
        simp only [ren, sep_lt hpe]
        rw [show ((tS wx3c).k, unp (tS wx3c).s) = (4, wx3c) from rfl, this]; rfl
      have r3 : ren q (tW w_prefix :: valT p.Value) = wx2070726566697820 ++ txt0 (valT p.Value) := by
        have : ren (1, w_prefix) (valT p.Value) = 32 :: txt0 (valT p.Value) := ren_val _ (.inr (.inr rfl)) _
        simp only [ren, sep_word hpe]
        rw [show ((tW w_prefix).k, unp (tW w_prefix).s) = (1, w_prefix) from rfl, this]; rfl
      by_cases h5 : p.Op = 5
      · rw [h5]; simp only [beq_self_eq_true, if_true, r1, List.append_assoc]
      by_cases h6 : p.Op = 6
      · rw [h6]
        rw [show ((6 : Int) == 5) = false from rfl]
        simp only [beq_self_eq_true, if_true, Bool.false_eq_true, if_false, r2, List.append_assoc]
      have h7 : p.Op = 7 := by have := hn.1; omega
      rw [h7]
      rw [show ((7 : Int) == 5) = false from rfl, show ((7 : Int) == 6) = false from rfl]
      simp only [beq_self_eq_true, if_true, Bool.false_eq_true, if_false, r3, List.append_assoc]
  have j1 : ∀ (k : Nat) (name : Str), 60 * wP p + 58 ≤ k → name = txt0 (pathT p.Field p.Key) → l36_pred_j1 k p name = some (txt0 (tkP p)) := by
    intro k name hk hname
    obtain ⟨k, rfl⟩ : ∃ m, k = m + 1 := ⟨k - 1, by omega⟩
    have h := j2 k name (by omega) hname
    rw [l36_pred_j1]
    cases hj : isJ p.Op with
    | true =>
      have := h.1 hj
      rcases isJ_eq hj with h | h
      · rw [show (p.Op == 1) = true by rw [h]; rfl, if_pos rfl]; exact this
      · rw [show (p.Op == 1) = false by rw [h]; rfl, if_neg (by simp), show (p.Op == 2) = true by rw [h]; rfl]; exact this
    | false =>
      have := h.2 hj
      rw [isJ_iff] at hj
      cases h1 : (p.Op == 1) with
      | true => rw [h1] at hj; simp at hj
      | false =>
        cases h2 : (p.Op == 2) with
        | true => rw [h2] at hj; simp at hj
        | false => rw [if_neg (by simp)]; exact this
  obtain ⟨k, rfl⟩ : ∃ m, k = m + 1 := ⟨k - 1, by omega⟩
  have hl := labT_len p.Key
  have l9 : wx617474722e.length = 5 := rfl
  rw [l36_pred, llabel_eq (by omega) (by omega), Option.bind_some, chk_pos (by simp only [List.length_append]; simp; omega)]
  cases hf : (p.Field == w_attr) with
  | true =>
    rw [if_pos rfl]
    refine j1 k _ (by omega) ?_
    have hfe : p.Field = w_attr := by simpa using hf
    unfold pathT
    rw [hf, if_pos rfl, hfe]
    have e : txt0 [tW w_attr, tS wx2e, labT p.Key] = w_attr ++ (sepB (1, unp w_attr) (tS wx2e) ++ wx2e ++ (sepB (4, unp wx2e) (labT p.Key) ++ (labT p.Key).txt ++ [])) := rfl
    have e1 : sepB (1, unp w_attr) (tS wx2e) = [] := by decide
    have e2 : sepB (4, unp wx2e) (labT p.Key) = [] := by
      unfold labT
      split <;> rfl
    rw [e, e1, e2]
    simp
  | false =>
    rw [if_neg (by simp)]
    refine j1 k _ (by omega) ?_
    unfold pathT
    rw [hf, if_neg (by simp)]
    simp [txt0, ren, tW]
end Go.Proofs.YtfnaahkgegfbnaaGreatDoor
set_option maxRecDepth 10000
namespace Go.Proofs.YtfnaahkgegfbnaaGreatDoor
open Go.RowKit Go.ChangeShapes Go.WideShapes Go.ChangeAt Go.WideMaps Go.WideElems
def Opn {α : Type} (H : Type) (enc : TypeId × Value → H) (W : World) (T : Ty α) (t : TypeId) (ok : α → Prop) (fuel : Nat) : Prop :=
  ∀ (cs : List Value) (x : DataW H × List MemPlace), DataW.trod enc Tryz.prog W 0 (fun _ => true) true fuel t cs = some x → (x.1.weights Tryz.prog t).all (· ≤ reachBytes) = true → ∃ y, T.R (mOf W) y cs ∧ ok y
section
variable {H : Type} {enc : TypeId × Value → H} {W : World}
theorem exists_list {α : Type} {n : Nat} {p : Nat → α → Prop} (h : ∀ i, i < n → ∃ y, p i y) : ∃ l : List α, l.length = n ∧ ∀ i y, l[i]? = some y → p i y := by
  induction n with
  | zero => exact ⟨[], rfl, fun i y hy => by simp at hy⟩
  | succ n ih =>
    obtain ⟨l, hl, hp⟩ := ih fun i hi => h i (by omega)
    obtain ⟨y, hy⟩ := h n (by omega)
    refine ⟨l ++ [y], by simp [hl], fun i z hz => ?_⟩
    rcases Nat.lt_trichotomy i n with hi | hi | hi
    · rw [List.getElem?_append_left (by omega)] at hz; exact hp i z hz
    · subst hi
      rw [List.getElem?_append_right (by omega), hl] at hz
      simp at hz; subst hz; exact hy
    · rw [List.getElem?_eq_none (by simp; omega)] at hz; cases hz
theorem At.cells {ad : Addr} {n base : Nat} {cs : List Value} (hn : 0 < n) (h : W.cells? base ad n = some cs) : cs.length = n ∧ At (mOf W) ad cs := by
  unfold World.cells? at h
  split at h
  · have hlen : cs.length = n := by have := mapM_some_length h; simpa using this
    have hget : ∀ j, j < n → W.cell? (ad.add j) = cs[j]? := fun j hj => mapM_some_get h j j (by simp [hj])
    refine ⟨hlen, ?_⟩
    have h0 := hget 0 hn
    have e0 : ad.add 0 = ad := by simp [Addr.add]
    rw [e0, List.getElem?_eq_getElem (by omega)] at h0
    obtain ⟨hs, c, t, fr, hm, hc⟩ := At.of h0
    refine ⟨hs, c, t, fr, hm, fun j v hj => ?_⟩
    have hjn : j < n := by
      rcases Nat.lt_or_ge j cs.length with h' | h'
      · omega
      · rw [List.getElem?_eq_none h'] at hj; cases hj
    have h1 := hget j hjn
    rw [hj, addr_add _ _ hs] at h1
    unfold World.cell? at h1
    have hm' : W.heap[ad.block]? = some (.cells c t fr) := hm
    simpa [hm'] using h1
  · cases h
def okI (k : IntKind) (x : Int) : Prop := (Lit.int k x).wf = true
def okS (s : Str) : Prop := s.length ≤ reachBytes
theorem opn_int {t : TypeId} (k : IntKind) (ht : Tryz.prog.underlying t = some (.int k)) (n : Nat) : Opn H enc W (TInt k) t (okI k) n := by
  intro cs x h _
  obtain ⟨y, rfl, _, hw⟩ := DataW.trod_int ht h
  exact ⟨y, rfl, hw⟩
theorem opn_bool {t : TypeId} (ht : Tryz.prog.underlying t = some .bool) (n : Nat) : Opn H enc W TBool t (fun _ => True) n := by
  intro cs x h _
  obtain ⟨y, rfl, _⟩ := DataW.trod_bool ht h
  exact ⟨y, rfl, trivial⟩
theorem opn_str {t : TypeId} (ht : Tryz.prog.underlying t = some .string) (n : Nat) : Opn H enc W TStr t okS n := by
  intro cs x h hw
  obtain ⟨s, rfl, rfl, _⟩ := DataW.trod_string ht h
  refine ⟨s.data.toList, rfl, ?_⟩
  simpa [DataW.weights, okS] using hw
theorem weights_all {t : TypeId} : ∀ {l : List (DataW H)}, (DataW.weightsAll Tryz.prog t l).all (· ≤ reachBytes) = true → ∀ d ∈ l, (d.weights Tryz.prog t).all (· ≤ reachBytes) = true
  | d :: l, h, e, he => by
    rw [DataW.weightsAll, List.all_append, Bool.and_eq_true] at h
    rcases List.mem_cons.1 he with rfl | he
    · exact h.1
    · exact weights_all h.2 e he
theorem opn_slice {α : Type} {T : Ty α} {ok : α → Prop} {t e : TypeId} (ht : Tryz.prog.underlying t = some (.slice e)) (hc : Tryz.prog.cellsOf e = T.size) (hz : 0 < T.size) {n : Nat} (hE : ∀ m, m < n → Opn H enc W T e ok m) :
    Opn H enc W (TSl T) t (fun l => (∀ y ∈ l, ok y) ∧ l.length * Tryz.prog.bytesOf e ≤ reachBytes) n := by
  intro cs x h hw
  rcases DataW.trod_slice ht h with ⟨rfl, rfl⟩ | ⟨a, len, cap, elems, rest, m, rfl, rfl, rfl, _, hlc, _, hlen, hel, _, _⟩
  · exact ⟨[], ⟨_, rfl, RS.nil _ _⟩, ⟨fun y hy => (by cases hy), (by simp)⟩⟩
  · rw [DataW.weights, ht] at hw
    simp only [List.all_cons, List.all_append, Bool.and_eq_true, decide_eq_true_eq, List.length_map] at hw
    have hwe := weights_all hw.2.1
    have hx : ∀ i, i < len → ∃ y, (∃ cs, T.R (mOf W) y cs ∧ At (mOf W) (a.add (i * T.size)) cs) ∧ ok y := by
      intro i hi
      have h1 := hel i hi
      rw [hc, List.getElem?_eq_getElem (by omega)] at h1
      obtain ⟨cs, hcs, htr⟩ := Option.bind_eq_some_iff.1 h1
      obtain ⟨y, hR, hok⟩ := hE m (Nat.lt_succ_self m) cs _ htr (hwe _ (List.mem_map.2 ⟨_, List.getElem_mem _, rfl⟩))
      exact ⟨y, ⟨cs, hR, (At.cells hz hcs).2⟩, hok⟩
    obtain ⟨l, hl, hp⟩ := exists_list hx
    refine ⟨l, ⟨_, rfl, some a, cap, by rw [hl], by omega, fun i y hy => ?_⟩, fun y hy => ?_, ?_⟩
    · obtain ⟨cs, h1, h2⟩ := (hp i y hy).1
      exact ⟨a, cs, rfl, h1, h2⟩
    · obtain ⟨i, hi⟩ := List.getElem?_of_mem hy
      exact (hp i y hi).2
    · rw [hl]
      have : len * Tryz.prog.bytesOf e ≤ (elems.length + rest.length) * Tryz.prog.bytesOf e := Nat.mul_le_mul_right _ (by omega)
      omega
theorem weights_each {ts : List TypeId} {ds : List (DataW H)} (h : (DataW.weightsEach Tryz.prog ts ds).all (· ≤ reachBytes) = true) : ∀ (i : Nat) t d, ts[i]? = some t → ds[i]? = some d → (d.weights Tryz.prog t).all (· ≤ reachBytes) = true := by
  induction ts generalizing ds with
  | nil => intro i t d ht; simp at ht
  | cons t ts ih =>
    cases ds with
    | nil => intro i t d _ hd; simp at hd
    | cons d ds =>
      rw [DataW.weightsEach, List.all_append, Bool.and_eq_true] at h
      intro i u e hu he
      cases i with
      | zero => simp at hu he; subst hu; subst he; exact h.1
      | succ i => simp only [List.getElem?_cons_succ] at hu he; exact ih h.2 i u e hu he
theorem opn_field {α : Type} {T : Ty α} {ok : α → Prop} {fs : Array Field} {n : Nat} {cs : List Value} {xs : List (DataW H × List MemPlace)} (hf : ∀ (i : Nat) (f : Field), fs[i]? = some f → DataW.trod enc Tryz.prog W 0 (fun _ => true) true n f.type ((cs.drop f.offset).take (Tryz.prog.cellsOf f.type)) = xs[i]?)
    (hw : (DataW.weightsEach Tryz.prog (fs.toList.map (·.type)) (xs.map (·.1))).all (· ≤ reachBytes) = true) (hlen : xs.length = fs.size) (i : Nat) (off size : Nat) (t : TypeId) (hi : fs[i]?.map (fun f => (f.type, f.offset)) = some (t, off)) (hs : Tryz.prog.cellsOf t = size) (hE : Opn H enc W T t ok n) :
    ∃ y, T.R (mOf W) y ((cs.drop off).take size) ∧ ok y := by
  subst hs
  cases hfi : fs[i]? with
  | none => simp [hfi] at hi
  | some f =>
    simp only [hfi, Option.map_some, Option.some.injEq, Prod.mk.injEq] at hi
    obtain ⟨rfl, rfl⟩ := hi
    have h1 := hf i f hfi
    have hlt : i < xs.length := by rw [hlen]; exact (Array.getElem?_eq_some_iff.1 hfi).1
    rw [List.getElem?_eq_getElem hlt] at h1
    refine hE _ _ h1 (weights_each hw i _ _ ?_ ?_)
    · rw [List.getElem?_map, Array.getElem?_toList, hfi]; rfl
    · rw [List.getElem?_map, List.getElem?_eq_getElem hlt]; rfl
theorem opn_struct {t : TypeId} {fs : Array Field} {fuel : Nat} {cs : List Value} {x : DataW H × List MemPlace} (ht : Tryz.prog.underlying t = some (.struct fs)) (h : DataW.trod enc Tryz.prog W 0 (fun _ => true) true fuel t cs = some x)
    (hw : (x.1.weights Tryz.prog t).all (· ≤ reachBytes) = true) : ∃ (xs : List (DataW H × List MemPlace)) (n : Nat), fuel = n + 1 ∧ cs.length = Tryz.prog.cellsOf t ∧ xs.length = fs.size ∧ (DataW.weightsEach Tryz.prog (fs.toList.map (·.type)) (xs.map (·.1))).all (· ≤ reachBytes) = true ∧
      ∀ (i : Nat) (f : Field), fs[i]? = some f → DataW.trod enc Tryz.prog W 0 (fun _ => true) true n f.type ((cs.drop f.offset).take (Tryz.prog.cellsOf f.type)) = xs[i]? := by
  obtain ⟨xs, n, rfl, rfl, hl, hlen, hf⟩ := DataW.trod_struct ht h
  rw [DataW.weights, ht] at hw
  exact ⟨xs, n, rfl, hl, hlen, hw, hf⟩
end
def okGValue (v : GValue) : Prop := okI .i64 v.Kind ∧ okS v.Text ∧ okI .i64 v.Int
inductive okGPred : GPred → Prop
  | mk (p : GPred) (h0 : okI .i64 p.Op) (h1 : okS p.Field) (h2 : okS p.Key) (h3 : okGValue p.Value) (h4 : p.Args.length * 96 ≤ reachBytes) (h5 : ∀ q ∈ p.Args, okGPred q) : okGPred p
section
variable {H : Type} {enc : TypeId × Value → H} {W : World}
theorem opn_GValue (n : Nat) : Opn H enc W TGValue 41 okGValue n := by
  intro cs x h hw
  obtain ⟨xs, n, rfl, hl, hlen, hw, hf⟩ := opn_struct Tryz.underlying41 h hw
  have c : Tryz.prog.cellsOf 41 = 3 := by kernel_rfl
  rw [c] at hl
  obtain ⟨y0, r0, o0⟩ := opn_field (T := TInt .i64) hf hw hlen 0 0 1 3 rfl (by kernel_rfl) (opn_int .i64 (by kernel_rfl) n)
  obtain ⟨y1, r1, o1⟩ := opn_field (T := TStr) hf hw hlen 1 1 1 9 rfl (by kernel_rfl) (opn_str (by kernel_rfl) n)
  obtain ⟨y2, r2, o2⟩ := opn_field (T := TInt .i64) hf hw hlen 2 2 1 3 rfl (by kernel_rfl) (opn_int .i64 (by kernel_rfl) n)
  refine ⟨⟨y0, y1, y2⟩, ?_, o0, o1, o2⟩
  match cs, hl with
  | [a, b, d], _ =>
    cases r0; cases r1; cases r2
    rfl
theorem opn_GPred : ∀ n : Nat, Opn H enc W TGPred 44 okGPred n := by
  intro n
  induction n using Nat.strongRecOn with
  | ind n ih =>
    intro cs x h hw
    obtain ⟨xs, m, rfl, hl, hlen, hw, hf⟩ := opn_struct Tryz.underlying44 h hw
    have c : Tryz.prog.cellsOf 44 = 7 := by kernel_rfl
    rw [c] at hl
    obtain ⟨y0, r0, o0⟩ := opn_field (T := TInt .i64) hf hw hlen 0 0 1 3 rfl (by kernel_rfl) (opn_int .i64 (by kernel_rfl) m)
    obtain ⟨y1, r1, o1⟩ := opn_field (T := TStr) hf hw hlen 1 1 1 9 rfl (by kernel_rfl) (opn_str (by kernel_rfl) m)
    obtain ⟨y2, r2, o2⟩ := opn_field (T := TStr) hf hw hlen 2 2 1 9 rfl (by kernel_rfl) (opn_str (by kernel_rfl) m)
    obtain ⟨y3, r3, o3⟩ := opn_field (T := TGValue) hf hw hlen 3 3 3 41 rfl (by kernel_rfl) (opn_GValue m)
    obtain ⟨y4, r4, o4⟩ := opn_field (T := TSl TGPred) hf hw hlen 4 6 1 42 rfl (by kernel_rfl) (opn_slice (by kernel_rfl) (by kernel_rfl) (by decide) (fun k hk => ih k (by omega)))
    have b96 : Tryz.prog.bytesOf 44 = 96 := by kernel_rfl
    rw [b96] at o4
    refine ⟨⟨y0, y1, y2, y3, y4⟩, ?_, .mk _ o0 o1 o2 o3 o4.2 o4.1⟩
    match cs, hl with
    | [a, b, d, e, f, g, i], _ =>
      obtain ⟨v, hv, hr⟩ := r4
      cases r0; cases r1; cases r2; cases r3; cases hv
      exact TGPred.close_ _ hr
end
theorem vis_ok : ∀ p : GPred, ∀ lev n : Int, (visP p lev n).2 = 0 → allP (fun q => nodeE q = 0) p := by
  refine GPred.byW fun p ih => ?_
  intro lev n h
  rw [visP_eq] at h
  rw [allP_eq]
  cases h1 : decide (n ≥ 64) with
  | true => rw [h1] at h; simp at h
  | false =>
  cases h2 : decide (lev > 16) with
  | true => rw [h1, h2] at h; simp at h
  | false =>
  cases h3 : (nodeE p != 0) with
  | true =>
    rw [h1, h2, h3] at h
    simp only [Bool.false_eq_true, if_false, if_true] at h
    rw [h] at h3
    cases h3
  | false =>
  rw [h1, h2, h3] at h
  simp only [Bool.false_eq_true, if_false] at h
  refine ⟨by simpa using h3, ?_⟩
  have key : ∀ (l : List GPred), (∀ q ∈ l, q ∈ p.Args) → ∀ n, (visL l (lev + 1) n).2 = 0 → allL (fun q => nodeE q = 0) l := by
    intro l
    induction l with
    | nil => intro _ _ _; trivial
    | cons q l ihl =>
      intro hm n h
      simp only [visL] at h
      split at h
      · rename_i h4; rw [h] at h4; cases h4
      · rename_i h4
        exact ⟨ih q (wP_arg (hm q List.mem_cons_self)) _ _ (by simpa using h4), ihl (fun x hx => hm x (List.mem_cons_of_mem _ hx)) _ h⟩
  exact key _ (fun q h => h) _ h
theorem valE_ok {v : GValue} (h : valE v = 0) : okV v ∧ (v.Kind = 1 → withinB 32 126 v.Text = true ∧ v.Int = 0) ∧ (v.Kind ≠ 1 → v.Text = []) ∧ v.Text.length ≤ 4096 := by
  unfold valE valE1 at h
  have hl : ∀ b, (if decide ((v.Text.length : Int) > 4096) = true then (5 : Int) else if (!b) = true then 3 else 0) = 0 → b = true ∧ v.Text.length ≤ 4096 := by
    intro b hb
    split at hb
    · cases hb
    · rename_i hd
      have hd : ¬ ((v.Text.length : Int) > 4096) := by simpa using hd
      split at hb
      · cases hb
      · rename_i hb2
        exact ⟨by simpa using hb2, by omega⟩
  split at h
  · rename_i hk
    have hk : v.Kind = 1 := by simpa using hk
    obtain ⟨h1, h2⟩ := hl _ h
    rw [Bool.and_eq_true] at h1
    exact ⟨.inl hk, fun _ => ⟨h1.1, by simpa using h1.2⟩, fun h => absurd hk h, h2⟩
  · rename_i hk1
    have hk1 : v.Kind ≠ 1 := by simpa using hk1
    split at h
    · rename_i hk
      have hk : v.Kind = 2 := by simpa using hk
      obtain ⟨h1, h2⟩ := hl _ h
      rw [Bool.and_eq_true, Bool.and_eq_true] at h1
      have := of_decide_eq_true h1.2.1
      have := of_decide_eq_true h1.2.2
      exact ⟨.inr (.inl ⟨hk, by omega, by omega⟩), fun h => absurd h hk1, fun _ => by simpa using h1.1, h2⟩
    · split at h
      · rename_i hk
        have hk : v.Kind = 3 := by simpa using hk
        obtain ⟨h1, h2⟩ := hl _ h
        rw [Bool.and_eq_true, Bool.or_eq_true] at h1
        exact ⟨.inr (.inr ⟨hk, by simpa using h1.2⟩), fun h => absurd h hk1, fun _ => by simpa using h1.1, h2⟩
      · cases h
structure NodeOk (p : GPred) : Prop where
  op : 0 ≤ p.Op ∧ p.Op ≤ 7
  join : isJ p.Op = true → 1 ≤ p.Args.length
  not : p.Op = 3 → p.Args.length = 1
  leaf : p.Op = 0 ∨ 4 ≤ p.Op → p.Args = []
  plain : p.Op < 5 → p.Field = [] ∧ p.Value = ⟨0, [], 0⟩
  key : p.Op < 4 → p.Key = []
  has : p.Op = 4 → nameB p.Key = true
  val : 5 ≤ p.Op → valE p.Value = 0 ∧ nameB p.Field = true
  attr : 5 ≤ p.Op → p.Field = w_attr → nameB p.Key = true
  nokey : 5 ≤ p.Op → p.Field ≠ w_attr → p.Key = []
  less : p.Op = 6 → p.Value.Kind ≠ 3
  pre : p.Op = 7 → p.Value.Kind = 1
theorem eqV_iff {a b : GValue} (h : eqV a b = true) : a = b := by
  cases a; cases b
  simp only [eqV, Bool.and_eq_true, beq_iff_eq, and_true] at h
  obtain ⟨rfl, rfl, rfl⟩ := h
  rfl
theorem nE2_ok {p : GPred} {ok : Bool} (h : nE2 p ok = 0) (ho : 0 ≤ p.Op ∧ p.Op ≤ 7) : ok = true ∧ (p.Op < 5 → p.Field = [] ∧ p.Value = ⟨0, [], 0⟩) ∧ (p.Op < 4 → p.Key = []) ∧ (p.Op = 4 → nameB p.Key = true) ∧
    (5 ≤ p.Op → valE p.Value = 0 ∧ nameB p.Field = true) ∧ (5 ≤ p.Op → p.Field = w_attr → nameB p.Key = true) ∧ (5 ≤ p.Op → p.Field ≠ w_attr → p.Key = []) ∧ (p.Op = 6 → p.Value.Kind ≠ 3) ∧ (p.Op = 7 → p.Value.Kind = 1) := by
  have hT : isT p = decide (5 ≤ p.Op) := by
    unfold isT
    rw [Bool.eq_iff_iff]
    simp
    omega
  have e4 : (p.Op == 4) = decide (p.Op = 4) := by rw [Bool.eq_iff_iff]; simp
  unfold nE2 nE6 nE7 nE5 at h
  split at h
  · cases h
  rename_i c1
  split at h
  · cases h
  rename_i c2
  simp only [Bool.or_eq_true, Bool.and_eq_true, Bool.not_eq_true', not_or, not_and, Bool.not_eq_false] at c1 c2
  obtain ⟨a1, a2, a3⟩ := c1
  refine ⟨a1, fun h5 => ?_, fun h4 => ?_, fun h4 => c2 (by simpa using h4), ?_⟩
  · have ht : isT p = false := by rw [hT]; simp; omega
    have := a2 ht
    exact ⟨by simpa using this.1, eqV_iff this.2⟩
  · have ht : isT p = false := by rw [hT]; simp; omega
    have := a3 ht (by simp; omega)
    simpa using this
  cases ht : isT p with
  | false =>
    have h5 : ¬ 5 ≤ p.Op := by rw [hT] at ht; simpa using ht
    exact ⟨fun h => absurd h h5, fun h => absurd h h5, fun h => absurd h h5, fun h => by omega, fun h => by omega⟩
  | true =>
    rw [ht] at h
    simp only [Bool.not_true, Bool.false_eq_true, if_false] at h
    split at h
    · cases h
    rename_i c3
    split at h
    · rename_i c4; rw [h] at c4; cases c4
    rename_i c4
    split at h
    · cases h
    rename_i c5
    simp only [Bool.or_eq_true, Bool.and_eq_true, Bool.not_eq_true', not_or, not_and, Bool.not_eq_false] at c3
    obtain ⟨b1, b2, b3⟩ := c3
    refine ⟨fun _ => ⟨by simpa using c4, b1⟩, fun _ hf => b2 (by simpa using hf), fun _ hf => ?_, fun h6 h3 => ?_, fun h7 => ?_⟩
    · have := b3 (by simpa using hf)
      simpa using this
    · apply c5; rw [h6, h3]; rfl
    · apply Classical.byContradiction
      intro hk
      apply c5
      rw [h7]
      simp [hk]
theorem nodeE_ok {p : GPred} (h : nodeE p = 0) : NodeOk p := by
  unfold nodeE at h
  split at h
  · rename_i hj
    have hj' : isJ p.Op = true := hj
    have ho : 0 ≤ p.Op ∧ p.Op ≤ 7 := by rcases isJ_eq hj' with h | h <;> omega
    obtain ⟨h1, h2, h3, h4, h5, h6, h7, h8, h9⟩ := nE2_ok h ho
    have hl := of_decide_eq_true h1
    exact ⟨ho, fun _ => by omega, fun h => (by rcases isJ_eq hj' with h' | h' <;> omega), fun h => (by rcases isJ_eq hj' with h' | h' <;> omega), h2, h3, h4, h5, h6, h7, h8, h9⟩
  rename_i hj
  have hj' : isJ p.Op = false := by simpa [isJ] using hj
  split at h
  · rename_i h3'
    have e3 : p.Op = 3 := by simpa using h3'
    have ho : 0 ≤ p.Op ∧ p.Op ≤ 7 := by omega
    obtain ⟨h1, h2, h3, h4, h5, h6, h7, h8, h9⟩ := nE2_ok h ho
    have hl : ((p.Args.length : Int)) = 1 := by simpa using h1
    exact ⟨ho, fun h => (by rw [hj'] at h; cases h), fun _ => by omega, fun h => by omega, h2, h3, h4, h5, h6, h7, h8, h9⟩
  · rename_i h3'
    split at h
    · rename_i hl
      have hc : p.Op = 0 ∨ p.Op = 4 ∨ p.Op = 5 ∨ p.Op = 6 ∨ p.Op = 7 := by simpa using hl
      have ho : 0 ≤ p.Op ∧ p.Op ≤ 7 := by omega
      obtain ⟨h1, h2, h3, h4, h5, h6, h7, h8, h9⟩ := nE2_ok h ho
      have hl : ((p.Args.length : Int)) = 0 := by simpa using h1
      exact ⟨ho, fun h => (by rw [hj'] at h; cases h), fun h => by omega, fun _ => List.eq_nil_of_length_eq_zero (by omega), h2, h3, h4, h5, h6, h7, h8, h9⟩
    · cases h
theorem allP_mono {f g : GPred → Prop} (h : ∀ p, f p → g p) : ∀ p, allP f p → allP g p := by
  refine GPred.byW fun p ih => ?_
  intro hp
  rw [allP_eq] at hp ⊢
  refine ⟨h p hp.1, ?_⟩
  have key : ∀ (l : List GPred), (∀ q ∈ l, q ∈ p.Args) → allL f l → allL g l := by
    intro l
    induction l with
    | nil => intro _ _; trivial
    | cons q l ihl => exact fun hm hl => ⟨ih q (wP_arg (hm q List.mem_cons_self)) hl.1, ihl (fun x hx => hm x (List.mem_cons_of_mem _ hx)) hl.2⟩
  exact key _ (fun q h => h) hp.2
theorem nameB_pos {s : Str} (h : nameB s = true) : 0 < s.length := by
  cases s with
  | nil => cases h
  | cons c r => simp
theorem okN_of {p : GPred} (h : NodeOk p) : okN p :=
  ⟨h.op, fun h3 => by rw [h.not h3]; exact Nat.le_refl _, fun h5 => ⟨(valE_ok (h.val h5).1).1, nameB_pos (h.val h5).2⟩, h.join⟩
theorem chkP_zero {p : GPred} (h : chkP p = 0) : chkA p = 0 ∧ anyP formB p = false ∧ anyP fieldB p = false := by
  unfold chkP at h
  split at h
  · rename_i h1; rw [h] at h1; cases h1
  · rename_i h1
    split at h
    · cases h
    · rename_i h2
      split at h
      · cases h
      · rename_i h3; exact ⟨by simpa using h1, by simpa using h2, by simpa using h3⟩
theorem chkP_node {p : GPred} (h : chkP p = 0) : allP NodeOk p := allP_mono (fun q hq => nodeE_ok hq) p (vis_ok p 1 0 (chkP_zero h).1)
theorem chkP_ok {p : GPred} (h : chkP p = 0) : allP okN p := allP_mono (fun q hq => okN_of hq) p (chkP_node h)
theorem loopA {σ α R : Type} (xs : List α) (F : Nat → σ → Int → Option R) (S : σ → List α → R) (Inv : σ → List α → Prop) (c : Nat)
    (hs : ∀ k (i : Nat) x s, c ≤ k → xs[i]? = some x → Inv s (x :: xs.drop (i + 1)) → (∀ s', Inv s' (xs.drop (i + 1)) → F k s' ((i + 1 : Nat) : Int) = some (S s' (xs.drop (i + 1)))) → F (k + 1) s (i : Int) = some (S s (x :: xs.drop (i + 1))))
    (he : ∀ k s, c ≤ k → Inv s [] → F (k + 1) s (xs.length : Int) = some (S s [])) :
    ∀ k s, c + xs.length + 1 ≤ k → Inv s xs → F k s 0 = some (S s xs) := by
  have key : ∀ (d i k : Nat) (s : σ), i + d = xs.length → c + d + 1 ≤ k → Inv s (xs.drop i) → F k s (i : Int) = some (S s (xs.drop i)) := by
    intro d
    induction d with
    | zero =>
      intro i k s hi hk hI
      obtain ⟨k, rfl⟩ : ∃ m, k = m + 1 := ⟨k - 1, by omega⟩
      have : i = xs.length := by omega
      subst this
      rw [List.drop_length] at hI ⊢
      exact he k s (by omega) hI
    | succ d ih =>
      intro i k s hi hk hI
      obtain ⟨k, rfl⟩ : ∃ m, k = m + 1 := ⟨k - 1, by omega⟩
      have h1 : i < xs.length := by omega
      rw [List.drop_eq_getElem_cons h1] at hI ⊢
      exact hs k i _ s (by omega) (List.getElem?_eq_getElem h1) hI fun s' hI' => ih (i + 1) k s' (by omega) (by omega) hI'
  intro k s hk hI
  have := key xs.length 0 k s (by omega) (by omega) (by simpa using hI)
  simpa using this
theorem loopS {α R : Type} (xs : List α) (F : Nat → Int → Option R) (S : List α → R) (c : Nat)
    (hs : ∀ k (i : Nat) x, c ≤ k → xs[i]? = some x → F k ((i + 1 : Nat) : Int) = some (S (xs.drop (i + 1))) → F (k + 1) (i : Int) = some (S (x :: xs.drop (i + 1))))
    (he : ∀ k, c ≤ k → F (k + 1) (xs.length : Int) = some (S [])) : ∀ k, c + xs.length + 1 ≤ k → F k 0 = some (S xs) :=
  fun k hk => loopA xs (fun k (_ : Unit) i => F k i) (fun _ l => S l) (fun _ _ => True) c (fun k i x _ hk hx _ ih => hs k i x hk hx (ih () trivial)) (fun k _ hk _ => he k hk) k () hk trivial
theorem get_lt {α : Type} {xs : List α} {i : Nat} {x : α} (h : xs[i]? = some x) : i < xs.length := (List.getElem?_eq_some_iff.1 h).1
theorem lt_get {α : Type} {xs : List α} {i : Nat} {x : α} (h : xs[i]? = some x) : decide ((i : Int) < (xs.length : Int)) = true := decide_eq_true (by have := get_lt h; omega)
theorem nlt_len (n : Nat) : decide ((n : Int) < (n : Int)) = false := by simp
theorem w64_get {α : Type} {xs : List α} {i : Nat} {x : α} (hl : xs.length ≤ 100000) (h : xs[i]? = some x) : w64 ((i : Int) + 1) = ((i + 1 : Nat) : Int) := w64_succ (by have := get_lt h; omega)
theorem zip_get {α : Type} {a b : List α} {i : Nat} {p : α × α} (h : (a.zip b)[i]? = some p) : a[i]? = some p.1 ∧ b[i]? = some p.2 := by
  rw [List.getElem?_zip_eq_some] at h
  exact h
theorem mem_get {α : Type} {xs : List α} {i : Nat} {x : α} (h : xs[i]? = some x) : x ∈ xs := List.mem_of_getElem? h
def colL (c : GColumn) : Prop := c.Var.length ≤ 300 ∧ c.Field.length ≤ 300 ∧ c.Key.length ≤ 300
structure Bnd (q : GQuery) : Prop where
  v : q.Variables.length ≤ 300
  r : q.Relations.length ≤ 300
  a : q.Absences.length ≤ 300
  g : q.Group.length ≤ 300
  c : q.Compute.length ≤ 300
  o : q.Order.length ≤ 300
  vs : ∀ x ∈ q.Variables, x.Name.length ≤ 300 ∧ wP x.Where ≤ 1000
  rs : ∀ x ∈ q.Relations, x.A.length ≤ 300 ∧ x.B.length ≤ 300
  ab : ∀ x ∈ q.Absences, x.Variable.Name.length ≤ 300 ∧ wP x.Variable.Where ≤ 1000 ∧ x.Other.length ≤ 300
  gs : ∀ x ∈ q.Group, colL x
  cs : ∀ x ∈ q.Compute, colL x.Column
def eqZ {α : Type} (f : α → α → Bool) (a b : List α) : Bool := a.length == b.length && (a.zip b).all fun p => f p.1 p.2
def eqVar (x y : GVariable) : Bool := x.Name == y.Name && eqP x.Where y.Where
def eqRel (x y : GRelation) : Bool := (x.Kind == y.Kind) && ((x.A == y.A) && ((x.B == y.B) && true))
def eqAbs (x y : GAbsence) : Bool := eqVar x.Variable y.Variable && (x.Kind == y.Kind && (x.Other == y.Other && x.First == y.First))
def eqCol (x y : GColumn) : Bool := (x.Var == y.Var) && ((x.Field == y.Field) && ((x.Key == y.Key) && true))
def eqAgg (x y : GAggregate) : Bool := (x.Kind == y.Kind) && (((x.Column.Var == y.Column.Var) && ((x.Column.Field == y.Column.Field) && ((x.Column.Key == y.Column.Key) && true))) && (((x.Q.Num == y.Q.Num) && ((x.Q.Den == y.Q.Den) && true)) && true))
def eqOrd (x y : GOrderKey) : Bool := (x.Index == y.Index) && ((x.Descending == y.Descending) && true)
def eqInt (x y : GInterval) : Bool := (x.From == y.From) && ((x.To == y.To) && true)
def eqQ (a b : GQuery) : Bool := eqZ eqVar a.Variables b.Variables && (eqZ eqRel a.Relations b.Relations && (eqZ eqAbs a.Absences b.Absences && (eqInt a.Slots b.Slots && (eqZ eqCol a.Group b.Group && (eqZ eqAgg a.Compute b.Compute && (eqZ eqOrd a.Order b.Order && a.Limit == b.Limit))))))
theorem eqZ_refl {α : Type} {f : α → α → Bool} (h : ∀ x, f x x = true) (a : List α) : eqZ f a a = true := by
  unfold eqZ
  rw [beq_self_eq_true, Bool.true_and]
  induction a with
  | nil => rfl
  | cons x a ih => rw [List.zip_cons_cons, List.all_cons, h, ih]; rfl
theorem eqQ_refl (a : GQuery) : eqQ a a = true := by
  have v : ∀ x, eqVar x x = true := fun x => by simp [eqVar, eqP_refl]
  unfold eqQ
  rw [eqZ_refl v, eqZ_refl (f := eqRel) (fun x => by simp [eqRel]), eqZ_refl (f := eqAbs) (fun x => by simp [eqAbs, v]), eqZ_refl (f := eqCol) (fun x => by simp [eqCol]), eqZ_refl (f := eqAgg) (fun x => by simp [eqAgg]), eqZ_refl (f := eqOrd) (fun x => by simp [eqOrd])]
  simp [eqInt]
theorem eqZ_len {α : Type} {f : α → α → Bool} {a b : List α} (h : a.length = b.length) : eqZ f a b = (a.zip b).all fun p => f p.1 p.2 := by
  unfold eqZ
  rw [h, beq_self_eq_true, Bool.true_and]
theorem eqZ_nlen {α : Type} {f : α → α → Bool} {a b : List α} (h : a.length ≠ b.length) : eqZ f a b = false := by
  unfold eqZ
  rw [beq_eq_false_iff_ne.2 h, Bool.false_and]
theorem eqZ_of {α : Type} {f : α → α → Bool} {a b : List α} {X : Option Bool} (h : a.length = b.length → X = some ((a.zip b).all fun p => f p.1 p.2)) :
    (if ((a.length : Int) != (b.length : Int)) = true then some false else X) = some (eqZ f a b) := by
  rw [bne_ofNat]
  by_cases hl : a.length = b.length
  · rw [h hl, eqZ_len hl, hl]; simp
  · rw [eqZ_nlen hl, beq_eq_false_iff_ne.2 hl]; rfl
theorem zip_len {α : Type} {a b : List α} (h : a.length = b.length) : (a.zip b).length = a.length := by rw [List.length_zip, h, Nat.min_self]
theorem eqRel_eq {a b : List GRelation} {k : Nat} (hl : a.length ≤ 300) (hk : 310 ≤ k) : slices_Equal_api_Relation k a b = some (eqZ eqRel a b) := by
  unfold slices_Equal_api_Relation
  refine eqZ_of fun h => loopS (a.zip b) (slices_Equal_api_Relation_l1 · a b) (fun l => l.all fun p => eqRel p.1 p.2) 0 (fun k i x _ hx ih => ?_) (fun k _ => ?_) k (by rw [zip_len h]; omega)
  · obtain ⟨h1, h2⟩ := zip_get hx
    simp only [slices_Equal_api_Relation_l1, lt_get h1, if_true, dec_nonneg, chk_true, toNat_cast, h1, h2, Option.bind_some, w64_get (by omega) h1, ih, List.all_cons]
    show (if (!(eqRel x.1 x.2)) = true then some false else _) = _
    cases eqRel x.1 x.2 <;> rfl
  · rw [zip_len h, slices_Equal_api_Relation_l1, nlt_len]; rfl
theorem eqCol_eq {a b : List GColumn} {k : Nat} (hl : a.length ≤ 300) (hk : 310 ≤ k) : slices_Equal_api_Column k a b = some (eqZ eqCol a b) := by
  unfold slices_Equal_api_Column
  refine eqZ_of fun h => loopS (a.zip b) (slices_Equal_api_Column_l1 · a b) (fun l => l.all fun p => eqCol p.1 p.2) 0 (fun k i x _ hx ih => ?_) (fun k _ => ?_) k (by rw [zip_len h]; omega)
  · obtain ⟨h1, h2⟩ := zip_get hx
    simp only [slices_Equal_api_Column_l1, lt_get h1, if_true, dec_nonneg, chk_true, toNat_cast, h1, h2, Option.bind_some, w64_get (by omega) h1, ih, List.all_cons]
    show (if (!(eqCol x.1 x.2)) = true then some false else _) = _
    cases eqCol x.1 x.2 <;> rfl
  · rw [zip_len h, slices_Equal_api_Column_l1, nlt_len]; rfl
theorem eqAgg_eq {a b : List GAggregate} {k : Nat} (hl : a.length ≤ 300) (hk : 310 ≤ k) : slices_Equal_api_Aggregate k a b = some (eqZ eqAgg a b) := by
  unfold slices_Equal_api_Aggregate
  refine eqZ_of fun h => loopS (a.zip b) (slices_Equal_api_Aggregate_l1 · a b) (fun l => l.all fun p => eqAgg p.1 p.2) 0 (fun k i x _ hx ih => ?_) (fun k _ => ?_) k (by rw [zip_len h]; omega)
  · obtain ⟨h1, h2⟩ := zip_get hx
    simp only [slices_Equal_api_Aggregate_l1, lt_get h1, if_true, dec_nonneg, chk_true, toNat_cast, h1, h2, Option.bind_some, w64_get (by omega) h1, ih, List.all_cons]
    show (if (!(eqAgg x.1 x.2)) = true then some false else _) = _
    cases eqAgg x.1 x.2 <;> rfl
  · rw [zip_len h, slices_Equal_api_Aggregate_l1, nlt_len]; rfl
theorem eqOrd_eq {a b : List GOrderKey} {k : Nat} (hl : a.length ≤ 300) (hk : 310 ≤ k) : slices_Equal_api_OrderKey k a b = some (eqZ eqOrd a b) := by
  unfold slices_Equal_api_OrderKey
  refine eqZ_of fun h => loopS (a.zip b) (slices_Equal_api_OrderKey_l1 · a b) (fun l => l.all fun p => eqOrd p.1 p.2) 0 (fun k i x _ hx ih => ?_) (fun k _ => ?_) k (by rw [zip_len h]; omega)
  · obtain ⟨h1, h2⟩ := zip_get hx
    simp only [slices_Equal_api_OrderKey_l1, lt_get h1, if_true, dec_nonneg, chk_true, toNat_cast, h1, h2, Option.bind_some, w64_get (by omega) h1, ih, List.all_cons]
    show (if (!(eqOrd x.1 x.2)) = true then some false else _) = _
    cases eqOrd x.1 x.2 <;> rfl
  · rw [zip_len h, slices_Equal_api_OrderKey_l1, nlt_len]; rfl
theorem equalVariables_eq {x y : GVariable} {k : Nat} (hw : wP x.Where ≤ 1000) (hk : 4000 ≤ k) : syntax_equalVariables k x y = some (eqVar x y) := by
  unfold syntax_equalVariables eqVar
  rw [EqualPred_eq _ _ _ (by omega) (by omega), Option.bind_some]
  cases (x.Name == y.Name) <;> rfl
theorem eqVar_eq {a b : List GVariable} {k : Nat} (hl : a.length ≤ 300) (hw : ∀ x ∈ a, wP x.Where ≤ 1000) (hk : 4310 ≤ k) : slices_EqualFunc_api_Variable k a b = some (eqZ eqVar a b) := by
  unfold slices_EqualFunc_api_Variable
  refine eqZ_of fun h => loopS (a.zip b) (slices_EqualFunc_api_Variable_l1 · a b) (fun l => l.all fun p => eqVar p.1 p.2) 4000 (fun k i x hk hx ih => ?_) (fun k _ => ?_) k (by rw [zip_len h]; omega)
  · obtain ⟨h1, h2⟩ := zip_get hx
    simp only [slices_EqualFunc_api_Variable_l1, lt_get h1, if_true, dec_nonneg, chk_true, toNat_cast, h1, h2, Option.bind_some, w64_get (by omega) h1, ih, List.all_cons, equalVariables_eq (y := x.2) (hw _ (mem_get h1)) hk]
    cases eqVar x.1 x.2 <;> rfl
  · rw [zip_len h, slices_EqualFunc_api_Variable_l1, nlt_len]; rfl
theorem Equal_c1_eq {x y : GAbsence} {k : Nat} (hw : wP x.Variable.Where ≤ 1000) (hk : 4000 ≤ k) : syntax_Equal_c1 k x y = some (eqAbs x y) := by
  unfold syntax_Equal_c1 eqAbs
  rw [equalVariables_eq hw hk, Option.bind_some]
  cases eqVar x.Variable y.Variable <;> cases (x.Kind == y.Kind) <;> cases (x.Other == y.Other) <;> rfl
theorem eqAbs_eq {a b : List GAbsence} {k : Nat} (hl : a.length ≤ 300) (hw : ∀ x ∈ a, wP x.Variable.Where ≤ 1000) (hk : 4310 ≤ k) : slices_EqualFunc_api_Absence k a b = some (eqZ eqAbs a b) := by
  unfold slices_EqualFunc_api_Absence
  refine eqZ_of fun h => loopS (a.zip b) (slices_EqualFunc_api_Absence_l1 · a b) (fun l => l.all fun p => eqAbs p.1 p.2) 4000 (fun k i x hk hx ih => ?_) (fun k _ => ?_) k (by rw [zip_len h]; omega)
  · obtain ⟨h1, h2⟩ := zip_get hx
    simp only [slices_EqualFunc_api_Absence_l1, lt_get h1, if_true, dec_nonneg, chk_true, toNat_cast, h1, h2, Option.bind_some, w64_get (by omega) h1, ih, List.all_cons, Equal_c1_eq (y := x.2) (hw _ (mem_get h1)) hk]
    cases eqAbs x.1 x.2 <;> rfl
  · rw [zip_len h, slices_EqualFunc_api_Absence_l1, nlt_len]; rfl
theorem Equal_eq {a b : GQuery} {k : Nat} (hb : Bnd a) (hk : 4310 ≤ k) : syntax_Equal k a b = some (eqQ a b) := by
  have hi : ((a.Slots.From == b.Slots.From) && ((a.Slots.To == b.Slots.To) && true)) = eqInt a.Slots b.Slots := rfl
  unfold syntax_Equal eqQ
  rw [eqVar_eq hb.v (fun x hx => (hb.vs x hx).2) hk, eqRel_eq hb.r (by omega), eqAbs_eq hb.a (fun x hx => (hb.ab x hx).2.1) hk, eqCol_eq hb.g (by omega), eqAgg_eq hb.c (by omega), eqOrd_eq hb.o (by omega), hi]
  simp only [Option.bind_some]
  cases eqZ eqVar a.Variables b.Variables <;> cases eqZ eqRel a.Relations b.Relations <;> cases eqZ eqAbs a.Absences b.Absences <;> cases eqInt a.Slots b.Slots <;> cases eqZ eqCol a.Group b.Group <;> cases eqZ eqAgg a.Compute b.Compute <;> cases eqZ eqOrd a.Order b.Order <;> rfl
def alZ {α : Type} (f : α → α → Bool) (a b : List α) : Bool := (a.zip b).all fun p => f p.1 p.2
section
variable {a b : GQuery} (hb : Bnd a)
include hb
theorem same7 (h : a.Order.length = b.Order.length) {k : Nat} (hk : 310 ≤ k) : l36_same_l7 k a b 0 = some (alZ eqOrd a.Order b.Order) := by
  have hl := hb.o
  refine loopS (a.Order.zip b.Order) (l36_same_l7 · a b) (fun l => l.all fun p => eqOrd p.1 p.2) 0 (fun k i x _ hx ih => ?_) (fun k _ => ?_) k (by rw [zip_len h]; omega)
  · obtain ⟨h1, h2⟩ := zip_get hx
    simp only [l36_same_l7, lt_get h1, if_true, dec_nonneg, chk_true, toNat_cast, h1, h2, Option.bind_some, w64_get (by omega) h1, ih, List.all_cons]
    show (if (!(eqOrd x.1 x.2)) = true then some false else _) = _
    cases eqOrd x.1 x.2 <;> rfl
  · rw [zip_len h, l36_same_l7, nlt_len]; rfl
theorem same6 (h6 : a.Compute.length = b.Compute.length) (h7 : a.Order.length = b.Order.length) {k : Nat} (hk : 620 ≤ k) : l36_same_l6 k a b 0 = some (alZ eqAgg a.Compute b.Compute && alZ eqOrd a.Order b.Order) := by
  have hl := hb.c
  refine loopS (a.Compute.zip b.Compute) (l36_same_l6 · a b) (fun l => (l.all fun p => eqAgg p.1 p.2) && alZ eqOrd a.Order b.Order) 310 (fun k i x _ hx ih => ?_) (fun k hk => ?_) k (by rw [zip_len h6]; omega)
  · obtain ⟨h1, h2⟩ := zip_get hx
    simp only [l36_same_l6, lt_get h1, if_true, dec_nonneg, chk_true, toNat_cast, h1, h2, Option.bind_some, w64_get (by omega) h1, ih, List.all_cons]
    show (if (!(eqAgg x.1 x.2)) = true then some false else _) = _
    cases eqAgg x.1 x.2 <;> rfl
  · rw [zip_len h6, l36_same_l6, nlt_len, same7 hb h7 hk]; rfl
theorem same5 (h5 : a.Group.length = b.Group.length) (h6 : a.Compute.length = b.Compute.length) (h7 : a.Order.length = b.Order.length) {k : Nat} (hk : 930 ≤ k) :
    l36_same_l5 k a b 0 = some (alZ eqCol a.Group b.Group && (alZ eqAgg a.Compute b.Compute && alZ eqOrd a.Order b.Order)) := by
  have hl := hb.g
  refine loopS (a.Group.zip b.Group) (l36_same_l5 · a b) (fun l => (l.all fun p => eqCol p.1 p.2) && (alZ eqAgg a.Compute b.Compute && alZ eqOrd a.Order b.Order)) 620 (fun k i x _ hx ih => ?_) (fun k hk => ?_) k (by rw [zip_len h5]; omega)
  · obtain ⟨h1, h2⟩ := zip_get hx
    simp only [l36_same_l5, lt_get h1, if_true, dec_nonneg, chk_true, toNat_cast, h1, h2, Option.bind_some, w64_get (by omega) h1, ih, List.all_cons]
    show (if (!(eqCol x.1 x.2)) = true then some false else _) = _
    cases eqCol x.1 x.2 <;> rfl
  · rw [zip_len h5, l36_same_l5, nlt_len, same6 hb h6 h7 hk]; rfl
theorem same4 (h4 : a.Absences.length = b.Absences.length) (h5 : a.Group.length = b.Group.length) (h6 : a.Compute.length = b.Compute.length) (h7 : a.Order.length = b.Order.length) {k : Nat} (hk : 5000 ≤ k) :
    l36_same_l4 k a b 0 = some (alZ eqAbs a.Absences b.Absences && (alZ eqCol a.Group b.Group && (alZ eqAgg a.Compute b.Compute && alZ eqOrd a.Order b.Order))) := by
  have hl := hb.a
  refine loopS (a.Absences.zip b.Absences) (l36_same_l4 · a b) (fun l => (l.all fun p => eqAbs p.1 p.2) && (alZ eqCol a.Group b.Group && (alZ eqAgg a.Compute b.Compute && alZ eqOrd a.Order b.Order))) 4000 (fun k i x hk hx ih => ?_) (fun k hk => ?_) k (by rw [zip_len h4]; omega)
  · obtain ⟨h1, h2⟩ := zip_get hx
    have hw := (hb.ab _ (mem_get h1)).2.1
    have e : (x.1.Kind != x.2.Kind) = !(x.1.Kind == x.2.Kind) := rfl
    simp only [l36_same_l4, lt_get h1, if_true, dec_nonneg, chk_true, toNat_cast, h1, h2, Option.bind_some, w64_get (by omega) h1, ih, List.all_cons, samePred_eq x.1.Variable.Where x.2.Variable.Where k (by omega) (by omega), e, eqAbs, eqVar]
    cases (x.1.Variable.Name == x.2.Variable.Name) <;> cases eqP x.1.Variable.Where x.2.Variable.Where <;> cases (x.1.Kind == x.2.Kind) <;> cases (x.1.Other == x.2.Other) <;> cases (x.1.First == x.2.First) <;> rfl
  · rw [zip_len h4, l36_same_l4, nlt_len, same5 hb h5 h6 h7 (by omega)]; rfl
theorem same3 (h3 : a.Relations.length = b.Relations.length) (h4 : a.Absences.length = b.Absences.length) (h5 : a.Group.length = b.Group.length) (h6 : a.Compute.length = b.Compute.length) (h7 : a.Order.length = b.Order.length) {k : Nat} (hk : 5400 ≤ k) :
    l36_same_l3 k a b 0 = some (alZ eqRel a.Relations b.Relations && (alZ eqAbs a.Absences b.Absences && (alZ eqCol a.Group b.Group && (alZ eqAgg a.Compute b.Compute && alZ eqOrd a.Order b.Order)))) := by
  have hl := hb.r
  refine loopS (a.Relations.zip b.Relations) (l36_same_l3 · a b) (fun l => (l.all fun p => eqRel p.1 p.2) && (alZ eqAbs a.Absences b.Absences && (alZ eqCol a.Group b.Group && (alZ eqAgg a.Compute b.Compute && alZ eqOrd a.Order b.Order)))) 5000 (fun k i x hk hx ih => ?_) (fun k hk => ?_) k (by rw [zip_len h3]; omega)
  · obtain ⟨h1, h2⟩ := zip_get hx
    simp only [l36_same_l3, lt_get h1, if_true, dec_nonneg, chk_true, toNat_cast, h1, h2, Option.bind_some, w64_get (by omega) h1, ih, List.all_cons]
    show (if (!(eqRel x.1 x.2)) = true then some false else _) = _
    cases eqRel x.1 x.2 <;> rfl
  · rw [zip_len h3, l36_same_l3, nlt_len, same4 hb h4 h5 h6 h7 (by omega)]; rfl
theorem same2 (h2 : a.Variables.length = b.Variables.length) (h3 : a.Relations.length = b.Relations.length) (h4 : a.Absences.length = b.Absences.length) (h5 : a.Group.length = b.Group.length) (h6 : a.Compute.length = b.Compute.length) (h7 : a.Order.length = b.Order.length) {k : Nat} (hk : 5800 ≤ k) :
    l36_same_l2 k a b 0 = some (alZ eqVar a.Variables b.Variables && (alZ eqRel a.Relations b.Relations && (alZ eqAbs a.Absences b.Absences && (alZ eqCol a.Group b.Group && (alZ eqAgg a.Compute b.Compute && alZ eqOrd a.Order b.Order))))) := by
  have hl := hb.v
  refine loopS (a.Variables.zip b.Variables) (l36_same_l2 · a b) (fun l => (l.all fun p => eqVar p.1 p.2) && (alZ eqRel a.Relations b.Relations && (alZ eqAbs a.Absences b.Absences && (alZ eqCol a.Group b.Group && (alZ eqAgg a.Compute b.Compute && alZ eqOrd a.Order b.Order))))) 5400 (fun k i x hk hx ih => ?_) (fun k hk => ?_) k (by rw [zip_len h2]; omega)
  · obtain ⟨h1, h2⟩ := zip_get hx
    have hw := (hb.vs _ (mem_get h1)).2
    simp only [l36_same_l2, lt_get h1, if_true, dec_nonneg, chk_true, toNat_cast, h1, h2, Option.bind_some, w64_get (by omega) h1, ih, List.all_cons, samePred_eq x.1.Where x.2.Where k (by omega) (by omega), eqVar]
    cases (x.1.Name == x.2.Name) <;> cases eqP x.1.Where x.2.Where <;> rfl
  · rw [zip_len h2, l36_same_l2, nlt_len, same3 hb h3 h4 h5 h6 h7 (by omega)]; rfl
theorem same_eq {k : Nat} (hk : 5800 ≤ k) : l36_same k a b = some (eqQ a b) := by
  have hi : ((a.Slots.From == b.Slots.From) && ((a.Slots.To == b.Slots.To) && true)) = eqInt a.Slots b.Slots := rfl
  have hm : (a.Limit != b.Limit) = !(a.Limit == b.Limit) := rfl
  unfold l36_same l36_same_j1 eqQ
  simp only [bne_ofNat, hi, hm]
  by_cases h1 : a.Variables.length = b.Variables.length
  case neg => rw [eqZ_nlen h1, beq_eq_false_iff_ne.2 h1]; rfl
  by_cases h2 : a.Relations.length = b.Relations.length
  case neg => rw [eqZ_nlen h2, beq_eq_false_iff_ne.2 h2]; cases (a.Variables.length == b.Variables.length) <;> simp
  by_cases h3 : a.Absences.length = b.Absences.length
  case neg => rw [eqZ_nlen h3, beq_eq_false_iff_ne.2 h3]; cases (a.Variables.length == b.Variables.length) <;> cases (a.Relations.length == b.Relations.length) <;> simp
  by_cases h5 : a.Group.length = b.Group.length
  case neg => rw [eqZ_nlen h5, beq_eq_false_iff_ne.2 h5, h1, h2, h3]; cases eqInt a.Slots b.Slots <;> simp
  by_cases h6 : a.Compute.length = b.Compute.length
  case neg => rw [eqZ_nlen h6, beq_eq_false_iff_ne.2 h6, h1, h2, h3, h5]; cases eqInt a.Slots b.Slots <;> simp
  by_cases h7 : a.Order.length = b.Order.length
  case neg => rw [eqZ_nlen h7, beq_eq_false_iff_ne.2 h7, h1, h2, h3, h5, h6]; cases eqInt a.Slots b.Slots <;> simp
  rw [same2 hb h1 h2 h3 h5 h6 h7 hk, eqZ_len h1, eqZ_len h2, eqZ_len h3, eqZ_len h5, eqZ_len h6, eqZ_len h7, h1, h2, h3, h5, h6, h7]
  simp only [beq_self_eq_true, Bool.not_true, Bool.false_eq_true, if_false]
  unfold alZ
  cases ((a.Variables.zip b.Variables).all fun p => eqVar p.1 p.2) <;> cases ((a.Relations.zip b.Relations).all fun p => eqRel p.1 p.2) <;> cases ((a.Absences.zip b.Absences).all fun p => eqAbs p.1 p.2) <;> cases eqInt a.Slots b.Slots <;>
    cases ((a.Group.zip b.Group).all fun p => eqCol p.1 p.2) <;> cases ((a.Compute.zip b.Compute).all fun p => eqAgg p.1 p.2) <;> cases ((a.Order.zip b.Order).all fun p => eqOrd p.1 p.2) <;> cases (a.Limit == b.Limit) <;> rfl
end
end Go.Proofs.YtfnaahkgegfbnaaGreatDoor
set_option maxRecDepth 10000
namespace Go.Proofs.YtfnaahkgegfbnaaGreatDoor
theorem known_true : l36_known 100000 = some true := by kernel_rfl
end Go.Proofs.YtfnaahkgegfbnaaGreatDoor
set_option maxRecDepth 10000
namespace Go.Proofs.YtfnaahkgegfbnaaGreatDoor
def smB : Nat → GPred → Bool
  | 0, _ => false
  | n + 1, p => decide (p.Args.length ≤ 4) && (decide (p.Field.length + p.Key.length + p.Value.Text.length ≤ 80) && p.Args.all (smB n))
theorem all_drop {α : Type} {f : α → Bool} {l : List α} {i : Nat} (h : i < l.length) : (l.drop i).all f = (f l[i] && (l.drop (i + 1)).all f) := by rw [List.drop_eq_getElem_cons h]; rfl
theorem small_eq : ∀ (n : Nat) (p : GPred) (k : Nat), n ≤ 100 → okGPred p → 10 * n + 10 ≤ k → l36_smallPred k p (n : Int) = some (smB n p)
  | 0, p, k, _, _, hk => by
    obtain ⟨k, rfl⟩ : ∃ m, k = m + 2 := ⟨k - 2, by omega⟩
    rw [l36_smallPred, if_pos (by rfl), l36_smallPred_j1, if_pos rfl]; rfl
  | n + 1, p, k, hn, hp, hk => by
    obtain ⟨k, rfl⟩ : ∃ m, k = m + 2 := ⟨k - 2, by omega⟩
    cases hp with
    | mk _ h0 h1 h2 h3 h4 h5 =>
    have l1 : p.Field.length ≤ 140737488351232 := h1
    have l2 : p.Key.length ≤ 140737488351232 := h2
    have l3 : p.Value.Text.length ≤ 140737488351232 := h3.2.1
    have e0 : (((n + 1 : Nat) : Int) == 0) = false := by simp; omega
    have e1 : w64 ((p.Field.length : Int) + (p.Key.length : Int)) = ((p.Field.length + p.Key.length : Nat) : Int) := by rw [w64_id (by omega) (by omega)]; omega
    have e2 : w64 (((p.Field.length + p.Key.length : Nat) : Int) + (p.Value.Text.length : Int)) = ((p.Field.length + p.Key.length + p.Value.Text.length : Nat) : Int) := by rw [w64_id (by omega) (by omega)]; omega
    have e3 : decide (((p.Args.length : Nat) : Int) > 4) = !decide (p.Args.length ≤ 4) := by rw [Bool.eq_iff_iff]; simp; omega
    have e4 : decide (((p.Field.length + p.Key.length + p.Value.Text.length : Nat) : Int) > 80) = !decide (p.Field.length + p.Key.length + p.Value.Text.length ≤ 80) := by rw [Bool.eq_iff_iff]; simp; omega
    have loop : p.Args.length ≤ 4 → ∀ (d i k : Nat), i + d = p.Args.length → 10 * n + 10 + d + 1 ≤ k → l36_smallPred_l2 k p ((n + 1 : Nat) : Int) (i : Int) = some ((p.Args.drop i).all (smB n)) := by
      intro hl d
      induction d with
      | zero =>
        intro i k hi hk
        obtain ⟨k, rfl⟩ : ∃ m, k = m + 1 := ⟨k - 1, by omega⟩
        rw [l36_smallPred_l2, if_neg (by simp; omega), List.drop_eq_nil_of_le (by omega)]; rfl
      | succ d ihd =>
        intro i k hi hk
        obtain ⟨k, rfl⟩ : ∃ m, k = m + 1 := ⟨k - 1, by omega⟩
        have h1 : i < p.Args.length := by omega
        have ew : w64 (((n + 1 : Nat) : Int) - 1) = ((n : Nat) : Int) := by rw [w64_id (by omega) (by omega)]; omega
        rw [l36_smallPred_l2, if_pos (by simp; omega), chk_pos (dec_nonneg i), toNat_cast, List.getElem?_eq_getElem h1, Option.bind_some, ew, small_eq n _ k (by omega) (h5 _ (List.getElem_mem h1)) (by omega), Option.bind_some, w64_succ (by omega), ihd (i + 1) k (by omega) (by omega), all_drop h1]
        cases smB n p.Args[i] <;> simp
    rw [l36_smallPred, e0, e1, e2, e3, e4, l36_smallPred_j1, l36_smallPred_j1]
    unfold smB
    by_cases hl : p.Args.length ≤ 4
    · have hlp := loop hl p.Args.length 0 k (by omega) (by omega)
      have hlp' : l36_smallPred_l2 k p ((n + 1 : Nat) : Int) 0 = some (p.Args.all (smB n)) := by simpa using hlp
      rw [hlp', decide_eq_true hl]
      cases decide (p.Field.length + p.Key.length + p.Value.Text.length ≤ 80) <;> simp
    · rw [decide_eq_false hl]
      simp
theorem smB_w1 {p : GPred} (h : smB 1 p = true) : wP p ≤ 81 := by
  unfold smB at h
  rw [Bool.and_eq_true, Bool.and_eq_true] at h
  have h1 := of_decide_eq_true h.2.1
  have h2 : p.Args = [] := by
    cases ha : p.Args with
    | nil => rfl
    | cons q l => rw [ha] at h; exact absurd h.2.2 (by simp [smB])
  rw [wP_eq, h2]
  simp only [wL]
  omega
theorem okI64 {a : Int} (h : okI .i64 a) : -9223372036854775808 ≤ a ∧ a ≤ 9223372036854775807 := by
  unfold okI Lit.wf at h
  simp only [Bool.and_eq_true, decide_eq_true_eq] at h
  exact h
theorem wrap_zero {n : Int} (h0 : 0 ≤ n) (h1 : n < 18446744073709551616) : IntKind.i64.wrap n = 0 ↔ n = 0 := by
  have e : IntKind.i64.wrap n = if n ≥ 9223372036854775808 then n - 18446744073709551616 else n := by
    have hm : n % 18446744073709551616 = n := Int.emod_eq_of_lt h0 h1
    show (if (true && decide (n % 18446744073709551616 ≥ 9223372036854775808)) = true then n % 18446744073709551616 - 18446744073709551616 else n % 18446744073709551616) = _
    rw [hm]; simp
  rw [e]; split <;> omega
theorem ofInt_zero {a : Int} (h : okI .i64 a) : BitVec.ofInt 64 a = 0#64 ↔ a = 0 := by
  obtain ⟨h0, h1⟩ := okI64 h
  constructor
  · intro e
    have := congrArg BitVec.toInt e
    rw [BitVec.toInt_ofInt] at this
    simp [Int.bmod] at this
    omega
  · rintro rfl; rfl
theorem orI_zero {a b : Int} (ha : okI .i64 a) (hb : okI .i64 b) : (orI .i64 a b == 0) = ((a == 0) && ((b == 0) && true)) := by
  have h : orI .i64 a b = 0 ↔ a = 0 ∧ b = 0 := by
    unfold orI
    have hlt := ((BitVec.ofInt 64 a) ||| (BitVec.ofInt 64 b)).isLt
    rw [wrap_zero (by omega) (by
      show (((BitVec.ofInt 64 a ||| BitVec.ofInt 64 b).toNat : Nat) : Int) < _
      omega), ← ofInt_zero ha, ← ofInt_zero hb, ← BitVec.or_eq_zero_iff]
    show (((BitVec.ofInt 64 a ||| BitVec.ofInt 64 b).toNat : Nat) : Int) = 0 ↔ _
    constructor
    · intro h; exact BitVec.eq_of_toNat_eq (by simp; simpa using h)
    · intro h; rw [h]; rfl
  rw [Bool.eq_iff_iff]
  simp [h]
def colB (c : GColumn) : Bool := varB c.Var && (if (c.Field == w_attr) = true then nameB c.Key else fldB c.Field && c.Key == w_0)
theorem isColumn_eq {c : GColumn} {k : Nat} (h : colL c) (hk : 400 ≤ k) : syntax_isColumn k c = some (colB c) := by
  obtain ⟨h1, h2, h3⟩ := h
  unfold syntax_isColumn colB
  rw [IsVariable_eq (by omega) (by omega), IsField_eq (by omega) (by omega), IsName_eq (by omega) (by omega)]
  simp only [Option.bind_some]
  cases varB c.Var <;> cases (c.Field == w_attr) <;> cases fldB c.Field <;> simp
theorem fldB_attr {s : Str} (h : fldB s = true) : (s == w_attr) = false := by
  cases hs : (s == w_attr) with
  | false => rfl
  | true =>
    rw [eq_of_beq hs] at h
    exact absurd h (by decide)
theorem checkColumn_eq {c : GColumn} {k : Nat} (h : colL c) (hk : 400 ≤ k) : l36_checkColumn k c = some (if colB c = true then 0 else 11) := by
  obtain ⟨h1, h2, h3⟩ := h
  unfold l36_checkColumn colB
  rw [lvariable_eq (by omega) (by omega) (by omega), lfield_eq (by omega) (by omega) (by omega), IsName_eq (by omega) (by omega)]
  simp only [Option.bind_some]
  cases hf : fldB c.Field with
  | true =>
    rw [fldB_attr hf]
    cases varB c.Var <;> cases (c.Key == w_0) <;> simp
  | false => cases varB c.Var <;> cases (c.Field == w_attr) <;> cases nameB c.Key <;> simp
def zCol (c : GColumn) : Bool := (c.Var == w_0) && ((c.Field == w_0) && ((c.Key == w_0) && true))
def zQ (q : GFraction) : Bool := (q.Num == 0) && ((q.Den == 0) && true)
def aggE3 (a : GAggregate) : Int := if (a.Kind == 7) = true then (if decide (a.Q.Num < 0) = true then 2 else if decide (a.Q.Num > 1048576) = true then 2 else if decide (a.Q.Den < 1) = true then 2 else if decide (a.Q.Den > 1048576) = true then 2 else 0) else 0
def aggE (a : GAggregate) : Int :=
  if (decide (a.Kind < 1) || decide (a.Kind > 8)) = true then 12 else if ((decide (a.Kind ≤ 3) && !zCol a.Column) || (!(a.Kind == 7) && !zQ a.Q)) = true then 3 else if (!decide (a.Kind ≤ 3) && !colB a.Column) = true then 11 else aggE3 a
theorem aggE3_eq (a : GAggregate) : l36_checkAggregate_j3 a = some (aggE3 a) := by
  unfold l36_checkAggregate_j3 aggE3
  cases (a.Kind == 7) <;> cases decide (a.Q.Num < 0) <;> cases decide (a.Q.Num > 1048576) <;> cases decide (a.Q.Den < 1) <;> cases decide (a.Q.Den > 1048576) <;> rfl
theorem saggE3_eq (a : GAggregate) (x : Bool) : syntax_checkAggregate_j3 a x = some (if x = true then 11 else aggE3 a) := by
  unfold syntax_checkAggregate_j3 aggE3
  cases x <;> cases (a.Kind == 7) <;> cases decide (a.Q.Num < 0) <;> cases decide (a.Q.Num > 1048576) <;> cases decide (a.Q.Den < 1) <;> cases decide (a.Q.Den > 1048576) <;> rfl
theorem scheckAggregate_eq {a : GAggregate} {k : Nat} (h : colL a.Column) (hk : 400 ≤ k) : syntax_checkAggregate k a = some (aggE a) := by
  have e1 : decide (a.Kind ≥ ((namesA.length : Nat) : Int)) = decide (a.Kind > 8) := by
    have : namesA.length = 9 := rfl
    rw [Bool.eq_iff_iff, this]; simp; omega
  have hz : ((a.Column.Var == w_0) && ((a.Column.Field == w_0) && ((a.Column.Key == w_0) && true))) = zCol a.Column := rfl
  have hq : ((a.Q.Num == 0) && ((a.Q.Den == 0) && true)) = zQ a.Q := rfl
  unfold syntax_checkAggregate syntax_checkAggregate_j1 syntax_checkAggregate_j2 aggE
  simp only [e1, hz, hq, isColumn_eq h hk, Option.bind_some, saggE3_eq]
  cases decide (a.Kind < 1) <;> cases decide (a.Kind > 8) <;> cases decide (a.Kind ≤ 3) <;> cases zCol a.Column <;> cases (a.Kind == 7) <;> cases zQ a.Q <;> cases colB a.Column <;> rfl
def okAgg (a : GAggregate) : Prop := okI .i64 a.Q.Num ∧ okI .i64 a.Q.Den
theorem checkAggregate_eq {a : GAggregate} {k : Nat} (h : colL a.Column) (ho : okAgg a) (hk : 400 ≤ k) : l36_checkAggregate k a = some (aggE a) := by
  have hz : ((a.Column.Var == w_0) && ((a.Column.Field == w_0) && ((a.Column.Key == w_0) && true))) = zCol a.Column := rfl
  have hq : (orI .i64 a.Q.Num a.Q.Den != 0) = !zQ a.Q := by
    have := orI_zero ho.1 ho.2
    unfold zQ
    rw [← this]; rfl
  have e7 : (a.Kind != 7) = !(a.Kind == 7) := rfl
  have e3 : decide (a.Kind > 3) = !decide (a.Kind ≤ 3) := by rw [Bool.eq_iff_iff]; simp
  unfold l36_checkAggregate l36_checkAggregate_j1 l36_checkAggregate_j2 aggE
  simp only [hz, hq, e7, e3, checkColumn_eq h hk, Option.bind_some, aggE3_eq]
  cases decide (a.Kind < 1) <;> cases decide (a.Kind > 8) <;> cases decide (a.Kind ≤ 3) <;> cases zCol a.Column <;> cases (a.Kind == 7) <;> cases zQ a.Q <;> cases colB a.Column <;> rfl
def isRel (k : Int) : Bool := decide (k ≥ 1) && decide (k < 6)
theorem isRelation_eq (x : Int) : syntax_isRelation x = some (isRel x) := by
  have e : ((namesR.length : Nat) : Int) = 6 := rfl
  unfold syntax_isRelation isRel
  rw [e]
  cases decide (x ≥ 1) <;> rfl
theorem isRel_not (x : Int) : (decide (x < 1) || decide (x > 5)) = !isRel x := by
  rw [Bool.eq_iff_iff]; simp [isRel]; omega
def patA : List GAbsence → Int
  | [] => 0
  | x :: l => if (!varB x.Variable.Name) = true then 11 else if (chkP x.Variable.Where != 0) = true then chkP x.Variable.Where else if (!isRel x.Kind) = true then 12 else if (!varB x.Other) = true then 11 else patA l
def patR (e : Int) : List GRelation → Int
  | [] => e
  | x :: l => if (!isRel x.Kind) = true then 12 else if (!varB x.A) = true then 11 else if (!varB x.B) = true then 11 else patR e l
def patV (e : Int) : List GVariable → Int
  | [] => e
  | x :: l => if (!varB x.Name) = true then 11 else if (chkP x.Where != 0) = true then chkP x.Where else patV e l
def patE (q : GQuery) : Int := if (((q.Variables.length : Nat) : Int) == 0) = true then 7 else patV (patR (patA q.Absences) q.Relations) q.Variables
section
variable {q : GQuery} (hb : Bnd q)
include hb
theorem pat3 {k : Nat} (hk : 9000 ≤ k) : syntax_checkPattern_l3 k q 0 = some (patA q.Absences) := by
  have hl := hb.a
  refine loopS q.Absences (syntax_checkPattern_l3 · q) patA 8600 (fun k i x hk hx ih => ?_) (fun k hk => ?_) k (by omega)
  · obtain ⟨b1, b2, b3⟩ := hb.ab _ (mem_get hx)
    simp only [syntax_checkPattern_l3, lt_get hx, if_true, dec_nonneg, chk_true, toNat_cast, hx, Option.bind_some, w64_get (by omega) hx, ih, IsVariable_eq (s := x.Variable.Name) (k := k) (by omega) (by omega), IsVariable_eq (s := x.Other) (k := k) (by omega) (by omega), CheckPred_eq (p := x.Variable.Where) (k := k) (by omega) (by omega), isRelation_eq, patA]
    cases varB x.Variable.Name <;> cases (chkP x.Variable.Where != 0) <;> cases isRel x.Kind <;> cases varB x.Other <;> rfl
  · rw [syntax_checkPattern_l3, nlt_len]; rfl
theorem pat2 {k : Nat} (hk : 9400 ≤ k) : syntax_checkPattern_l2 k q 0 = some (patR (patA q.Absences) q.Relations) := by
  have hl := hb.r
  refine loopS q.Relations (syntax_checkPattern_l2 · q) (patR (patA q.Absences)) 9000 (fun k i x hk hx ih => ?_) (fun k hk => ?_) k (by omega)
  · obtain ⟨b1, b2⟩ := hb.rs _ (mem_get hx)
    simp only [syntax_checkPattern_l2, lt_get hx, if_true, dec_nonneg, chk_true, toNat_cast, hx, Option.bind_some, w64_get (by omega) hx, ih, IsVariable_eq (s := x.A) (k := k) (by omega) (by omega), IsVariable_eq (s := x.B) (k := k) (by omega) (by omega), isRelation_eq, patR]
    cases isRel x.Kind <;> cases varB x.A <;> cases varB x.B <;> rfl
  · rw [syntax_checkPattern_l2, nlt_len, pat3 hb hk]; rfl
theorem pat1 {k : Nat} (hk : 9800 ≤ k) : syntax_checkPattern_l1 k q 0 = some (patV (patR (patA q.Absences) q.Relations) q.Variables) := by
  have hl := hb.v
  refine loopS q.Variables (syntax_checkPattern_l1 · q) (patV (patR (patA q.Absences) q.Relations)) 9400 (fun k i x hk hx ih => ?_) (fun k hk => ?_) k (by omega)
  · obtain ⟨b1, b2⟩ := hb.vs _ (mem_get hx)
    simp only [syntax_checkPattern_l1, lt_get hx, if_true, dec_nonneg, chk_true, toNat_cast, hx, Option.bind_some, w64_get (by omega) hx, ih, IsVariable_eq (s := x.Name) (k := k) (by omega) (by omega), CheckPred_eq (p := x.Where) (k := k) (by omega) (by omega), patV]
    cases varB x.Name <;> cases (chkP x.Where != 0) <;> rfl
  · rw [syntax_checkPattern_l1, nlt_len, pat2 hb hk]; rfl
theorem checkPattern_eq {k : Nat} (hk : 9800 ≤ k) : syntax_checkPattern k q = some (patE q) := by
  unfold syntax_checkPattern patE
  rw [pat1 hb hk]
  cases (((q.Variables.length : Nat) : Int) == 0) <;> rfl
theorem lpat3 {k : Nat} (hk : 9300 ≤ k) : l36_checkFirst_l11 k q 0 = some (patA q.Absences) := by
  have hl := hb.a
  have key : ∀ (d i k : Nat), i + d = q.Absences.length → 8600 + 2 * d + 1 ≤ k → l36_checkFirst_l11 k q (i : Int) = some (patA (q.Absences.drop i)) := by
    intro d
    induction d with
    | zero =>
      intro i k hi hk
      obtain ⟨k, rfl⟩ : ∃ m, k = m + 1 := ⟨k - 1, by omega⟩
      rw [l36_checkFirst_l11, if_neg (by simp; omega), List.drop_eq_nil_of_le (by omega)]; rfl
    | succ d ih =>
      intro i k hi hk
      obtain ⟨k, rfl⟩ : ∃ m, k = m + 2 := ⟨k - 2, by omega⟩
      have h1 : i < q.Absences.length := by omega
      have hx := List.getElem?_eq_getElem h1
      obtain ⟨b1, b2, b3⟩ := hb.ab _ (mem_get hx)
      have ih := ih (i + 1) k (by omega) (by omega)
      have j12 : ∀ b, l36_checkFirst_j12 (k + 1) q (i : Int) q.Absences[i] b = some (if b = true then 12 else if (!varB q.Absences[i].Other) = true then 11 else patA (q.Absences.drop (i + 1))) := by
        intro b
        rw [l36_checkFirst_j12, w64_succ (by omega), ih, lvariable_eq (by omega) (by omega) (by omega)]
        cases b <;> cases varB q.Absences[i].Other <;> rfl
      rw [List.drop_eq_getElem_cons h1]
      simp only [l36_checkFirst_l11, lt_get hx, if_true, dec_nonneg, chk_true, toNat_cast, hx, Option.bind_some, lvariable_eq (s := q.Absences[i].Variable.Name) (k := k + 1) (by omega) (by omega) (by omega), checkPred_eq (p := q.Absences[i].Variable.Where) (k := k + 1) (by omega) (by omega), j12, patA]
      have hr := isRel_not q.Absences[i].Kind
      generalize isRel q.Absences[i].Kind = r at hr ⊢
      cases varB q.Absences[i].Variable.Name <;> cases (chkP q.Absences[i].Variable.Where != 0) <;> cases r <;> cases hd : decide (q.Absences[i].Kind < 1) <;> cases hd2 : decide (q.Absences[i].Kind > 5) <;> simp_all
  have := key q.Absences.length 0 k (by omega) (by omega)
  simpa using this
theorem lpat2 {k : Nat} (hk : 10000 ≤ k) : l36_checkFirst_l7 k q 0 = some (patR (patA q.Absences) q.Relations) := by
  have hl := hb.r
  have key : ∀ (d i k : Nat), i + d = q.Relations.length → 9300 + 2 * d + 1 ≤ k → l36_checkFirst_l7 k q (i : Int) = some (patR (patA q.Absences) (q.Relations.drop i)) := by
    intro d
    induction d with
    | zero =>
      intro i k hi hk
      obtain ⟨k, rfl⟩ : ∃ m, k = m + 1 := ⟨k - 1, by omega⟩
      rw [l36_checkFirst_l7, if_neg (by simp; omega), List.drop_eq_nil_of_le (by omega), lpat3 hb (by omega)]; rfl
    | succ d ih =>
      intro i k hi hk
      obtain ⟨k, rfl⟩ : ∃ m, k = m + 2 := ⟨k - 2, by omega⟩
      have h1 : i < q.Relations.length := by omega
      have hx := List.getElem?_eq_getElem h1
      obtain ⟨b1, b2⟩ := hb.rs _ (mem_get hx)
      have ih := ih (i + 1) k (by omega) (by omega)
      have j8 : ∀ b, l36_checkFirst_j8 (k + 1) q (i : Int) q.Relations[i] b = some (if b = true then 12 else if (!varB q.Relations[i].A) = true then 11 else if (!varB q.Relations[i].B) = true then 11 else patR (patA q.Absences) (q.Relations.drop (i + 1))) := by
        intro b
        rw [l36_checkFirst_j8, w64_succ (by omega), ih, lvariable_eq (by omega) (by omega) (by omega), lvariable_eq (by omega) (by omega) (by omega)]
        cases b <;> cases varB q.Relations[i].A <;> cases varB q.Relations[i].B <;> rfl
      rw [List.drop_eq_getElem_cons h1]
      simp only [l36_checkFirst_l7, lt_get hx, if_true, dec_nonneg, chk_true, toNat_cast, hx, Option.bind_some, j8, patR]
      have hr := isRel_not q.Relations[i].Kind
      generalize isRel q.Relations[i].Kind = r at hr ⊢
      cases r <;> cases hd : decide (q.Relations[i].Kind < 1) <;> cases hd2 : decide (q.Relations[i].Kind > 5) <;> simp_all
  have := key q.Relations.length 0 k (by omega) (by omega)
  simpa using this
theorem checkFirst_eq {k : Nat} (hk : 10400 ≤ k) : l36_checkFirst k q = some (patE q) := by
  have hl := hb.v
  have h1 : l36_checkFirst_l1 k q 0 = some (patV (patR (patA q.Absences) q.Relations) q.Variables) := by
    refine loopS q.Variables (l36_checkFirst_l1 · q) (patV (patR (patA q.Absences) q.Relations)) 10000 (fun k i x hk hx ih => ?_) (fun k hk => ?_) k (by omega)
    · obtain ⟨b1, b2⟩ := hb.vs _ (mem_get hx)
      simp only [l36_checkFirst_l1, lt_get hx, if_true, dec_nonneg, chk_true, toNat_cast, hx, Option.bind_some, w64_get (by omega) hx, ih, lvariable_eq (s := x.Name) (k := k) (by omega) (by omega) (by omega), checkPred_eq (p := x.Where) (k := k) (by omega) (by omega), patV]
      cases varB x.Name <;> cases (chkP x.Where != 0) <;> rfl
    · rw [l36_checkFirst_l1, nlt_len, lpat2 hb hk]; rfl
  unfold l36_checkFirst patE
  rw [h1]
  cases (((q.Variables.length : Nat) : Int) == 0) <;> rfl
end
def resO (q : GQuery) : List GOrderKey → Int
  | [] => if decide (q.Limit < 0) = true then 2 else if decide (q.Limit > 1048576) = true then 2 else 0
  | x :: l => if decide (x.Index < 0) = true then 2 else if decide (x.Index > 1048576) = true then 2 else resO q l
def resC (e : Int) : List GAggregate → Int
  | [] => e
  | x :: l => if (aggE x != 0) = true then aggE x else resC e l
def resG (e : Int) : List GColumn → Int
  | [] => e
  | x :: l => if (!colB x) = true then 11 else resG e l
def slotB (s : GInterval) : Bool := decide (s.From < 0) || (decide (s.From > 1048576) || (decide (s.To < 0) || decide (s.To > 1048576)))
def resE (q : GQuery) : Int := if slotB q.Slots = true then 2 else resG (resC (resO q q.Order) q.Compute) q.Group
section
variable {q : GQuery} (hb : Bnd q)
include hb
theorem res4 {k : Nat} (hk : 400 ≤ k) : syntax_checkResults_l4 k q 0 = some (resO q q.Order) := by
  have hl := hb.o
  refine loopS q.Order (syntax_checkResults_l4 · q) (resO q) 0 (fun k i x hk hx ih => ?_) (fun k hk => ?_) k (by omega)
  · simp only [syntax_checkResults_l4, lt_get hx, if_true, dec_nonneg, chk_true, toNat_cast, hx, Option.bind_some, w64_get (by omega) hx, ih, resO]
    cases decide (x.Index < 0) <;> cases decide (x.Index > 1048576) <;> rfl
  · rw [syntax_checkResults_l4, nlt_len, resO]
    cases decide (q.Limit < 0) <;> cases decide (q.Limit > 1048576) <;> rfl
theorem res3 {k : Nat} (hk : 800 ≤ k) : syntax_checkResults_l3 k q 0 = some (resC (resO q q.Order) q.Compute) := by
  have hl := hb.c
  refine loopS q.Compute (syntax_checkResults_l3 · q) (resC (resO q q.Order)) 400 (fun k i x hk hx ih => ?_) (fun k hk => ?_) k (by omega)
  · simp only [syntax_checkResults_l3, lt_get hx, if_true, dec_nonneg, chk_true, toNat_cast, hx, Option.bind_some, w64_get (by omega) hx, ih, scheckAggregate_eq (hb.cs _ (mem_get hx)) hk, resC]
    cases (aggE x != 0) <;> rfl
  · rw [syntax_checkResults_l3, nlt_len, res4 hb hk]; rfl
theorem res2 {k : Nat} (hk : 1200 ≤ k) : syntax_checkResults_l2 k q 0 = some (resG (resC (resO q q.Order) q.Compute) q.Group) := by
  have hl := hb.g
  refine loopS q.Group (syntax_checkResults_l2 · q) (resG (resC (resO q q.Order) q.Compute)) 800 (fun k i x hk hx ih => ?_) (fun k hk => ?_) k (by omega)
  · simp only [syntax_checkResults_l2, lt_get hx, if_true, dec_nonneg, chk_true, toNat_cast, hx, Option.bind_some, w64_get (by omega) hx, ih, isColumn_eq (hb.gs _ (mem_get hx)) (by omega : 400 ≤ k), resG]
    cases colB x <;> rfl
  · rw [syntax_checkResults_l2, nlt_len, res3 hb hk]; rfl
theorem checkResults_eq {k : Nat} (hk : 1200 ≤ k) : syntax_checkResults k q = some (resE q) := by
  unfold syntax_checkResults syntax_checkResults_j1 resE slotB
  rw [res2 hb hk]
  cases decide (q.Slots.From < 0) <;> cases decide (q.Slots.From > 1048576) <;> cases decide (q.Slots.To < 0) <;> cases decide (q.Slots.To > 1048576) <;> rfl
end
structure QOk (q : GQuery) : Prop where
  ne : q.Variables ≠ []
  vs : ∀ x ∈ q.Variables, varB x.Name = true ∧ chkP x.Where = 0
  rs : ∀ x ∈ q.Relations, isRel x.Kind = true ∧ varB x.A = true ∧ varB x.B = true
  ab : ∀ x ∈ q.Absences, varB x.Variable.Name = true ∧ chkP x.Variable.Where = 0 ∧ isRel x.Kind = true ∧ varB x.Other = true
  sl : slotB q.Slots = false
  gs : ∀ x ∈ q.Group, colB x = true
  cs : ∀ x ∈ q.Compute, aggE x = 0
  os : ∀ x ∈ q.Order, 0 ≤ x.Index ∧ x.Index ≤ 1048576
  li : 0 ≤ q.Limit ∧ q.Limit ≤ 1048576
theorem patA_ok : ∀ {l : List GAbsence}, patA l = 0 → ∀ x ∈ l, varB x.Variable.Name = true ∧ chkP x.Variable.Where = 0 ∧ isRel x.Kind = true ∧ varB x.Other = true
  | y :: l, h, x, hx => by
    simp only [patA] at h
    split at h
    · cases h
    rename_i h1
    split at h
    · rename_i h2; rw [h] at h2; cases h2
    rename_i h2
    split at h
    · cases h
    rename_i h3
    split at h
    · cases h
    rename_i h4
    rcases List.mem_cons.1 hx with rfl | hx
    · exact ⟨by simpa using h1, by simpa using h2, by simpa using h3, by simpa using h4⟩
    · exact patA_ok h x hx
theorem patR_ok {e : Int} : ∀ {l : List GRelation}, patR e l = 0 → e = 0 ∧ ∀ x ∈ l, isRel x.Kind = true ∧ varB x.A = true ∧ varB x.B = true
  | [], h => ⟨h, fun x hx => (by cases hx)⟩
  | y :: l, h => by
    simp only [patR] at h
    split at h
    · cases h
    rename_i h1
    split at h
    · cases h
    rename_i h2
    split at h
    · cases h
    rename_i h3
    have ih := patR_ok h
    refine ⟨ih.1, fun x hx => ?_⟩
    rcases List.mem_cons.1 hx with rfl | hx
    · exact ⟨by simpa using h1, by simpa using h2, by simpa using h3⟩
    · exact ih.2 x hx
theorem patV_ok {e : Int} : ∀ {l : List GVariable}, patV e l = 0 → e = 0 ∧ ∀ x ∈ l, varB x.Name = true ∧ chkP x.Where = 0
  | [], h => ⟨h, fun x hx => (by cases hx)⟩
  | y :: l, h => by
    simp only [patV] at h
    split at h
    · cases h
    rename_i h1
    split at h
    · rename_i h2; rw [h] at h2; cases h2
    rename_i h2
    have ih := patV_ok h
    refine ⟨ih.1, fun x hx => ?_⟩
    rcases List.mem_cons.1 hx with rfl | hx
    · exact ⟨by simpa using h1, by simpa using h2⟩
    · exact ih.2 x hx
theorem resO_ok {q : GQuery} : ∀ {l : List GOrderKey}, resO q l = 0 → (0 ≤ q.Limit ∧ q.Limit ≤ 1048576) ∧ ∀ x ∈ l, 0 ≤ x.Index ∧ x.Index ≤ 1048576
  | [], h => by
    simp only [resO] at h
    split at h
    · cases h
    rename_i h1
    split at h
    · cases h
    rename_i h2
    simp only [decide_eq_true_eq] at h1 h2
    exact ⟨by omega, fun x hx => (by cases hx)⟩
  | y :: l, h => by
    simp only [resO] at h
    split at h
    · cases h
    rename_i h1
    split at h
    · cases h
    rename_i h2
    simp only [decide_eq_true_eq] at h1 h2
    have ih := resO_ok h
    refine ⟨ih.1, fun x hx => ?_⟩
    rcases List.mem_cons.1 hx with rfl | hx
    · omega
    · exact ih.2 x hx
theorem resC_ok {e : Int} : ∀ {l : List GAggregate}, resC e l = 0 → e = 0 ∧ ∀ x ∈ l, aggE x = 0
  | [], h => ⟨h, fun x hx => (by cases hx)⟩
  | y :: l, h => by
    simp only [resC] at h
    split at h
    · rename_i h2; rw [h] at h2; cases h2
    rename_i h2
    have ih := resC_ok h
    refine ⟨ih.1, fun x hx => ?_⟩
    rcases List.mem_cons.1 hx with rfl | hx
    · simpa using h2
    · exact ih.2 x hx
theorem resG_ok {e : Int} : ∀ {l : List GColumn}, resG e l = 0 → e = 0 ∧ ∀ x ∈ l, colB x = true
  | [], h => ⟨h, fun x hx => (by cases hx)⟩
  | y :: l, h => by
    simp only [resG] at h
    split at h
    · cases h
    rename_i h2
    have ih := resG_ok h
    refine ⟨ih.1, fun x hx => ?_⟩
    rcases List.mem_cons.1 hx with rfl | hx
    · simpa using h2
    · exact ih.2 x hx
theorem QOk.of {q : GQuery} (h1 : patE q = 0) (h2 : resE q = 0) : QOk q := by
  unfold patE at h1
  unfold resE at h2
  split at h1
  · cases h1
  rename_i hn
  split at h2
  · cases h2
  rename_i hs
  obtain ⟨h1, v⟩ := patV_ok h1
  obtain ⟨h1, r⟩ := patR_ok h1
  obtain ⟨h2, g⟩ := resG_ok h2
  obtain ⟨h2, c⟩ := resC_ok h2
  obtain ⟨l, o⟩ := resO_ok h2
  exact ⟨fun h => hn (by rw [h]; rfl), v, r, patA_ok h1, by simpa using hs, g, c, o, l⟩
def relN (k : Int) : Str := (namesR[k.toNat]?).getD []
def aggN (k : Int) : Str := (namesA[k.toNat]?).getD []
def tkVar (v : GVariable) : List PTk := tW v.Name :: tS wx7b :: (tkP v.Where ++ [tS wx7d])
def tkRel (r : GRelation) : List PTk := [tW r.A, tW (relN r.Kind), tW r.B]
def tkAbs (a : GAbsence) : List PTk := if a.First = true then tW w_not :: (tkVar a.Variable ++ [tW (relN a.Kind), tW a.Other]) else tW a.Other :: tW (relN a.Kind) :: tW w_not :: tkVar a.Variable
def tkCol (c : GColumn) : List PTk := tW c.Var :: tS wx2e :: pathT c.Field c.Key
def tOp : PTk := ⟨4, wx2828, wx28⟩
def tkAgg (a : GAggregate) : List PTk := tW (aggN a.Kind) :: (if decide (a.Kind ≤ 3) = true then [] else tOp :: (if (a.Kind == 7) = true then numT a.Q.Num ++ tS wx2f :: (numT a.Q.Den ++ tS wx2c :: (tkCol a.Column ++ [tS wx29])) else tkCol a.Column ++ [tS wx29]))
def tkOrd (o : GOrderKey) : List PTk := numT o.Index ++ (if o.Descending = true then [tW w_desc] else [])
def tkL (ws : List PTk) : List (List PTk) → List PTk
  | [] => []
  | t :: l => ws ++ (t ++ l.flatMap fun y => tS wx2c :: y)
def tkSlots (s : GInterval) : List PTk := if (!eqInt s ⟨0, 0⟩) = true then tW w_slots :: (numT s.From ++ tS wx2e2e :: numT s.To) else []
def tkLimit (n : Int) : List PTk := if (n != 0) = true then tW w_limit :: numT n else []
def tkQ (q : GQuery) : List PTk :=
  tkL [tW w_find] (q.Variables.map tkVar) ++ (tkL [tW w_where] (q.Relations.map tkRel ++ q.Absences.map tkAbs) ++ (tkSlots q.Slots ++ (tkL [tW w_group, tW w_by] (q.Group.map tkCol) ++ (tkL [tW w_compute] (q.Compute.map tkAgg) ++ (tkL [tW w_order, tW w_by] (q.Order.map tkOrd) ++ tkLimit q.Limit)))))
theorem relN_get {k : Int} (h : isRel k = true) : decide (0 ≤ k) = true ∧ namesR[k.toNat]? = some (relN k) ∧ (relN k).length ≤ 10 := by
  have : k = 1 ∨ k = 2 ∨ k = 3 ∨ k = 4 ∨ k = 5 := by
    unfold isRel at h
    rw [Bool.and_eq_true, decide_eq_true_eq, decide_eq_true_eq] at h
    omega
  rcases this with rfl | rfl | rfl | rfl | rfl <;> exact ⟨rfl, rfl, by decide⟩
theorem aggN_get {k : Int} (h : 1 ≤ k ∧ k ≤ 8) : decide (0 ≤ k) = true ∧ namesA[k.toNat]? = some (aggN k) ∧ (aggN k).length ≤ 10 := by
  have : k = 1 ∨ k = 2 ∨ k = 3 ∨ k = 4 ∨ k = 5 ∨ k = 6 ∨ k = 7 ∨ k = 8 := by omega
  rcases this with rfl | rfl | rfl | rfl | rfl | rfl | rfl | rfl <;> exact ⟨rfl, rfl, by decide⟩
structure AggOk (a : GAggregate) : Prop where
  kind : 1 ≤ a.Kind ∧ a.Kind ≤ 8
  few : a.Kind ≤ 3 → zCol a.Column = true
  noq : a.Kind ≠ 7 → zQ a.Q = true
  col : 3 < a.Kind → colB a.Column = true
  q : a.Kind = 7 → (0 ≤ a.Q.Num ∧ a.Q.Num ≤ 1048576) ∧ 1 ≤ a.Q.Den ∧ a.Q.Den ≤ 1048576
theorem aggE_ok {a : GAggregate} (h : aggE a = 0) : AggOk a := by
  unfold aggE at h
  split at h
  · cases h
  rename_i h1
  split at h
  · cases h
  rename_i h2
  split at h
  · cases h
  rename_i h3
  simp only [Bool.or_eq_true, Bool.and_eq_true, Bool.not_eq_true', decide_eq_true_eq, decide_eq_false_iff_not, not_or, not_and, Bool.not_eq_false, beq_eq_false_iff_ne] at h1 h2 h3
  refine ⟨by omega, h2.1, h2.2, fun h => h3 (by omega), fun h7 => ?_⟩
  unfold aggE3 at h
  rw [h7] at h
  simp only [beq_self_eq_true, if_true] at h
  split at h
  · cases h
  rename_i c1
  split at h
  · cases h
  rename_i c2
  split at h
  · cases h
  rename_i c3
  split at h
  · cases h
  rename_i c4
  simp only [decide_eq_true_eq] at c1 c2 c3 c4
  omega
theorem tb_cons (t : PTk) (l : List PTk) : tb (t :: l) = t.txt.length + 1 + tb l := rfl
theorem tb_var {v : GVariable} (hn : v.Name.length ≤ 300) (hw : wP v.Where ≤ 1000) : tb (tkVar v) ≤ 60310 := by
  have := tb_tkP v.Where
  simp only [tkVar, tb, tb_append, tW, tS, List.length_cons, List.length_nil]
  omega
theorem tb_col {c : GColumn} (h : colL c) : tb (tkCol c) ≤ 1500 := by
  obtain ⟨h1, h2, h3⟩ := h
  have := tb_path c.Field c.Key
  simp only [tkCol, tb, tW, tS, List.length_cons, List.length_nil]
  omega
theorem tb_rel {r : GRelation} (h1 : r.A.length ≤ 300) (h2 : r.B.length ≤ 300) (h : isRel r.Kind = true) : tb (tkRel r) ≤ 700 := by
  have := (relN_get h).2.2
  simp only [tkRel, tb, tW]
  omega
theorem tb_abs {a : GAbsence} (hn : a.Variable.Name.length ≤ 300) (hw : wP a.Variable.Where ≤ 1000) (ho : a.Other.length ≤ 300) (h : isRel a.Kind = true) : tb (tkAbs a) ≤ 60700 := by
  have := (relN_get h).2.2
  have := tb_var hn hw
  have l3 : w_not.length = 3 := rfl
  unfold tkAbs
  split <;> simp only [tb, tb_append, tW] <;> omega
theorem tb_agg {a : GAggregate} (h : AggOk a) (hc : colL a.Column) : tb (tkAgg a) ≤ 1700 := by
  have := (aggN_get h.kind).2.2
  have := tb_col hc
  have := tb_num a.Q.Num
  have := tb_num a.Q.Den
  unfold tkAgg
  rw [tb_cons]
  have e : (tW (aggN a.Kind)).txt = aggN a.Kind := rfl
  rw [e]
  split
  · simp only [tb]; omega
  · rw [tb_cons]
    have : tOp.txt.length = 1 := rfl
    split <;> simp only [tb, tb_append, tS, List.length_cons, List.length_nil] <;> omega
theorem tb_ord (o : GOrderKey) : tb (tkOrd o) ≤ 50 := by
  have := tb_num o.Index
  have l4 : w_desc.length = 4 := rfl
  unfold tkOrd
  rw [tb_append]
  split <;> simp only [tb, tW] <;> omega
theorem column_w {x : PW} {k : Nat} (hx : x.b.length ≤ 90000000) {c : GColumn} (h : colL c) (hk : 1000 ≤ k) : writer_column k x.w c = some (x.puts (tkCol c)).w := by
  obtain ⟨b1, b2, b3⟩ := h
  have h1 := x.put_len (tW c.Var)
  have h2 := (x.put (tW c.Var)).put_len (tS wx2e)
  have e1 : (tW c.Var).txt.length = c.Var.length := rfl
  have e2 : (tS wx2e).txt.length = 1 := rfl
  have e3 : wx2e.length = 1 := rfl
  unfold writer_column tkCol
  rw [word1_eq (by omega) (by omega), Option.bind_some, sign_eq (by omega) (by omega), Option.bind_some, path_eq (by omega) (by omega) (by omega) (by omega), Option.bind_some, PW.puts_cons, PW.puts_cons]
theorem variable_w {x : PW} {k : Nat} (hx : x.b.length ≤ 48000000) {v : GVariable} (hok : chkP v.Where = 0) (hn : v.Name.length ≤ 300) (hw : wP v.Where ≤ 1000) (hk : 60050 ≤ k) : writer_variable k x.w v = some (x.puts (tkVar v)).w := by
  have h1 := x.put_len (tW v.Name)
  have h2 := (x.put (tW v.Name)).put_len (tS wx7b)
  have h3 := ((x.put (tW v.Name)).put (tS wx7b)).puts_len (tkP v.Where)
  have h4 := tb_tkP v.Where
  have e1 : (tW v.Name).txt.length = v.Name.length := rfl
  have e2 : (tS wx7b).txt.length = 1 := rfl
  have e3 : wx7b.length = 1 := rfl
  have e4 : wx7d.length = 1 := rfl
  unfold writer_variable tkVar
  rw [word1_eq (by omega) (by omega), Option.bind_some, sign_eq (by omega) (by omega), Option.bind_some, pred_w v.Where _ k (chkP_ok hok) (by omega) (by omega), Option.bind_some, sign_eq (by omega) (by omega), Option.bind_some, PW.puts_cons, PW.puts_cons, PW.puts_append]
  rfl
section
variable {x : PW} {k : Nat} (hx : x.b.length ≤ 46000000)
include hx
theorem relation_w {r : GRelation} (h1 : r.A.length ≤ 300) (h2 : r.B.length ≤ 300) (h : isRel r.Kind = true) (hk : 1000 ≤ k) : writer_words k x.w [r.A, relN r.Kind, r.B] = some (x.puts (tkRel r)).w := by
  have hb := tb_rel h1 h2 h
  have := words_eq (l := [r.A, relN r.Kind, r.B]) (x := x) (k := k) (by simp) (by simp; omega) (by show x.b.length + tb (tkRel r) ≤ _; omega)
  exact this
theorem absence_w {a : GAbsence} (hok : chkP a.Variable.Where = 0) (hn : a.Variable.Name.length ≤ 300) (hw : wP a.Variable.Where ≤ 1000) (ho : a.Other.length ≤ 300) (h : isRel a.Kind = true) (hk : 60050 ≤ k) : writer_absence k x.w a = some (x.puts (tkAbs a)).w := by
  obtain ⟨g1, g2, g3⟩ := relN_get h
  have l3 : w_not.length = 3 := rfl
  have e3 : (tW w_not).txt.length = 3 := rfl
  have hb := tb_var hn hw
  have h1 : (x.put (tW w_not)).b.length ≤ x.b.length + 1 + 3 := x.put_len (tW w_not)
  have h2 := (x.put (tW w_not)).puts_len (tkVar a.Variable)
  have h3 := x.puts_len [tW a.Other, tW (relN a.Kind), tW w_not]
  have e4 : tb [tW a.Other, tW (relN a.Kind), tW w_not] ≤ 400 := by simp only [tb, tW]; omega
  have e5 : tb [tW (relN a.Kind), tW a.Other] ≤ 400 := by simp only [tb, tW]; omega
  unfold writer_absence tkAbs
  simp only [chk_pos g1, g2, Option.bind_some]
  have w1 := word1_eq (s := w_not) (x := x) (k := k) (by omega) (by omega)
  have w3 := words_eq (l := [a.Other, relN a.Kind, w_not]) (x := x) (k := k) (by simp) (by simp; omega) (by show x.b.length + tb [tW a.Other, tW (relN a.Kind), tW w_not] ≤ _; omega)
  have w2 := words_eq (l := [relN a.Kind, a.Other]) (x := (x.put (tW w_not)).puts (tkVar a.Variable)) (k := k) (by simp) (by simp; omega) (by show _ + tb [tW (relN a.Kind), tW a.Other] ≤ _; omega)
  have v1 := variable_w (x := x.put (tW w_not)) (k := k) (by omega) hok hn hw hk
  have v2 := variable_w (x := x.puts [tW a.Other, tW (relN a.Kind), tW w_not]) (k := k) (by omega) hok hn hw hk
  simp only [List.map_cons, List.map_nil] at w2 w3
  rw [w1, Option.bind_some, v1, Option.bind_some, w2, Option.bind_some, w3, Option.bind_some, v2, Option.bind_some]
  cases a.First with
  | true => simp only [if_true, PW.puts_cons, PW.puts_append]
  | false => simp only [Bool.false_eq_true, if_false, PW.puts_cons]; rfl
theorem aggregate_w {a : GAggregate} (h : AggOk a) (hc : colL a.Column) (hk : 1000 ≤ k) : writer_aggregate k x.w a = some (x.puts (tkAgg a)).w := by
  obtain ⟨g1, g2, g3⟩ := aggN_get h.kind
  have hb := tb_col hc
  have n1 := tb_num a.Q.Num
  have n2 := tb_num a.Q.Den
  have h1 := x.put_len (tW (aggN a.Kind))
  have e1 : (tW (aggN a.Kind)).txt.length = (aggN a.Kind).length := rfl
  unfold writer_aggregate tkAgg
  rw [chk_pos g1, g2, Option.bind_some, word1_eq (by omega) (by omega), Option.bind_some, PW.puts_cons]
  generalize x.put (tW (aggN a.Kind)) = y at h1 ⊢
  by_cases h3 : a.Kind ≤ 3
  · rw [if_pos (decide_eq_true h3), if_pos (decide_eq_true h3)]; rfl
  rw [if_neg (by simpa using h3), if_neg (by simpa using h3)]
  have h2 := y.put_len tOp
  have e2 : tOp.txt.length = 1 := rfl
  have p1 : writer_put k y.w (SToken.mk 4 0 wx2828 0) wx28 = some (y.put tOp).w := put_eq (x := y) (t := tOp) (by omega) (by omega)
  rw [p1, Option.bind_some, PW.puts_cons]
  generalize y.put tOp = z at h2 ⊢
  have l1 : wx2f.length = 1 := rfl
  have l2 : wx2c.length = 1 := rfl
  have l3 : wx29.length = 1 := rfl
  have m1 : (tS wx2f).txt.length = 1 := rfl
  have m2 : (tS wx2c).txt.length = 1 := rfl
  by_cases h7 : a.Kind = 7
  · have hq := h.q h7
    rw [if_pos (by rw [h7]; rfl), if_pos (by rw [h7]; rfl)]
    have q1 := z.puts_len (numT a.Q.Num)
    have q2 := (z.puts (numT a.Q.Num)).put_len (tS wx2f)
    have q3 := ((z.puts (numT a.Q.Num)).put (tS wx2f)).puts_len (numT a.Q.Den)
    have q4 := (((z.puts (numT a.Q.Num)).put (tS wx2f)).puts (numT a.Q.Den)).put_len (tS wx2c)
    have q5 := ((((z.puts (numT a.Q.Num)).put (tS wx2f)).puts (numT a.Q.Den)).put (tS wx2c)).puts_len (tkCol a.Column)
    rw [number_eq (by omega) (by omega) (by omega) (by omega), Option.bind_some, sign_eq (by omega) (by omega), Option.bind_some, number_eq (by omega) (by omega) (by omega) (by omega), Option.bind_some, sign_eq (by omega) (by omega), Option.bind_some,
      column_w (by omega) hc hk, Option.bind_some, sign_eq (by omega) (by omega), Option.bind_some]
    simp only [PW.puts_append, PW.puts_cons]; rfl
  · rw [if_neg (by simpa using h7), if_neg (by simpa using h7)]
    have q5 := z.puts_len (tkCol a.Column)
    rw [column_w (by omega) hc hk, Option.bind_some, sign_eq (by omega) (by omega), Option.bind_some]
    simp only [PW.puts_append, PW.puts_cons]; rfl
theorem order_w {o : GOrderKey} (h : 0 ≤ o.Index ∧ o.Index ≤ 1048576) (hk : 1000 ≤ k) : writer_number k x.w o.Index = some (x.puts (numT o.Index)).w ∧ (o.Descending = true → writer_words k (x.puts (numT o.Index)).w [w_desc] = some (x.puts (tkOrd o)).w) := by
  have n1 := tb_num o.Index
  have q1 := x.puts_len (numT o.Index)
  have l4 : w_desc.length = 4 := rfl
  refine ⟨number_eq (by omega) (by omega) (by omega) (by omega), fun hd => ?_⟩
  unfold tkOrd
  rw [if_pos hd, word1_eq (by omega) (by omega), PW.puts_append]; rfl
end
theorem tb_flat_le (l : List (List PTk)) (c : Nat) (h : ∀ t ∈ l, tb t ≤ c) : tb (l.flatMap fun y => tS wx2c :: y) ≤ (c + 2) * l.length := by
  induction l with
  | nil => exact Nat.le_refl _
  | cons t l ih =>
    have h1 := h t List.mem_cons_self
    have h2 := ih fun x hx => h x (List.mem_cons_of_mem _ hx)
    have e : (tS wx2c).txt.length = 1 := rfl
    rw [List.flatMap_cons, tb_append, tb_cons, e, List.length_cons, Nat.mul_succ]
    omega
theorem tb_L (ws : List PTk) (l : List (List PTk)) (c : Nat) (h : ∀ t ∈ l, tb t ≤ c) : tb (tkL ws l) ≤ tb ws + (c + 2) * l.length := by
  cases l with
  | nil => simp [tkL, tb]
  | cons t l =>
    have h1 := h t List.mem_cons_self
    have h2 := tb_flat_le l c fun x hx => h x (List.mem_cons_of_mem _ hx)
    rw [tkL, tb_append, tb_append, List.length_cons, Nat.mul_succ]
    omega
theorem wlist {R : Type} (F : Nat → PW → Int → Option R) (fin : PW → R) (ws : List PTk) (ts : List (List PTk)) (c B : Nat)
    (h0 : ∀ k x t, c ≤ k → ts[0]? = some t → x.b.length + tb ws + tb t ≤ B → F (k + 1) x 0 = F k (x.puts (ws ++ t)) ((1 : Nat) : Int))
    (hs : ∀ k x (i : Nat) t, c ≤ k → 0 < i → ts[i]? = some t → x.b.length + 2 + tb t ≤ B → F (k + 1) x (i : Int) = F k (x.puts (tS wx2c :: t)) ((i + 1 : Nat) : Int))
    (he : ∀ k x, c ≤ k → F (k + 1) x ((ts.length : Nat) : Int) = some (fin x))
    {k : Nat} {x : PW} (hk : c + ts.length + 1 ≤ k) (hx : x.b.length + tb (tkL ws ts) ≤ B) : F k x 0 = some (fin (x.puts (tkL ws ts))) := by
  have e2 : (tS wx2c).txt.length = 1 := rfl
  have key : ∀ (d i k : Nat) (x : PW), 0 < i → i + d = ts.length → c + d + 1 ≤ k → x.b.length + tb ((ts.drop i).flatMap fun y => tS wx2c :: y) ≤ B → F k x (i : Int) = some (fin (x.puts ((ts.drop i).flatMap fun y => tS wx2c :: y))) := by
    intro d
    induction d with
    | zero =>
      intro i k x h0 hi hk hx
      obtain ⟨k, rfl⟩ : ∃ m, k = m + 1 := ⟨k - 1, by omega⟩
      have : i = ts.length := by omega
      subst this
      rw [List.drop_length]
      exact he k x (by omega)
    | succ d ih =>
      intro i k x h0 hi hk hx
      obtain ⟨k, rfl⟩ : ∃ m, k = m + 1 := ⟨k - 1, by omega⟩
      have h1 : i < ts.length := by omega
      rw [List.drop_eq_getElem_cons h1, List.flatMap_cons] at hx ⊢
      rw [tb_append, tb_cons, e2] at hx
      have hl := x.puts_len (tS wx2c :: ts[i])
      rw [tb_cons, e2] at hl
      rw [hs k x i _ (by omega) h0 (List.getElem?_eq_getElem h1) (by omega), ih (i + 1) k _ (by omega) (by omega) (by omega) (by omega), PW.puts_append]
  cases ts with
  | nil =>
    obtain ⟨k, rfl⟩ : ∃ m, k = m + 1 := ⟨k - 1, by omega⟩
    exact he k x (by simp at hk; omega)
  | cons t l =>
    rw [List.length_cons] at hk
    obtain ⟨k, rfl⟩ : ∃ m, k = m + 1 := ⟨k - 1, by omega⟩
    rw [tkL, tb_append, tb_append] at hx
    have hl := x.puts_len (ws ++ t)
    rw [tb_append] at hl
    rw [h0 k x t (by omega) rfl (by omega)]
    refine (key l.length 1 k _ (by omega) (by rw [List.length_cons]; omega) (by omega) (by simp only [List.drop_succ_cons, List.drop_zero]; omega)).trans ?_
    rw [tkL, ← List.append_assoc, PW.puts_append x (ws ++ t)]
    rfl
theorem map_get {α β : Type} {f : α → β} {l : List α} {i : Nat} {y : β} (h : (l.map f)[i]? = some y) : ∃ x, l[i]? = some x ∧ f x = y := by
  rw [List.getElem?_map] at h
  simpa using h
theorem w_out (x : PW) : x.w.out = toI x.b := rfl
theorem wr_k (x : PW) : x.w.last.kind = x.k := rfl
theorem w_at (x : PW) : x.w.last.at_ = 0 := rfl
theorem w_s (x : PW) : x.w.last.s_ = x.s := rfl
theorem w_n (x : PW) : x.w.last.n_ = 0 := rfl
theorem w64_01 : w64 (0 + 1) = ((1 : Nat) : Int) := by decide
section
variable {q : GQuery} (hq : QOk q) (hb : Bnd q)
include hq hb
theorem c1_w {k : Nat} {x : PW} (hk : 60100 ≤ k) (hx : x.b.length ≤ 46000000) {i : Nat} {v : _} (h : q.Variables[i]? = some v) : writer_query_c1 k (i : Int) x.w q = some ((x.puts (tkVar v)).w, q) := by
  unfold writer_query_c1
  obtain ⟨b1, b2⟩ := hb.vs _ (mem_get h)
  rw [chk_pos (dec_nonneg i), toNat_cast, h, Option.bind_some, variable_w (by omega) (hq.vs _ (mem_get h)).2 b1 b2 (by omega)]; rfl
theorem list_w {k : Nat} {x : PW} (hk : 60405 ≤ k) (hx : x.b.length + tb (tkL [tW w_find] (q.Variables.map tkVar)) ≤ 45000000) : writer_list k x.w ((q.Variables.length : Nat) : Int) q [w_find] = some ((x.puts (tkL [tW w_find] (q.Variables.map tkVar))).w, q) := by
  have hl := hb.v
  have hW : tb [tW w_find] ≤ 20 := by decide
  unfold writer_list
  refine wlist (fun k x i => writer_list_l1 k ((q.Variables.length : Nat) : Int) [w_find] (toI x.b) x.k 0 x.s 0 q.Variables q.Relations q.Absences q.Slots.From q.Slots.To q.Group q.Compute q.Order q.Limit i) (fun x => (x.w, q)) [tW w_find] (q.Variables.map tkVar) 60100 45000000 (fun k x t hk ht hx => ?_) (fun k x i t hk hi ht hx => ?_) (fun k x hk => ?_) (by rw [List.length_map]; omega) hx
  · obtain ⟨v, hv, rfl⟩ := map_get ht
    have hlt := get_lt hv
    have hp := x.puts_len [tW w_find]
    have w1 : writer_words k (SWriter.mk (toI x.b) (SToken.mk x.k 0 x.s 0)) [w_find] = some (x.puts [tW w_find]).w := words_eq (l := [w_find]) (x := x) (by simp) (by simp; omega) (by show x.b.length + tb [tW w_find] ≤ _; omega)
    have w2 : writer_query_c1 k 0 (x.puts [tW w_find]).w (GQuery.mk q.Variables q.Relations q.Absences (GInterval.mk q.Slots.From q.Slots.To) q.Group q.Compute q.Order q.Limit) = some (((x.puts [tW w_find]).puts (tkVar v)).w, q) := c1_w hq hb (i := 0) hk (by omega) hv
    simp only [writer_list_l1]
    rw [if_pos (by simp; omega), if_pos (show ((0 : Int) == 0) = true from rfl), w1, Option.bind_some, w2, Option.bind_some, w64_01]
    simp only [w_out, wr_k, w_at, w_s, w_n, PW.puts_append]
  · obtain ⟨v, hv, rfl⟩ := map_get ht
    have hlt := get_lt hv
    have hp := x.put_len (tS wx2c)
    have e1 : (tS wx2c).txt.length = 1 := rfl
    have e2 : wx2c.length = 1 := rfl
    have w1 : writer_sign k (SWriter.mk (toI x.b) (SToken.mk x.k 0 x.s 0)) wx2c = some (x.put (tS wx2c)).w := sign_eq (by omega) (by omega)
    have w2 : writer_query_c1 k (i : Int) (x.put (tS wx2c)).w (GQuery.mk q.Variables q.Relations q.Absences (GInterval.mk q.Slots.From q.Slots.To) q.Group q.Compute q.Order q.Limit) = some (((x.put (tS wx2c)).puts (tkVar v)).w, q) := c1_w hq hb hk (by omega) hv
    simp only [writer_list_l1]
    rw [if_pos (by simp; omega), if_neg (by simp; omega), w1, Option.bind_some, w2, Option.bind_some, w64_succ (by omega)]
    simp only [w_out, wr_k, w_at, w_s, w_n, PW.puts_cons]
  · simp only [writer_list_l1]
    rw [if_neg (by simp)]; rfl
theorem c3_w {k : Nat} {x : PW} (hk : 60100 ≤ k) (hx : x.b.length ≤ 46000000) {i : Nat} {v : _} (h : q.Group[i]? = some v) : writer_query_c3 k (i : Int) x.w q = some ((x.puts (tkCol v)).w, q) := by
  unfold writer_query_c3
  rw [chk_pos (dec_nonneg i), toNat_cast, h, Option.bind_some, column_w (by omega) (hb.gs _ (mem_get h)) (by omega)]; rfl
theorem list_i2_w {k : Nat} {x : PW} (hk : 60405 ≤ k) (hx : x.b.length + tb (tkL [tW w_group, tW w_by] (q.Group.map tkCol)) ≤ 45000000) : writer_list_i2 k x.w ((q.Group.length : Nat) : Int) q [w_group, w_by] = some ((x.puts (tkL [tW w_group, tW w_by] (q.Group.map tkCol))).w, q) := by
  have hl := hb.g
  have hW : tb [tW w_group, tW w_by] ≤ 20 := by decide
  unfold writer_list_i2
  refine wlist (fun k x i => writer_list_i2_l1 k ((q.Group.length : Nat) : Int) [w_group, w_by] (toI x.b) x.k 0 x.s 0 q.Variables q.Relations q.Absences q.Slots.From q.Slots.To q.Group q.Compute q.Order q.Limit i) (fun x => (x.w, q)) [tW w_group, tW w_by] (q.Group.map tkCol) 60100 45000000 (fun k x t hk ht hx => ?_) (fun k x i t hk hi ht hx => ?_) (fun k x hk => ?_) (by rw [List.length_map]; omega) hx
  · obtain ⟨v, hv, rfl⟩ := map_get ht
    have hlt := get_lt hv
    have hp := x.puts_len [tW w_group, tW w_by]
    have w1 : writer_words k (SWriter.mk (toI x.b) (SToken.mk x.k 0 x.s 0)) [w_group, w_by] = some (x.puts [tW w_group, tW w_by]).w := words_eq (l := [w_group, w_by]) (x := x) (by simp) (by simp; omega) (by show x.b.length + tb [tW w_group, tW w_by] ≤ _; omega)
    have w2 : writer_query_c3 k 0 (x.puts [tW w_group, tW w_by]).w (GQuery.mk q.Variables q.Relations q.Absences (GInterval.mk q.Slots.From q.Slots.To) q.Group q.Compute q.Order q.Limit) = some (((x.puts [tW w_group, tW w_by]).puts (tkCol v)).w, q) := c3_w hq hb (i := 0) hk (by omega) hv
    simp only [writer_list_i2_l1]
    rw [if_pos (by simp; omega), if_pos (show ((0 : Int) == 0) = true from rfl), w1, Option.bind_some, w2, Option.bind_some, w64_01]
    simp only [w_out, wr_k, w_at, w_s, w_n, PW.puts_append]
  · obtain ⟨v, hv, rfl⟩ := map_get ht
    have hlt := get_lt hv
    have hp := x.put_len (tS wx2c)
    have e1 : (tS wx2c).txt.length = 1 := rfl
    have e2 : wx2c.length = 1 := rfl
    have w1 : writer_sign k (SWriter.mk (toI x.b) (SToken.mk x.k 0 x.s 0)) wx2c = some (x.put (tS wx2c)).w := sign_eq (by omega) (by omega)
    have w2 : writer_query_c3 k (i : Int) (x.put (tS wx2c)).w (GQuery.mk q.Variables q.Relations q.Absences (GInterval.mk q.Slots.From q.Slots.To) q.Group q.Compute q.Order q.Limit) = some (((x.put (tS wx2c)).puts (tkCol v)).w, q) := c3_w hq hb hk (by omega) hv
    simp only [writer_list_i2_l1]
    rw [if_pos (by simp; omega), if_neg (by simp; omega), w1, Option.bind_some, w2, Option.bind_some, w64_succ (by omega)]
    simp only [w_out, wr_k, w_at, w_s, w_n, PW.puts_cons]
  · simp only [writer_list_i2_l1]
    rw [if_neg (by simp)]; rfl
theorem c4_w {k : Nat} {x : PW} (hk : 60100 ≤ k) (hx : x.b.length ≤ 46000000) {i : Nat} {v : _} (h : q.Compute[i]? = some v) : writer_query_c4 k (i : Int) x.w q = some ((x.puts (tkAgg v)).w, q) := by
  unfold writer_query_c4
  rw [chk_pos (dec_nonneg i), toNat_cast, h, Option.bind_some, aggregate_w (by omega) (aggE_ok (hq.cs _ (mem_get h))) (hb.cs _ (mem_get h)) (by omega)]; rfl
theorem list_i3_w {k : Nat} {x : PW} (hk : 60405 ≤ k) (hx : x.b.length + tb (tkL [tW w_compute] (q.Compute.map tkAgg)) ≤ 45000000) : writer_list_i3 k x.w ((q.Compute.length : Nat) : Int) q [w_compute] = some ((x.puts (tkL [tW w_compute] (q.Compute.map tkAgg))).w, q) := by
  have hl := hb.c
  have hW : tb [tW w_compute] ≤ 20 := by decide
  unfold writer_list_i3
  refine wlist (fun k x i => writer_list_i3_l1 k ((q.Compute.length : Nat) : Int) [w_compute] (toI x.b) x.k 0 x.s 0 q.Variables q.Relations q.Absences q.Slots.From q.Slots.To q.Group q.Compute q.Order q.Limit i) (fun x => (x.w, q)) [tW w_compute] (q.Compute.map tkAgg) 60100 45000000 (fun k x t hk ht hx => ?_) (fun k x i t hk hi ht hx => ?_) (fun k x hk => ?_) (by rw [List.length_map]; omega) hx
  · obtain ⟨v, hv, rfl⟩ := map_get ht
    have hlt := get_lt hv
    have hp := x.puts_len [tW w_compute]
    have w1 : writer_words k (SWriter.mk (toI x.b) (SToken.mk x.k 0 x.s 0)) [w_compute] = some (x.puts [tW w_compute]).w := words_eq (l := [w_compute]) (x := x) (by simp) (by simp; omega) (by show x.b.length + tb [tW w_compute] ≤ _; omega)
    have w2 : writer_query_c4 k 0 (x.puts [tW w_compute]).w (GQuery.mk q.Variables q.Relations q.Absences (GInterval.mk q.Slots.From q.Slots.To) q.Group q.Compute q.Order q.Limit) = some (((x.puts [tW w_compute]).puts (tkAgg v)).w, q) := c4_w hq hb (i := 0) hk (by omega) hv
    simp only [writer_list_i3_l1]
    rw [if_pos (by simp; omega), if_pos (show ((0 : Int) == 0) = true from rfl), w1, Option.bind_some, w2, Option.bind_some, w64_01]
    simp only [w_out, wr_k, w_at, w_s, w_n, PW.puts_append]
  · obtain ⟨v, hv, rfl⟩ := map_get ht
    have hlt := get_lt hv
    have hp := x.put_len (tS wx2c)
    have e1 : (tS wx2c).txt.length = 1 := rfl
    have e2 : wx2c.length = 1 := rfl
    have w1 : writer_sign k (SWriter.mk (toI x.b) (SToken.mk x.k 0 x.s 0)) wx2c = some (x.put (tS wx2c)).w := sign_eq (by omega) (by omega)
    have w2 : writer_query_c4 k (i : Int) (x.put (tS wx2c)).w (GQuery.mk q.Variables q.Relations q.Absences (GInterval.mk q.Slots.From q.Slots.To) q.Group q.Compute q.Order q.Limit) = some (((x.put (tS wx2c)).puts (tkAgg v)).w, q) := c4_w hq hb hk (by omega) hv
    simp only [writer_list_i3_l1]
    rw [if_pos (by simp; omega), if_neg (by simp; omega), w1, Option.bind_some, w2, Option.bind_some, w64_succ (by omega)]
    simp only [w_out, wr_k, w_at, w_s, w_n, PW.puts_cons]
  · simp only [writer_list_i3_l1]
    rw [if_neg (by simp)]; rfl
theorem c5_w {k : Nat} {x : PW} (hk : 60100 ≤ k) (hx : x.b.length ≤ 46000000) {i : Nat} {v : _} (h : q.Order[i]? = some v) : writer_query_c5 k (i : Int) x.w q = some ((x.puts (tkOrd v)).w, q) := by
  unfold writer_query_c5
  obtain ⟨o1, o2⟩ := order_w (x := x) (k := k) (by omega) (hq.os _ (mem_get h)) (by omega)
  rw [chk_pos (dec_nonneg i), toNat_cast, h, Option.bind_some, o1, Option.bind_some, chk_pos (dec_nonneg i), Option.bind_some]
  cases hd : v.Descending with
  | true => rw [if_pos rfl, o2 hd]; rfl
  | false => rw [if_neg (by simp)]; unfold tkOrd; rw [hd]; simp
theorem list_i4_w {k : Nat} {x : PW} (hk : 60405 ≤ k) (hx : x.b.length + tb (tkL [tW w_order, tW w_by] (q.Order.map tkOrd)) ≤ 45000000) : writer_list_i4 k x.w ((q.Order.length : Nat) : Int) q [w_order, w_by] = some ((x.puts (tkL [tW w_order, tW w_by] (q.Order.map tkOrd))).w, q) := by
  have hl := hb.o
  have hW : tb [tW w_order, tW w_by] ≤ 20 := by decide
  unfold writer_list_i4
  refine wlist (fun k x i => writer_list_i4_l1 k ((q.Order.length : Nat) : Int) [w_order, w_by] (toI x.b) x.k 0 x.s 0 q.Variables q.Relations q.Absences q.Slots.From q.Slots.To q.Group q.Compute q.Order q.Limit i) (fun x => (x.w, q)) [tW w_order, tW w_by] (q.Order.map tkOrd) 60100 45000000 (fun k x t hk ht hx => ?_) (fun k x i t hk hi ht hx => ?_) (fun k x hk => ?_) (by rw [List.length_map]; omega) hx
  · obtain ⟨v, hv, rfl⟩ := map_get ht
    have hlt := get_lt hv
    have hp := x.puts_len [tW w_order, tW w_by]
    have w1 : writer_words k (SWriter.mk (toI x.b) (SToken.mk x.k 0 x.s 0)) [w_order, w_by] = some (x.puts [tW w_order, tW w_by]).w := words_eq (l := [w_order, w_by]) (x := x) (by simp) (by simp; omega) (by show x.b.length + tb [tW w_order, tW w_by] ≤ _; omega)
    have w2 : writer_query_c5 k 0 (x.puts [tW w_order, tW w_by]).w (GQuery.mk q.Variables q.Relations q.Absences (GInterval.mk q.Slots.From q.Slots.To) q.Group q.Compute q.Order q.Limit) = some (((x.puts [tW w_order, tW w_by]).puts (tkOrd v)).w, q) := c5_w hq hb (i := 0) hk (by omega) hv
    simp only [writer_list_i4_l1]
    rw [if_pos (by simp; omega), if_pos (show ((0 : Int) == 0) = true from rfl), w1, Option.bind_some, w2, Option.bind_some, w64_01]
    simp only [w_out, wr_k, w_at, w_s, w_n, PW.puts_append]
  · obtain ⟨v, hv, rfl⟩ := map_get ht
    have hlt := get_lt hv
    have hp := x.put_len (tS wx2c)
    have e1 : (tS wx2c).txt.length = 1 := rfl
    have e2 : wx2c.length = 1 := rfl
    have w1 : writer_sign k (SWriter.mk (toI x.b) (SToken.mk x.k 0 x.s 0)) wx2c = some (x.put (tS wx2c)).w := sign_eq (by omega) (by omega)
    have w2 : writer_query_c5 k (i : Int) (x.put (tS wx2c)).w (GQuery.mk q.Variables q.Relations q.Absences (GInterval.mk q.Slots.From q.Slots.To) q.Group q.Compute q.Order q.Limit) = some (((x.put (tS wx2c)).puts (tkOrd v)).w, q) := c5_w hq hb hk (by omega) hv
    simp only [writer_list_i4_l1]
    rw [if_pos (by simp; omega), if_neg (by simp; omega), w1, Option.bind_some, w2, Option.bind_some, w64_succ (by omega)]
    simp only [w_out, wr_k, w_at, w_s, w_n, PW.puts_cons]
  · simp only [writer_list_i4_l1]
    rw [if_neg (by simp)]; rfl
theorem c2_get {i : Nat} {t : List PTk} (h : (q.Relations.map tkRel ++ q.Absences.map tkAbs)[i]? = some t) {k : Nat} {x : PW} (hk : 60100 ≤ k) (hx : x.b.length ≤ 46000000) : writer_query_c2 k (i : Int) q x.w = some (q, (x.puts t).w) := by
  have hl := hb.r
  have hl2 := hb.a
  unfold writer_query_c2
  by_cases hi : i < q.Relations.length
  · rw [List.getElem?_append_left (by rw [List.length_map]; exact hi)] at h
    obtain ⟨r, hr, rfl⟩ := map_get h
    obtain ⟨b1, b2⟩ := hb.rs _ (mem_get hr)
    have hk1 := (hq.rs _ (mem_get hr)).1
    obtain ⟨g1, g2, g3⟩ := relN_get hk1
    have w1 := relation_w (x := x) (k := k) (r := r) (by omega) b1 b2 hk1 (by omega)
    rw [if_neg (by simp; omega), chk_pos (dec_nonneg i), toNat_cast, hr, Option.bind_some, chk_pos g1, g2, Option.bind_some, w1]; rfl
  · rw [List.getElem?_append_right (by rw [List.length_map]; omega), List.length_map] at h
    obtain ⟨a, ha, rfl⟩ := map_get h
    obtain ⟨b1, b2, b3⟩ := hb.ab _ (mem_get ha)
    obtain ⟨a1, a2, a3, a4⟩ := hq.ab _ (mem_get ha)
    have hlt := get_lt ha
    have e : w64 ((i : Int) - ((q.Relations.length : Nat) : Int)) = ((i - q.Relations.length : Nat) : Int) := by rw [w64_id (by omega) (by omega)]; omega
    rw [if_pos (by simp; omega), e, chk_pos (dec_nonneg _), toNat_cast, ha, Option.bind_some, absence_w (by omega) a2 b1 b2 b3 a3 (by omega)]; rfl
theorem list_i1_w {k : Nat} {x : PW} (hk : 60705 ≤ k) (hx : x.b.length + tb (tkL [tW w_where] (q.Relations.map tkRel ++ q.Absences.map tkAbs)) ≤ 45000000) : writer_list_i1 k x.w (w64 (((q.Relations.length : Nat) : Int) + ((q.Absences.length : Nat) : Int))) q [w_where] = some ((x.puts (tkL [tW w_where] (q.Relations.map tkRel ++ q.Absences.map tkAbs))).w, q) := by
  have hl := hb.r
  have hl2 := hb.a
  have hlen : ((q.Relations.map tkRel ++ q.Absences.map tkAbs)).length = q.Relations.length + q.Absences.length := by rw [List.length_append, List.length_map, List.length_map]
  have en : w64 (((q.Relations.length : Nat) : Int) + ((q.Absences.length : Nat) : Int)) = ((((q.Relations.map tkRel ++ q.Absences.map tkAbs)).length : Nat) : Int) := by rw [w64_id (by omega) (by omega), hlen]; omega
  have hW : tb [tW w_where] ≤ 20 := by decide
  rw [en]
  unfold writer_list_i1
  refine wlist (fun k x i => writer_list_i1_l1 k ((((q.Relations.map tkRel ++ q.Absences.map tkAbs)).length : Nat) : Int) [w_where] (toI x.b) x.k 0 x.s 0 q.Variables q.Relations q.Absences q.Slots.From q.Slots.To q.Group q.Compute q.Order q.Limit i) (fun x => (x.w, q)) [tW w_where] (q.Relations.map tkRel ++ q.Absences.map tkAbs) 60100 45000000 (fun k x t hk ht hx => ?_) (fun k x i t hk hi ht hx => ?_) (fun k x hk => ?_) (by omega) hx
  · have hlt := get_lt ht
    have hp := x.puts_len [tW w_where]
    have w1 : writer_words k (SWriter.mk (toI x.b) (SToken.mk x.k 0 x.s 0)) [w_where] = some (x.puts [tW w_where]).w := words_eq (l := [w_where]) (x := x) (by simp) (by simp; omega) (by show x.b.length + tb [tW w_where] ≤ _; omega)
    have w2 : writer_query_c2 k 0 (GQuery.mk q.Variables q.Relations q.Absences (GInterval.mk q.Slots.From q.Slots.To) q.Group q.Compute q.Order q.Limit) (x.puts [tW w_where]).w = some (q, ((x.puts [tW w_where]).puts t).w) := c2_get hq hb (i := 0) ht hk (by omega)
    simp only [writer_list_i1_l1]
    rw [if_pos (by simp only [decide_eq_true_eq]; omega), if_pos (show ((0 : Int) == 0) = true from rfl), w1, Option.bind_some, w2, Option.bind_some, w64_01]
    simp only [w_out, wr_k, w_at, w_s, w_n, PW.puts_append]
  · have hlt := get_lt ht
    have hp := x.put_len (tS wx2c)
    have e1 : (tS wx2c).txt.length = 1 := rfl
    have e2 : wx2c.length = 1 := rfl
    have w1 : writer_sign k (SWriter.mk (toI x.b) (SToken.mk x.k 0 x.s 0)) wx2c = some (x.put (tS wx2c)).w := sign_eq (by omega) (by omega)
    have w2 : writer_query_c2 k (i : Int) (GQuery.mk q.Variables q.Relations q.Absences (GInterval.mk q.Slots.From q.Slots.To) q.Group q.Compute q.Order q.Limit) (x.put (tS wx2c)).w = some (q, ((x.put (tS wx2c)).puts t).w) := c2_get hq hb ht hk (by omega)
    simp only [writer_list_i1_l1]
    rw [if_pos (by simp only [decide_eq_true_eq]; omega), if_neg (by simp; omega), w1, Option.bind_some, w2, Option.bind_some, w64_succ (by omega)]
    simp only [w_out, wr_k, w_at, w_s, w_n, PW.puts_cons]
  · simp only [writer_list_i1_l1]
    rw [if_neg (by simp)]; rfl
theorem tb_q : (tb (tkL [tW w_find] (q.Variables.map tkVar)) ≤ 18200000 ∧ tb (tkL [tW w_where] (q.Relations.map tkRel ++ q.Absences.map tkAbs)) ≤ 18700000) ∧ (tb (tkSlots q.Slots) ≤ 100 ∧ tb (tkL [tW w_group, tW w_by] (q.Group.map tkCol)) ≤ 500000) ∧ (tb (tkL [tW w_compute] (q.Compute.map tkAgg)) ≤ 550000 ∧ tb (tkL [tW w_order, tW w_by] (q.Order.map tkOrd)) ≤ 20000) ∧ tb (tkLimit q.Limit) ≤ 50 := by
  have b1 := hb.v
  have b2 := hb.r
  have b3 := hb.a
  have b4 := hb.g
  have b5 := hb.c
  have b6 := hb.o
  have t1 := tb_L [tW w_find] (q.Variables.map tkVar) 60310 (fun t ht => by obtain ⟨v, hv, rfl⟩ := List.mem_map.1 ht; exact tb_var (hb.vs _ hv).1 (hb.vs _ hv).2)
  have t2 := tb_L [] (q.Relations.map tkRel) 700 (fun t ht => by obtain ⟨v, hv, rfl⟩ := List.mem_map.1 ht; exact tb_rel (hb.rs _ hv).1 (hb.rs _ hv).2 (hq.rs _ hv).1)
  have t3 := tb_flat_le (q.Relations.map tkRel) 700 (fun t ht => by obtain ⟨v, hv, rfl⟩ := List.mem_map.1 ht; exact tb_rel (hb.rs _ hv).1 (hb.rs _ hv).2 (hq.rs _ hv).1)
  have t3' := tb_flat_le (q.Absences.map tkAbs) 60700 (fun t ht => by obtain ⟨v, hv, rfl⟩ := List.mem_map.1 ht; exact tb_abs (hb.ab _ hv).1 (hb.ab _ hv).2.1 (hb.ab _ hv).2.2 (hq.ab _ hv).2.2.1)
  have t4 := tb_L [tW w_group, tW w_by] (q.Group.map tkCol) 1500 (fun t ht => by obtain ⟨v, hv, rfl⟩ := List.mem_map.1 ht; exact tb_col (hb.gs _ hv))
  have t5 := tb_L [tW w_compute] (q.Compute.map tkAgg) 1700 (fun t ht => by obtain ⟨v, hv, rfl⟩ := List.mem_map.1 ht; exact tb_agg (aggE_ok (hq.cs _ hv)) (hb.cs _ hv))
  have t6 := tb_L [tW w_order, tW w_by] (q.Order.map tkOrd) 50 (fun t ht => by obtain ⟨v, hv, rfl⟩ := List.mem_map.1 ht; exact tb_ord v)
  rw [List.length_map] at t1 t2 t3 t3' t4 t5 t6
  have n1 := tb_num q.Slots.From
  have n2 := tb_num q.Slots.To
  have n3 := tb_num q.Limit
  have w1 : tb [tW w_find] ≤ 20 := by decide
  have w2 : tb [tW w_where] ≤ 20 := by decide
  have w3 : tb [tW w_group, tW w_by] ≤ 20 := by decide
  have w4 : tb [tW w_compute] ≤ 20 := by decide
  have w5 : tb [tW w_order, tW w_by] ≤ 20 := by decide
  have whole : tb (tkL [tW w_where] (q.Relations.map tkRel ++ q.Absences.map tkAbs)) ≤ 20 + tb ((q.Relations.map tkRel).flatMap fun y => tS wx2c :: y) + tb ((q.Absences.map tkAbs).flatMap fun y => tS wx2c :: y) := by
    have : ∀ l : List (List PTk), tb (tkL [tW w_where] l) ≤ 20 + tb (l.flatMap fun y => tS wx2c :: y) := by
      intro l
      cases l with
      | nil => simp [tkL, tb]
      | cons t l =>
        have e : (tS wx2c :: t) ++ (l.flatMap fun y => tS wx2c :: y) = tS wx2c :: (t ++ l.flatMap fun y => tS wx2c :: y) := rfl
        rw [tkL, List.flatMap_cons, e, tb_append, tb_append, tb_cons (tS wx2c), tb_append]; omega
    have h := this (q.Relations.map tkRel ++ q.Absences.map tkAbs)
    rw [List.flatMap_append, tb_append] at h
    omega
  refine ⟨⟨by omega, by omega⟩, ⟨?_, by omega⟩, ⟨by omega, by omega⟩, ?_⟩
  · unfold tkSlots
    have l1 : w_slots.length = 5 := rfl
    have l2 : wx2e2e.length = 2 := rfl
    split
    · rw [tb_cons, tb_append, tb_cons]; simp only [tW, tS]; omega
    · simp [tb]
  · unfold tkLimit
    have l1 : w_limit.length = 5 := rfl
    split
    · rw [tb_cons]; simp only [tW]; omega
    · simp [tb]
theorem query_w {k : Nat} (hk : 60710 ≤ k) : writer_query k PW.o.w q = some (PW.o.puts (tkQ q)).w := by
  obtain ⟨⟨t1, t2⟩, ⟨t3, t4⟩, ⟨t5, t6⟩, t7⟩ := tb_q hq hb
  have hsl := hq.sl
  unfold slotB at hsl
  simp only [Bool.or_eq_false_iff, decide_eq_false_iff_not] at hsl
  have hli := hq.li
  have l0 : PW.o.b.length = 0 := rfl
  unfold writer_query tkQ
  have p1 := PW.o.puts_len (tkL [tW w_find] (q.Variables.map tkVar))
  simp only [PW.puts_append]
  rw [list_w hq hb (by omega) (by omega), Option.bind_some]
  generalize PW.o.puts (tkL [tW w_find] (q.Variables.map tkVar)) = x1 at p1 ⊢
  have p2 := x1.puts_len (tkL [tW w_where] (q.Relations.map tkRel ++ q.Absences.map tkAbs))
  have i1 : writer_list_i1 k (x1.w, q).1 (w64 ((((x1.w, q).2.Relations.length : Nat) : Int) + (((x1.w, q).2.Absences.length : Nat) : Int))) (x1.w, q).2 [w_where] = _ := list_i1_w hq hb (by omega) (by omega)
  rw [i1, Option.bind_some]
  generalize x1.puts (tkL [tW w_where] (q.Relations.map tkRel ++ q.Absences.map tkAbs)) = x2 at p2 ⊢
  have hz : ((q.Slots.From == 0) && ((q.Slots.To == 0) && true)) = eqInt q.Slots ⟨0, 0⟩ := rfl
  simp only [hz, w_out, wr_k, w_at, w_s, w_n]
  have j1 : ∀ y : PW, y.b.length ≤ x2.b.length + tb (tkSlots q.Slots) → writer_query_j1 k (x2.w, q) (toI y.b) y.k 0 y.s 0 = some ((((y.puts (tkL [tW w_group, tW w_by] (q.Group.map tkCol))).puts (tkL [tW w_compute] (q.Compute.map tkAgg))).puts (tkL [tW w_order, tW w_by] (q.Order.map tkOrd))).puts (tkLimit q.Limit)).w := by
    intro y hy
    unfold writer_query_j1
    have p3 := y.puts_len (tkL [tW w_group, tW w_by] (q.Group.map tkCol))
    have i2 : writer_list_i2 k (SWriter.mk (toI y.b) (SToken.mk y.k 0 y.s 0)) ((q.Group.length : Nat) : Int) q [w_group, w_by] = _ := list_i2_w (x := y) hq hb (by omega) (by omega)
    simp only [i2, Option.bind_some]
    generalize y.puts (tkL [tW w_group, tW w_by] (q.Group.map tkCol)) = x3 at p3 ⊢
    have p4 := x3.puts_len (tkL [tW w_compute] (q.Compute.map tkAgg))
    rw [list_i3_w hq hb (by omega) (by omega), Option.bind_some]
    generalize x3.puts (tkL [tW w_compute] (q.Compute.map tkAgg)) = x4 at p4 ⊢
    have p5 := x4.puts_len (tkL [tW w_order, tW w_by] (q.Order.map tkOrd))
    rw [list_i4_w hq hb (by omega) (by omega), Option.bind_some]
    generalize x4.puts (tkL [tW w_order, tW w_by] (q.Order.map tkOrd)) = x5 at p5 ⊢
    have l5 : w_limit.length = 5 := rfl
    have p6 : (x5.put (tW w_limit)).b.length ≤ x5.b.length + 1 + 5 := x5.put_len (tW w_limit)
    unfold tkLimit
    simp only [word1_eq (s := w_limit) (x := x5) (k := k) (by omega) (by omega), Option.bind_some, number_eq (x := x5.put (tW w_limit)) (n := q.Limit) (k := k) (by omega) (by omega) (by omega) (by omega)]
    cases (q.Limit != 0) <;> rfl
  cases he : eqInt q.Slots ⟨0, 0⟩ with
  | true =>
    have e : tkSlots q.Slots = [] := by unfold tkSlots; rw [he]; rfl
    simp only [Bool.not_true, Bool.false_eq_true, if_false]
    rw [e]
    exact j1 x2 (by omega)
  | false =>
    have e : tkSlots q.Slots = tW w_slots :: (numT q.Slots.From ++ tS wx2e2e :: numT q.Slots.To) := by unfold tkSlots; rw [he]; rfl
    rw [e] at j1 t3 ⊢
    simp only [Bool.not_false, if_true]
    have l5 : w_slots.length = 5 := rfl
    have l2 : wx2e2e.length = 2 := rfl
    have n1 := tb_num q.Slots.From
    have n2 := tb_num q.Slots.To
    have q1 : (x2.put (tW w_slots)).b.length ≤ x2.b.length + 1 + 5 := x2.put_len (tW w_slots)
    have q2 := (x2.put (tW w_slots)).puts_len (numT q.Slots.From)
    have q3 : (((x2.put (tW w_slots)).puts (numT q.Slots.From)).put (tS wx2e2e)).b.length ≤ _ + 1 + 2 := PW.put_len _ (tS wx2e2e)
    have q5 := x2.puts_len (tW w_slots :: (numT q.Slots.From ++ tS wx2e2e :: numT q.Slots.To))
    rw [word1_eq (by omega) (by omega), Option.bind_some, number_eq (by omega) (by omega) (by omega) (by omega), Option.bind_some, sign_eq (by omega) (by omega), Option.bind_some, number_eq (by omega) (by omega) (by omega) (by omega), Option.bind_some]
    have q4 : (((x2.put (tW w_slots)).puts (numT q.Slots.From)).put (tS wx2e2e)).puts (numT q.Slots.To) = x2.puts (tW w_slots :: (numT q.Slots.From ++ tS wx2e2e :: numT q.Slots.To)) := by
      simp only [PW.puts_cons, PW.puts_append]
    rw [q4]
    exact j1 _ q5
end
def endQ (l : Int × Str) : Prop := l.1 = 1 ∨ l.1 = 2 ∨ l.1 = 3 ∨ (l.1 = 4 ∧ (l.2 = wx29 ∨ l.2 = wx7d))
theorem endK.q {l : Int × Str} (h : endK l) : endQ l := by
  rcases h with h | h | h | ⟨h, h2⟩
  · exact .inl h
  · exact .inr (.inl h)
  · exact .inr (.inr (.inl h))
  · exact .inr (.inr (.inr ⟨h, .inl h2⟩))
theorem spB_1 (s : Str) (bk : Int) (sb : Str) : spB 1 s bk sb = spB 1 [] bk sb := by simp [spB]
theorem spB_2 (s : Str) (bk : Int) (sb : Str) : spB 2 s bk sb = spB 2 [] bk sb := by simp [spB]
theorem spB_3 (s : Str) (bk : Int) (sb : Str) : spB 3 s bk sb = spB 3 [] bk sb := by simp [spB]
theorem sep_q {l : Int × Str} (h : endQ l) {t : PTk} {b : Bool} (h1 : spB 1 [] t.k t.s = b) (h2 : spB 2 [] t.k t.s = b) (h3 : spB 3 [] t.k t.s = b) (h4 : spB 4 wx29 t.k t.s = b) (h5 : spB 4 wx7d t.k t.s = b) : sepB l t = if b = true then [32] else [] := by
  obtain ⟨a, s⟩ := l
  unfold sepB
  rcases (h : a = 1 ∨ a = 2 ∨ a = 3 ∨ (a = 4 ∧ (s = wx29 ∨ s = wx7d))) with rfl | rfl | rfl | ⟨rfl, rfl | rfl⟩
  · rw [spB_1, h1]
  · rw [spB_2, h2]
  · rw [spB_3, h3]
  · rw [h4]
  · rw [h5]
theorem sep_qw {l : Int × Str} (h : endQ l) (s : Str) : sepB l (tW s) = [32] := by
  refine (sep_q h (b := true) ?_ ?_ ?_ ?_ ?_).trans rfl <;> simp [spB, tW] <;> decide
theorem sep_qc {l : Int × Str} (h : endQ l) : sepB l (tS wx2c) = [] := (sep_q h (b := false) rfl rfl rfl rfl rfl).trans rfl
theorem sep_comma (t : PTk) : sepB (4, wx2c) t = [32] := by
  unfold sepB spB
  simp
theorem sep_1 (s : Str) {t : PTk} {b : Bool} (h : spB 1 [] t.k t.s = b) : sepB (1, s) t = if b = true then [32] else [] := by
  unfold sepB; rw [spB_1, h]
def IB (ts : List PTk) : Prop := (∃ t r, ts = t :: r ∧ (t.k = 1 ∨ t.k = 2)) ∧ ∀ l, endQ (lst l ts)
theorem ren_of (l : Int × Str) {ts : List PTk} (h : ∃ t r, ts = t :: r ∧ (t.k = 1 ∨ t.k = 2)) (hs : ∀ t : PTk, t.k = 1 ∨ t.k = 2 → sepB l t = [32]) : ren l ts = 32 :: txt0 ts := by
  obtain ⟨t, r, rfl, ht⟩ := h
  rw [ren_cons, hs t ht]; rfl
theorem ren_flat (l : List (List PTk)) : ∀ m, endQ m → (∀ t ∈ l, IB t) → ren m (l.flatMap fun y => tS wx2c :: y) = (l.map txt0).flatMap (fun y => wx2c20 ++ y) ∧ endQ (lst m (l.flatMap fun y => tS wx2c :: y)) := by
  induction l with
  | nil => exact fun m h _ => ⟨rfl, h⟩
  | cons t l ih =>
    intro m hm h
    have ht := h t List.mem_cons_self
    have e : (t :: l).flatMap (fun y => tS wx2c :: y) = (tS wx2c :: t) ++ l.flatMap fun y => tS wx2c :: y := rfl
    obtain ⟨i1, i2⟩ := ih (lst m (tS wx2c :: t)) (ht.2 _) fun x hx => h x (List.mem_cons_of_mem _ hx)
    rw [e, ren_append, lst_append]
    refine ⟨?_, i2⟩
    rw [i1, List.map_cons, List.flatMap_cons]
    congr 1
    have e2 : ren m (tS wx2c :: t) = sepB m (tS wx2c) ++ wx2c ++ ren (4, wx2c) t := rfl
    rw [e2, sep_qc hm, ren_of (4, wx2c) ht.1 fun t _ => sep_comma t]
    rfl
def lstT (h : Str) : List Str → Str
  | [] => []
  | x :: l => h ++ (x ++ l.flatMap fun y => wx2c20 ++ y)
def wtxt (ws : List Str) : Str := ws.flatMap fun s => 32 :: s
theorem ren_ws (ws : List Str) : ∀ m, endQ m → ren m (ws.map tW) = wtxt ws ∧ endQ (lst m (ws.map tW)) := by
  induction ws with
  | nil => exact fun m h => ⟨rfl, h⟩
  | cons s ws ih =>
    intro m hm
    obtain ⟨i1, i2⟩ := ih (1, unp s) (.inl rfl)
    refine ⟨?_, i2⟩
    have e : ren m ((s :: ws).map tW) = sepB m (tW s) ++ s ++ ren (1, unp s) (ws.map tW) := rfl
    rw [e, i1, sep_qw hm]
    simp [wtxt]
theorem lst_ws (ws : List Str) (h : ws ≠ []) : ∀ m, ∃ s, lst m (ws.map tW) = (1, s) := by
  induction ws with
  | nil => exact absurd rfl h
  | cons s ws ih =>
    intro m
    cases ws with
    | nil => exact ⟨_, rfl⟩
    | cons s' ws => exact ih (by simp) (1, unp s)
theorem sep_after (s : Str) (t : PTk) (h : t.k = 1 ∨ t.k = 2) : sepB (1, s) t = [32] := by
  refine (sep_1 s (b := true) ?_).trans rfl
  rcases h with h | h <;> rw [h] <;> simp [spB]
theorem ren_L (ws : List Str) (hw : ws ≠ []) (l : List (List PTk)) {m : Int × Str} (hm : endQ m) (h : ∀ t ∈ l, IB t) : ren m (tkL (ws.map tW) l) = lstT (wtxt ws ++ [32]) (l.map txt0) ∧ endQ (lst m (tkL (ws.map tW) l)) := by
  cases l with
  | nil => exact ⟨rfl, hm⟩
  | cons t l =>
    have ht := h t List.mem_cons_self
    obtain ⟨s, hs⟩ := lst_ws ws hw m
    obtain ⟨w1, w2⟩ := ren_ws ws m hm
    obtain ⟨f1, f2⟩ := ren_flat l (lst (lst m (ws.map tW)) t) (ht.2 _) fun x hx => h x (List.mem_cons_of_mem _ hx)
    rw [tkL, ren_append, ren_append, lst_append, lst_append, w1, f1]
    refine ⟨?_, f2⟩
    rw [hs, ren_of (1, s) ht.1 fun t ht => sep_after s t ht]
    simp [lstT]
theorem txt0_L (l : List (List PTk)) (hl : l ≠ []) (h : ∀ t ∈ l, IB t) : txt0 (tkL [tW w_find] l) = lstT wx66696e6420 (l.map txt0) ∧ endQ (lst (0, w_0) (tkL [tW w_find] l)) := by
  cases l with
  | nil => exact absurd rfl hl
  | cons t l =>
    have ht := h t List.mem_cons_self
    obtain ⟨f1, f2⟩ := ren_flat l (lst (1, w_find) t) (ht.2 _) fun x hx => h x (List.mem_cons_of_mem _ hx)
    have e : txt0 (tkL [tW w_find] (t :: l)) = w_find ++ ren (1, w_find) (t ++ l.flatMap fun y => tS wx2c :: y) := rfl
    have e2 : lst (0, w_0) (tkL [tW w_find] (t :: l)) = lst (1, w_find) (t ++ l.flatMap fun y => tS wx2c :: y) := rfl
    rw [e, e2, ren_append, lst_append, f1]
    refine ⟨?_, f2⟩
    rw [ren_of (1, w_find) ht.1 fun t ht => sep_after w_find t ht]
    simp [lstT]
theorem txt_var {v : GVariable} (h : allP okN v.Where) : txt0 (tkVar v) = v.Name ++ wx7b ++ txt0 (tkP v.Where) ++ wx7d ∧ ∀ l, endQ (lst l (tkVar v)) := by
  have hb := tkP_BE _ h
  obtain ⟨⟨t, r, ht, hk, _⟩, hl⟩ := hb
  have e1 : sepB (1, unp v.Name) (tS wx7b) = [] := (sep_1 _ (b := false) rfl).trans rfl
  have e2 : sepB (4, wx7b) t = [] := by
    unfold sepB spB
    rcases hk with h | ⟨h, h2⟩
    · rw [h]; rfl
    · rw [h, h2]; rfl
  have e3 : ren (4, wx7b) (tkP v.Where) = txt0 (tkP v.Where) := by rw [ht, ren_cons, e2]; rfl
  have e4 : sepB (lst (4, wx7b) (tkP v.Where)) (tS wx7d) = [] := (sep_q (hl _).q (b := false) rfl rfl rfl rfl rfl).trans rfl
  refine ⟨?_, fun l => ?_⟩
  · have e : txt0 (tkVar v) = v.Name ++ (sepB (1, unp v.Name) (tS wx7b) ++ wx7b ++ ren (4, wx7b) (tkP v.Where ++ [tS wx7d])) := rfl
    have e5 : ren (lst (4, wx7b) (tkP v.Where)) [tS wx7d] = sepB (lst (4, wx7b) (tkP v.Where)) (tS wx7d) ++ wx7d ++ [] := rfl
    rw [e, e1, ren_append, e3, e5, e4]
    simp
  · have e : lst l (tkVar v) = lst (4, wx7b) (tkP v.Where ++ [tS wx7d]) := rfl
    rw [e, lst_append]
    exact .inr (.inr (.inr ⟨rfl, .inr rfl⟩))
theorem IB_var {v : GVariable} (h : allP okN v.Where) : IB (tkVar v) := ⟨⟨_, _, rfl, .inl rfl⟩, (txt_var h).2⟩
theorem txt_rel (r : GRelation) : txt0 (tkRel r) = r.A ++ wx20 ++ relN r.Kind ++ wx20 ++ r.B ∧ IB (tkRel r) := by
  refine ⟨?_, ⟨_, _, rfl, .inl rfl⟩, fun l => .inl rfl⟩
  have e : txt0 (tkRel r) = r.A ++ (sepB (1, unp r.A) (tW (relN r.Kind)) ++ relN r.Kind ++ (sepB (1, unp (relN r.Kind)) (tW r.B) ++ r.B ++ [])) := rfl
  rw [e, sep_after _ _ (.inl rfl), sep_after _ _ (.inl rfl)]
  simp
theorem txt_abs {a : GAbsence} (h : allP okN a.Variable.Where) : txt0 (tkAbs a) = (if a.First = true then wx6e6f7420 ++ txt0 (tkVar a.Variable) ++ (wx20 ++ relN a.Kind ++ wx20) ++ a.Other else a.Other ++ (wx20 ++ relN a.Kind ++ wx20) ++ (wx6e6f7420 ++ txt0 (tkVar a.Variable))) ∧ IB (tkAbs a) := by
  obtain ⟨v1, v2⟩ := IB_var h
  unfold tkAbs
  cases a.First with
  | true =>
    simp only [if_true]
    refine ⟨?_, ⟨_, _, rfl, .inl rfl⟩, fun l => ?_⟩
    · have e : txt0 (tW w_not :: (tkVar a.Variable ++ [tW (relN a.Kind), tW a.Other])) = w_not ++ ren (1, w_not) (tkVar a.Variable ++ [tW (relN a.Kind), tW a.Other]) := rfl
      have e2 : ren (lst (1, w_not) (tkVar a.Variable)) [tW (relN a.Kind), tW a.Other] = sepB (lst (1, w_not) (tkVar a.Variable)) (tW (relN a.Kind)) ++ relN a.Kind ++ (sepB (1, unp (relN a.Kind)) (tW a.Other) ++ a.Other ++ []) := rfl
      rw [e, ren_append, ren_of _ v1 (fun t ht => sep_after _ t ht), e2, sep_qw (v2 _), sep_after _ _ (.inl rfl)]
      simp
    · have e : tW w_not :: (tkVar a.Variable ++ [tW (relN a.Kind), tW a.Other]) = (tW w_not :: tkVar a.Variable) ++ [tW (relN a.Kind), tW a.Other] := rfl
      rw [e, lst_append]; exact .inl rfl
  | false =>
    simp only [Bool.false_eq_true, if_false]
    refine ⟨?_, ⟨_, _, rfl, .inl rfl⟩, fun l => v2 (1, w_not)⟩
    have e : txt0 (tW a.Other :: tW (relN a.Kind) :: tW w_not :: tkVar a.Variable) = a.Other ++ (sepB (1, unp a.Other) (tW (relN a.Kind)) ++ relN a.Kind ++ (sepB (1, unp (relN a.Kind)) (tW w_not) ++ w_not ++ ren (1, w_not) (tkVar a.Variable))) := rfl
    rw [e, ren_of _ v1 (fun t ht => sep_after _ t ht), sep_after _ _ (.inl rfl), sep_after _ _ (.inl rfl)]
    simp
theorem txt_col (c : GColumn) : txt0 (tkCol c) = (if (c.Field == w_attr) = true then c.Var ++ wx2e617474722e ++ (labT c.Key).txt else c.Var ++ wx2e ++ c.Field) ∧ IB (tkCol c) := by
  have e1 : sepB (1, unp c.Var) (tS wx2e) = [] := (sep_1 _ (b := false) rfl).trans rfl
  refine ⟨?_, ⟨_, _, rfl, .inl rfl⟩, fun l => ?_⟩
  · have e : txt0 (tkCol c) = c.Var ++ (sepB (1, unp c.Var) (tS wx2e) ++ wx2e ++ ren (4, wx2e) (pathT c.Field c.Key)) := rfl
    rw [e, e1]
    unfold pathT
    split
    · rename_i h
      have hf := eq_of_beq h
      have e2 : ren (4, wx2e) [tW c.Field, tS wx2e, labT c.Key] = sepB (4, wx2e) (tW c.Field) ++ c.Field ++ (sepB (1, unp c.Field) (tS wx2e) ++ wx2e ++ (sepB (4, wx2e) (labT c.Key) ++ (labT c.Key).txt ++ [])) := rfl
      have e3 : sepB (1, unp c.Field) (tS wx2e) = [] := (sep_1 _ (b := false) rfl).trans rfl
      have e4 : sepB (4, wx2e) (labT c.Key) = [] := by
        unfold labT
        split <;> rfl
      rw [e2, e3, e4, hf]
      have e5 : sepB (4, wx2e) (tW w_attr) = [] := rfl
      rw [e5]
      simp
    · have e2 : ren (4, wx2e) [tW c.Field] = sepB (4, wx2e) (tW c.Field) ++ c.Field ++ [] := rfl
      have e5 : sepB (4, wx2e) (tW c.Field) = [] := rfl
      rw [e2, e5]
      simp
  · exact (pathT_lst c.Field c.Key _).q
theorem numT_pos {n : Int} (h : 0 ≤ n) : numT n = [tN n] := by
  unfold numT
  rw [if_neg (by simp; omega)]
theorem txt_agg {a : GAggregate} (h : AggOk a) : txt0 (tkAgg a) = (if (a.Kind == 7) = true then aggN a.Kind ++ wx28 ++ txt0 (numT a.Q.Num) ++ wx2f ++ txt0 (numT a.Q.Den) ++ wx2c20 ++ txt0 (tkCol a.Column) ++ wx29
    else if decide (a.Kind > 3) = true then aggN a.Kind ++ wx28 ++ txt0 (tkCol a.Column) ++ wx29 else aggN a.Kind) ∧ IB (tkAgg a) := by
  obtain ⟨⟨ct, cr, hc, hk⟩, cl⟩ := (txt_col a.Column).2
  have hop : ∀ s, sepB (1, s) tOp = [] := fun s => (sep_1 s (b := false) rfl).trans rfl
  have c0 : ∃ r, tkCol a.Column = tW a.Column.Var :: r := ⟨_, rfl⟩
  have close : ∀ l, ren (lst l (tkCol a.Column)) [tS wx29] = wx29 := fun l => by
    have e : ren (lst l (tkCol a.Column)) [tS wx29] = sepB (lst l (tkCol a.Column)) (tS wx29) ++ wx29 ++ [] := rfl
    have e2 : sepB (lst l (tkCol a.Column)) (tS wx29) = [] := (sep_q (cl l) (b := false) rfl rfl rfl rfl rfl).trans rfl
    rw [e, e2]; rfl
  by_cases h3 : a.Kind ≤ 3
  · have e7 : (a.Kind == 7) = false := by
      rw [beq_eq_false_iff_ne]; omega
    unfold tkAgg
    rw [if_pos (decide_eq_true h3), if_neg (by rw [e7]; simp), if_neg (by simpa using h3)]
    refine ⟨?_, ⟨_, _, rfl, .inl rfl⟩, fun l => .inl rfl⟩
    show aggN a.Kind ++ [] = _
    simp
  by_cases h7 : a.Kind = 7
  · obtain ⟨⟨q1, _⟩, q2, _⟩ := h.q h7
    unfold tkAgg
    rw [if_neg (by simpa using h3), if_pos (by rw [h7]; rfl), if_pos (by rw [h7]; rfl), numT_pos q1, numT_pos (by omega)]
    refine ⟨?_, ⟨_, _, rfl, .inl rfl⟩, fun l => ?_⟩
    · have e : txt0 (tW (aggN a.Kind) :: tOp :: ([tN a.Q.Num] ++ tS wx2f :: ([tN a.Q.Den] ++ tS wx2c :: (tkCol a.Column ++ [tS wx29])))) =
        aggN a.Kind ++ (sepB (1, unp (aggN a.Kind)) tOp ++ wx28 ++ (sepB (4, wx28) (tN a.Q.Num) ++ itoaK a.Q.Num ++ (sepB (2, w_0) (tS wx2f) ++ wx2f ++ (sepB (4, wx2f) (tN a.Q.Den) ++ itoaK a.Q.Den ++ (sepB (2, w_0) (tS wx2c) ++ wx2c ++ ren (4, wx2c) (tkCol a.Column ++ [tS wx29])))))) := rfl
      have s1 : sepB (4, wx28) (tN a.Q.Num) = [] := rfl
      have s2 : sepB (2, w_0) (tS wx2f) = [] := rfl
      have s3 : sepB (4, wx2f) (tN a.Q.Den) = [] := rfl
      have s4 : sepB (2, w_0) (tS wx2c) = [] := rfl
      have n1 : txt0 [tN a.Q.Num] = itoaK a.Q.Num := by show _ ++ [] = _; simp [tN]
      have n2 : txt0 [tN a.Q.Den] = itoaK a.Q.Den := by show _ ++ [] = _; simp [tN]
      rw [e, hop, s1, s2, s3, s4, ren_append, close, ren_of (4, wx2c) ⟨ct, cr, hc, hk⟩ (fun t _ => sep_comma t), n1, n2]
      simp
    · have e : tW (aggN a.Kind) :: tOp :: ([tN a.Q.Num] ++ tS wx2f :: ([tN a.Q.Den] ++ tS wx2c :: (tkCol a.Column ++ [tS wx29]))) = (tW (aggN a.Kind) :: tOp :: ([tN a.Q.Num] ++ tS wx2f :: ([tN a.Q.Den] ++ tS wx2c :: tkCol a.Column))) ++ [tS wx29] := rfl
      rw [e, lst_append]; exact .inr (.inr (.inr ⟨rfl, .inl rfl⟩))
  · unfold tkAgg
    rw [if_neg (by simpa using h3), if_neg (by simpa using h7), if_neg (by simpa using h7), if_pos (by simp; omega)]
    refine ⟨?_, ⟨_, _, rfl, .inl rfl⟩, fun l => ?_⟩
    · have e : txt0 (tW (aggN a.Kind) :: tOp :: (tkCol a.Column ++ [tS wx29])) = aggN a.Kind ++ (sepB (1, unp (aggN a.Kind)) tOp ++ wx28 ++ ren (4, wx28) (tkCol a.Column ++ [tS wx29])) := rfl
      have s1 : ren (4, wx28) (tkCol a.Column) = txt0 (tkCol a.Column) := by
        have : tkCol a.Column = tW a.Column.Var :: (tS wx2e :: pathT a.Column.Field a.Column.Key) := rfl
        rw [this, ren_cons]; rfl
      rw [e, hop, ren_append, close, s1]
      simp
    · have e : tW (aggN a.Kind) :: tOp :: (tkCol a.Column ++ [tS wx29]) = (tW (aggN a.Kind) :: tOp :: tkCol a.Column) ++ [tS wx29] := rfl
      rw [e, lst_append]; exact .inr (.inr (.inr ⟨rfl, .inl rfl⟩))
theorem txt_ord {o : GOrderKey} (h : 0 ≤ o.Index) : txt0 (tkOrd o) = (if o.Descending = true then txt0 (numT o.Index) ++ wx2064657363 else txt0 (numT o.Index)) ∧ IB (tkOrd o) := by
  unfold tkOrd
  rw [numT_pos h]
  cases o.Descending with
  | true =>
    refine ⟨?_, ⟨_, _, rfl, .inr rfl⟩, fun l => .inl rfl⟩
    rw [if_pos rfl, if_pos rfl]
    have e : txt0 ([tN o.Index] ++ [tW w_desc]) = itoaK o.Index ++ (sepB (2, w_0) (tW w_desc) ++ w_desc ++ []) := rfl
    have e2 : txt0 [tN o.Index] = itoaK o.Index ++ [] := rfl
    have e3 : sepB (2, w_0) (tW w_desc) = [32] := rfl
    rw [e, e2, e3]
    simp
  | false =>
    refine ⟨?_, ⟨_, _, rfl, .inr rfl⟩, fun l => .inr (.inl rfl)⟩
    rw [if_neg (by simp), if_neg (by simp), List.append_nil]
theorem ren_slots {s : GInterval} (h0 : 0 ≤ s.From) (h1 : 0 ≤ s.To) {m : Int × Str} (hm : endQ m) : ren m (tkSlots s) = (if eqInt s ⟨0, 0⟩ = true then [] else wx20736c6f747320 ++ txt0 (numT s.From) ++ wx2e2e ++ txt0 (numT s.To)) ∧ endQ (lst m (tkSlots s)) := by
  unfold tkSlots
  cases eqInt s ⟨0, 0⟩ with
  | true => exact ⟨rfl, hm⟩
  | false =>
    rw [numT_pos h0, numT_pos h1]
    refine ⟨?_, .inr (.inl rfl)⟩
    have e : ren m (if (!false) = true then tW w_slots :: ([tN s.From] ++ tS wx2e2e :: [tN s.To]) else []) = sepB m (tW w_slots) ++ w_slots ++ (sepB (1, w_slots) (tN s.From) ++ itoaK s.From ++ (sepB (2, w_0) (tS wx2e2e) ++ wx2e2e ++ (sepB (4, wx2e2e) (tN s.To) ++ itoaK s.To ++ []))) := rfl
    have s1 : sepB (1, w_slots) (tN s.From) = [32] := rfl
    have s2 : sepB (2, w_0) (tS wx2e2e) = [] := rfl
    have s3 : sepB (4, wx2e2e) (tN s.To) = [] := rfl
    have n1 : txt0 [tN s.From] = itoaK s.From ++ [] := rfl
    have n2 : txt0 [tN s.To] = itoaK s.To ++ [] := rfl
    rw [e, sep_qw hm, s1, s2, s3, n1, n2]
    simp
theorem ren_limit {n : Int} (h0 : 0 ≤ n) {m : Int × Str} (hm : endQ m) : ren m (tkLimit n) = (if (n != 0) = true then wx206c696d697420 ++ txt0 (numT n) else []) := by
  unfold tkLimit
  cases (n != 0) with
  | false => rfl
  | true =>
    rw [numT_pos h0]
    have e : ren m (if true = true then tW w_limit :: [tN n] else []) = sepB m (tW w_limit) ++ w_limit ++ (sepB (1, w_limit) (tN n) ++ itoaK n ++ []) := rfl
    have s1 : sepB (1, w_limit) (tN n) = [32] := rfl
    have n1 : txt0 [tN n] = itoaK n ++ [] := rfl
    rw [e, sep_qw hm, s1, n1]
    simp
def finT (q : GQuery) (V W G C O : List Str) : Str := lstT wx66696e6420 V ++ lstT wx20776865726520 W ++ (if eqInt q.Slots ⟨0, 0⟩ = true then [] else wx20736c6f747320 ++ txt0 (numT q.Slots.From) ++ wx2e2e ++ txt0 (numT q.Slots.To)) ++ lstT wx2067726f757020627920 G ++ lstT wx20636f6d7075746520 C ++ lstT wx206f7264657220627920 O ++
  (if (q.Limit != 0) = true then wx206c696d697420 ++ txt0 (numT q.Limit) else [])
def tV (v : GVariable) : Str := txt0 (tkVar v)
def tR (r : GRelation) : Str := txt0 (tkRel r)
def tA (a : GAbsence) : Str := txt0 (tkAbs a)
def tC (c : GColumn) : Str := txt0 (tkCol c)
def tG (a : GAggregate) : Str := txt0 (tkAgg a)
def tO (o : GOrderKey) : Str := txt0 (tkOrd o)
theorem txt_q {q : GQuery} (hq : QOk q) : txt0 (tkQ q) = finT q (q.Variables.map tV) (q.Relations.map tR ++ q.Absences.map tA) (q.Group.map tC) (q.Compute.map tG) (q.Order.map tO) := by
  have hs := hq.sl
  unfold slotB at hs
  simp only [Bool.or_eq_false_iff, decide_eq_false_iff_not] at hs
  obtain ⟨v1, v2⟩ := txt0_L (q.Variables.map tkVar) (by simpa using hq.ne) (fun t ht => by obtain ⟨v, hv, rfl⟩ := List.mem_map.1 ht; exact IB_var (chkP_ok (hq.vs _ hv).2))
  have hne : tkL [tW w_find] (q.Variables.map tkVar) ≠ [] := by
    cases hv : q.Variables.map tkVar with
    | nil => exact absurd (by simpa using hv) hq.ne
    | cons t l => simp [tkL]
  obtain ⟨w1, w2⟩ := ren_L [w_where] (by simp) (q.Relations.map tkRel ++ q.Absences.map tkAbs) v2 (fun t ht => by
    rcases List.mem_append.1 ht with ht | ht
    · obtain ⟨v, hv, rfl⟩ := List.mem_map.1 ht; exact (txt_rel v).2
    · obtain ⟨v, hv, rfl⟩ := List.mem_map.1 ht; exact (txt_abs (chkP_ok (hq.ab _ hv).2.1)).2)
  obtain ⟨s1, s2⟩ := ren_slots (s := q.Slots) (by omega) (by omega) w2
  obtain ⟨g1, g2⟩ := ren_L [w_group, w_by] (by simp) (q.Group.map tkCol) s2 (fun t ht => by obtain ⟨v, hv, rfl⟩ := List.mem_map.1 ht; exact (txt_col v).2)
  obtain ⟨c1, c2⟩ := ren_L [w_compute] (by simp) (q.Compute.map tkAgg) g2 (fun t ht => by obtain ⟨v, hv, rfl⟩ := List.mem_map.1 ht; exact (txt_agg (aggE_ok (hq.cs _ hv))).2)
  obtain ⟨o1, o2⟩ := ren_L [w_order, w_by] (by simp) (q.Order.map tkOrd) c2 (fun t ht => by obtain ⟨v, hv, rfl⟩ := List.mem_map.1 ht; exact (txt_ord (hq.os _ hv).1).2)
  have l1 := ren_limit hq.li.1 o2
  simp only [List.map_cons, List.map_nil, List.map_append, List.map_map] at v1 w1 g1 c1 o1 s1 l1
  unfold tkQ finT
  rw [txt0_append hne, ren_append, ren_append, ren_append, ren_append, ren_append, v1, w1, s1, g1, c1, o1, l1]
  simp only [List.append_assoc]
  rfl
theorem flat_len (l : List Str) (c : Nat) (h : ∀ s ∈ l, s.length ≤ c) : (l.flatMap fun y => wx2c20 ++ y).length ≤ (c + 2) * l.length := by
  induction l with
  | nil => exact Nat.le_refl _
  | cons s l ih =>
    have h1 := h s List.mem_cons_self
    have h2 := ih fun x hx => h x (List.mem_cons_of_mem _ hx)
    have e : wx2c20.length = 2 := rfl
    rw [List.flatMap_cons, List.length_append, List.length_append, e, List.length_cons, Nat.mul_succ]
    omega
def GL (l : List Str) : Prop := l.length ≤ 600 ∧ ∀ s ∈ l, s.length ≤ 61000
theorem GL.nil : GL [] := ⟨Nat.zero_le _, fun s h => (by cases h)⟩
theorem GL.flat {l : List Str} (h : GL l) : (l.flatMap fun y => wx2c20 ++ y).length ≤ 36601200 := by
  have := flat_len l 61000 h.2
  have := h.1
  omega
theorem GL.lst {l : List Str} (h : GL l) (s : Str) : (lstT s l).length ≤ s.length + 36601200 := by
  cases l with
  | nil => simp [lstT]
  | cons x l =>
    have := flat_len (x :: l) 61000 h.2
    have h1 := h.1
    rw [List.flatMap_cons, List.length_append, List.length_append] at this
    simp only [lstT, List.length_append]
    omega
theorem list_l (h : Str) (l : List Str) (hl : GL l) : ∀ (d i k : Nat) (out : Str), 0 < i → i + d = l.length → 2 * d + 1 ≤ k → out.length + ((l.drop i).flatMap fun y => wx2c20 ++ y).length ≤ 1000000000 → l36_list_l3 k h l out (i : Int) = some (out ++ (l.drop i).flatMap fun y => wx2c20 ++ y) := by
  have hn := hl.1
  intro d
  induction d with
  | zero =>
    intro i k out h0 hi hk hx
    obtain ⟨k, rfl⟩ : ∃ m, k = m + 1 := ⟨k - 1, by omega⟩
    rw [l36_list_l3, if_neg (by simp; omega), List.drop_eq_nil_of_le (by omega)]; simp
  | succ d ih =>
    intro i k out h0 hi hk hx
    obtain ⟨k, rfl⟩ : ∃ m, k = m + 2 := ⟨k - 2, by omega⟩
    have h1 : i < l.length := by omega
    rw [List.drop_eq_getElem_cons h1, List.flatMap_cons] at hx ⊢
    have e : wx2c20.length = 2 := rfl
    simp only [List.length_append] at hx
    have ih := ih (i + 1) k (out ++ wx2c20 ++ l[i]) (by omega) (by omega) (by omega) (by simp only [List.length_append]; omega)
    rw [l36_list_l3, if_pos (by simp; omega), if_neg (by simp; omega), chk_pos (decide_eq_true (by simp only [List.length_append]; omega)), l36_list_j4, chk_pos (dec_nonneg i), toNat_cast, List.getElem?_eq_getElem h1, Option.bind_some, chk_pos (decide_eq_true (by simp only [List.length_append]; omega)), w64_succ (by omega), ih]
    simp only [List.append_assoc]
theorem list_eq {h : Str} {l : List Str} {k : Nat} (hl : GL l) (hk : 1210 ≤ k) (hh : h.length ≤ 1000000) : l36_list k h l = some (lstT h l) := by
  unfold l36_list
  obtain ⟨k, rfl⟩ : ∃ m, k = m + 2 := ⟨k - 2, by omega⟩
  cases l with
  | nil => rw [l36_list_l3, if_neg (by simp)]; rfl
  | cons x l =>
    have hn := hl.1
    have hf := hl.flat
    rw [List.flatMap_cons, List.length_append, List.length_append] at hf
    rw [List.length_cons] at hn
    have := list_l h (x :: l) hl l.length 1 k (h ++ x) (by omega) (by rw [List.length_cons]; omega) (by omega) (by simp only [List.drop_succ_cons, List.drop_zero, List.length_append]; omega)
    rw [l36_list_l3, if_pos (by simp), if_pos (show ((0 : Int) == 0) = true from rfl), l36_list_j4, chk_pos (by decide), Int.toNat_zero, List.getElem?_cons_zero, Option.bind_some, chk_pos (decide_eq_true (by simp only [List.length_append]; omega)), w64_01, this]
    simp [lstT]
theorem lrel_eq : l36_relations = some namesR := rfl
theorem lagg_eq : l36_aggregates = some namesA := rfl
theorem columnText_eq {c : GColumn} {k : Nat} (h : colL c) (hk : 1000 ≤ k) : l36_columnText k c = some (tC c) := by
  obtain ⟨h1, h2, h3⟩ := h
  have hl := labT_len c.Key
  have e1 : wx2e617474722e.length = 6 := rfl
  have e2 : wx2e.length = 1 := rfl
  unfold l36_columnText tC
  rw [(txt_col c).1, llabel_eq (by omega) (by omega), Option.bind_some]
  rw [chk_pos (decide_eq_true (by simp only [List.length_append]; omega)), chk_pos (decide_eq_true (by simp only [List.length_append]; omega)), chk_pos (decide_eq_true (by simp only [List.length_append]; omega)), chk_pos (decide_eq_true (by simp only [List.length_append]; omega))]
  cases (c.Field == w_attr) <;> rfl
theorem loopT {α : Type} (xs : List α) (F : Nat → List Str → Int → Option Str) (t : α → Str) (fin : List Str → Str) (pre : List Str) (c : Nat) (hn : pre.length + xs.length ≤ 600) (hp : ∀ s ∈ pre, s.length ≤ 61000) (ht : ∀ x ∈ xs, (t x).length ≤ 61000)
    (hs : ∀ k (i : Nat) x acc, c ≤ k → xs[i]? = some x → acc.length ≤ 599 → F (k + 1) acc (i : Int) = F k (acc ++ [t x]) ((i + 1 : Nat) : Int))
    (he : ∀ k acc, c ≤ k → GL acc → F (k + 1) acc ((xs.length : Nat) : Int) = some (fin acc)) {k : Nat} (hk : c + xs.length + 1 ≤ k) : F k pre 0 = some (fin (pre ++ xs.map t)) := by
  refine loopA xs F (fun acc l => fin (acc ++ l.map t)) (fun acc l => acc.length + l.length ≤ 600 ∧ ∀ s ∈ acc, s.length ≤ 61000) c (fun k i x acc hk hx hI ih => ?_) (fun k acc hk hI => ?_) k pre hk ⟨hn, hp⟩
  · have h1 := hI.1
    rw [List.length_cons] at h1
    rw [hs k i x acc hk hx (by omega), ih (acc ++ [t x]) ⟨by simp only [List.length_append, List.length_singleton]; omega, fun s hs => by
      rcases List.mem_append.1 hs with hs | hs
      · exact hI.2 s hs
      · obtain rfl := List.mem_singleton.1 hs
        exact ht x (mem_get hx)⟩]
    simp
  · rw [he k acc hk ⟨by have := hI.1; simp at this; exact this, hI.2⟩]
    simp
theorem tlen {l : List PTk} {c : Nat} (h : tb l ≤ c) : (txt0 l).length ≤ c := Nat.le_trans (txt0_len l) h
section
variable {q : GQuery} (hq : QOk q) (hb : Bnd q)
include hq hb
theorem j7_q {V W G C O : List Str} {out : Str} {k : Nat} (hG : GL G) (hC : GL C) (hO : GL O) (ho : out.length ≤ 1000000000) (hk : 1300 ≤ k) : l36_query_j7 k q G C O out = some (out ++ lstT wx2067726f757020627920 G ++ lstT wx20636f6d7075746520 C ++ lstT wx206f7264657220627920 O ++
    (if (q.Limit != 0) = true then wx206c696d697420 ++ txt0 (numT q.Limit) else [])) := by
  obtain ⟨k, rfl⟩ : ∃ m, k = m + 1 := ⟨k - 1, by omega⟩
  have g := hG.lst wx2067726f757020627920
  have c := hC.lst wx20636f6d7075746520
  have o := hO.lst wx206f7264657220627920
  have e1 : wx2067726f757020627920.length = 10 := rfl
  have e2 : wx20636f6d7075746520.length = 9 := rfl
  have e3 : wx206f7264657220627920.length = 10 := rfl
  have e4 : wx206c696d697420.length = 7 := rfl
  have n := txt0_len (numT q.Limit)
  have n1 := tb_num q.Limit
  have hl := hq.li
  rw [l36_query_j7, list_eq hG (by omega) (by omega), Option.bind_some, chk_pos (decide_eq_true (by simp only [List.length_append]; omega)), list_eq hC (by omega) (by omega), Option.bind_some, chk_pos (decide_eq_true (by simp only [List.length_append]; omega)),
    list_eq hO (by omega) (by omega), Option.bind_some, chk_pos (decide_eq_true (by simp only [List.length_append]; omega)), chk_pos (decide_eq_true (by simp only [List.length_append]; omega)), decimal_eq (by omega) (by omega) (by omega), Option.bind_some, chk_pos (decide_eq_true (by simp only [List.length_append]; omega))]
  cases (q.Limit != 0) <;> simp
theorem q6 (os : okI .i64 q.Slots.From ∧ okI .i64 q.Slots.To) {V W G C : List Str} {k : Nat} (hV : GL V) (hW : GL W) (hG : GL G) (hC : GL C) (hk : 1800 ≤ k) : l36_query_l6 k q V W G C [] 0 = some (finT q V W G C (q.Order.map tO)) := by
  have hl := hb.o
  have hT : ∀ x ∈ q.Order, (tO x).length ≤ 61000 := fun x hx => Nat.le_trans (tlen (tb_ord x)) (by omega)
  refine loopT q.Order (fun k acc i => l36_query_l6 k q V W G C acc i) tO (fun O => finT q V W G C O) [] 1400 (by simp; omega) (fun s h => by cases h) hT (fun k i x acc hk hx ha => ?_) (fun k acc hk hO => ?_) (by omega)
  · obtain ⟨h0, h1⟩ := hq.os _ (mem_get hx)
    have ht := (txt_ord (o := x) h0).1
    have n := tlen (tb_num x.Index)
    have e4 : wx2064657363.length = 5 := rfl
    simp only [l36_query_l6, lt_get hx, if_true, dec_nonneg, chk_true, toNat_cast, hx, Option.bind_some, w64_get (by omega) hx, decimal_eq (n := x.Index) (k := k) (by omega) (by omega) (by omega)]
    unfold tO
    rw [ht]
    cases x.Descending with
    | true =>
      rw [if_pos rfl, chk_pos (decide_eq_true (by simp only [List.length_append]; omega)), chk_pos (decide_eq_true (by simp only [List.length_append, List.length_cons, List.length_nil]; omega))]
      rfl
    | false =>
      rw [if_neg (by simp), chk_pos (decide_eq_true (by simp only [List.length_append, List.length_cons, List.length_nil]; omega))]
      rfl
  · have hs := hq.sl
    unfold slotB at hs
    simp only [Bool.or_eq_false_iff, decide_eq_false_iff_not] at hs
    have v := hV.lst wx66696e6420
    have w := hW.lst wx20776865726520
    have e1 : wx66696e6420.length = 5 := rfl
    have e2 : wx20776865726520.length = 7 := rfl
    have e3 : wx20736c6f747320.length = 7 := rfl
    have e4 : wx2e2e.length = 2 := rfl
    have n := txt0_len (numT q.Slots.From)
    have n1 := tb_num q.Slots.From
    have n' := txt0_len (numT q.Slots.To)
    have n1' := tb_num q.Slots.To
    have hz : (orI .i64 q.Slots.From q.Slots.To != 0) = !eqInt q.Slots ⟨0, 0⟩ := by
      unfold eqInt bne
      rw [orI_zero os.1 os.2]
    have j := fun out h => j7_q (V := V) (W := W) hq hb (out := out) (k := k) hG hC hO h (by omega)
    show l36_query_l6 (k + 1) q V W G C acc _ = _
    rw [l36_query_l6, nlt_len, if_neg (by simp), list_eq hV (by omega) (by omega), Option.bind_some, list_eq hW (by omega) (by omega), Option.bind_some, chk_pos (decide_eq_true (by simp only [List.length_append]; omega)), hz]
    unfold finT
    cases eqInt q.Slots ⟨0, 0⟩ with
    | true =>
      rw [if_neg (by simp), j _ (by simp only [List.length_append]; omega), if_pos rfl]
      simp only [List.append_nil]
    | false =>
      rw [if_pos (by rfl), chk_pos (decide_eq_true (by simp only [List.length_append]; omega)), decimal_eq (by omega) (by omega) (by omega), Option.bind_some, chk_pos (decide_eq_true (by simp only [List.length_append]; omega)), chk_pos (decide_eq_true (by simp only [List.length_append]; omega)),
        decimal_eq (by omega) (by omega) (by omega), Option.bind_some, chk_pos (decide_eq_true (by simp only [List.length_append]; omega)), j _ (by simp only [List.length_append]; omega)]
      simp only [Bool.false_eq_true, if_false, List.append_assoc]
theorem q5 (os : okI .i64 q.Slots.From ∧ okI .i64 q.Slots.To) {V W G : List Str} {k : Nat} (hV : GL V) (hW : GL W) (hG : GL G) (hk : 2200 ≤ k) : l36_query_l5 k q V W G [] 0 = some (finT q V W G (q.Compute.map tG) (q.Order.map tO)) := by
  have hl := hb.c
  have hT : ∀ x ∈ q.Compute, (tG x).length ≤ 61000 := fun x hx => Nat.le_trans (tlen (tb_agg (aggE_ok (hq.cs _ hx)) (hb.cs _ hx))) (by omega)
  refine loopT q.Compute (fun k acc i => l36_query_l5 k q V W G acc i) tG (fun C => finT q V W G C (q.Order.map tO)) [] 1800 (by simp; omega) (fun s h => by cases h) hT (fun k i x acc hk hx ha => ?_) (fun k acc hk hI => ?_) (by omega)
  · have hA := aggE_ok (hq.cs _ (mem_get hx))
    obtain ⟨g1, g2, g3⟩ := aggN_get hA.kind
    have ht := (txt_agg hA).1
    have hc := hb.cs _ (mem_get hx)
    have hcl := tlen (tb_col hc)
    have n := tlen (tb_num x.Q.Num)
    have n' := tlen (tb_num x.Q.Den)
    have e1 : wx28.length = 1 := rfl
    have e2 : wx2f.length = 1 := rfl
    have e3 : wx2c20.length = 2 := rfl
    have e4 : wx29.length = 1 := rfl
    have eC : tC x.Column = txt0 (tkCol x.Column) := rfl
    simp only [l36_query_l5, lt_get hx, if_true, dec_nonneg, chk_true, toNat_cast, hx, Option.bind_some, w64_get (by omega) hx, lagg_eq, g1, g2, columnText_eq hc (by omega : 1000 ≤ k), eC]
    unfold tG
    rw [ht]
    by_cases h7 : x.Kind = 7
    · have hQ := hA.q h7
      rw [if_pos (by rw [h7]; rfl), if_pos (by rw [h7]; rfl), decimal_eq (by omega) (by omega) (by omega), Option.bind_some, decimal_eq (by omega) (by omega) (by omega), Option.bind_some]
      iterate 8 rw [chk_pos (decide_eq_true (by simp only [List.length_append, List.length_cons, List.length_nil]; omega))]
    · have b7 : (x.Kind == 7) = false := by simpa using h7
      simp only [b7, Bool.false_eq_true, if_false]
      by_cases h3 : x.Kind > 3
      · simp only [decide_eq_true h3, if_true]
        iterate 4 rw [chk_pos (decide_eq_true (by simp only [List.length_append, List.length_cons, List.length_nil]; omega))]
      · simp only [decide_eq_false h3, Bool.false_eq_true, if_false]
        rw [chk_pos (decide_eq_true (by simp only [List.length_append, List.length_cons, List.length_nil]; omega))]
  · show l36_query_l5 (k + 1) q V W G acc _ = _
    rw [l36_query_l5, nlt_len, if_neg (by simp), q6 hq hb os hV hW hG hI hk]
theorem q4 (os : okI .i64 q.Slots.From ∧ okI .i64 q.Slots.To) {V W : List Str} {k : Nat} (hV : GL V) (hW : GL W) (hk : 2600 ≤ k) : l36_query_l4 k q V W [] 0 = some (finT q V W (q.Group.map tC) (q.Compute.map tG) (q.Order.map tO)) := by
  have hl := hb.g
  have hT : ∀ x ∈ q.Group, (tC x).length ≤ 61000 := fun x hx => Nat.le_trans (tlen (tb_col (hb.gs _ hx))) (by omega)
  refine loopT q.Group (fun k acc i => l36_query_l4 k q V W acc i) tC (fun G => finT q V W G (q.Compute.map tG) (q.Order.map tO)) [] 2200 (by simp; omega) (fun s h => by cases h) hT (fun k i x acc hk hx ha => ?_) (fun k acc hk hI => ?_) (by omega)
  · simp only [l36_query_l4, lt_get hx, if_true, dec_nonneg, chk_true, toNat_cast, hx, Option.bind_some, w64_get (by omega) hx, columnText_eq (hb.gs _ (mem_get hx)) (by omega : 1000 ≤ k)]
    rw [chk_pos (decide_eq_true (by simp only [List.length_append, List.length_cons, List.length_nil]; omega))]
  · show l36_query_l4 (k + 1) q V W acc _ = _
    rw [l36_query_l4, nlt_len, if_neg (by simp), q5 hq hb os hV hW hI hk]
theorem q3 (os : okI .i64 q.Slots.From ∧ okI .i64 q.Slots.To) {V W : List Str} {k : Nat} (hV : GL V) (hW : GL W) (hn : W.length ≤ 300) (hk : 62900 ≤ k) : l36_query_l3 k q V W 0 = some (finT q V (W ++ q.Absences.map tA) (q.Group.map tC) (q.Compute.map tG) (q.Order.map tO)) := by
  have hl := hb.a
  have hT : ∀ x ∈ q.Absences, (tA x).length ≤ 61000 := fun x hx => Nat.le_trans (tlen (tb_abs (hb.ab _ hx).1 (hb.ab _ hx).2.1 (hb.ab _ hx).2.2 (hq.ab _ hx).2.2.1)) (by omega)
  refine loopT q.Absences (fun k acc i => l36_query_l3 k q V acc i) tA (fun W => finT q V W (q.Group.map tC) (q.Compute.map tG) (q.Order.map tO)) W 62500 (by omega) hW.2 hT (fun k i x acc hk hx ha => ?_) (fun k acc hk hI => ?_) (by omega)
  · obtain ⟨b1, b2, b3⟩ := hb.ab _ (mem_get hx)
    obtain ⟨a1, a2, a3, a4⟩ := hq.ab _ (mem_get hx)
    obtain ⟨g1, g2, g3⟩ := relN_get a3
    have ok := chkP_ok a2
    have ht := (txt_abs ok).1
    have hv := (txt_var ok).1
    have hp := tb_tkP x.Variable.Where
    have hpl := txt0_len (tkP x.Variable.Where)
    have e1 : wx6e6f7420.length = 4 := rfl
    have e2 : wx7b.length = 1 := rfl
    have e3 : wx7d.length = 1 := rfl
    have e4 : wx20.length = 1 := rfl
    simp only [l36_query_l3, lt_get hx, if_true, dec_nonneg, chk_true, toNat_cast, hx, Option.bind_some, w64_get (by omega) hx, lrel_eq, g1, g2, lpred_eq x.Variable.Where k ok (by omega) (by omega)]
    unfold tA
    rw [ht, hv]
    iterate 6 rw [chk_pos (decide_eq_true (by simp only [List.length_append, List.length_cons, List.length_nil]; omega))]
    cases x.First with
    | true =>
      simp only [if_true]
      iterate 3 rw [chk_pos (decide_eq_true (by simp only [List.length_append, List.length_cons, List.length_nil]; omega))]
      simp only [List.append_assoc]
    | false =>
      simp only [Bool.false_eq_true, if_false]
      iterate 3 rw [chk_pos (decide_eq_true (by simp only [List.length_append, List.length_cons, List.length_nil]; omega))]
      simp only [List.append_assoc]
  · show l36_query_l3 (k + 1) q V acc _ = _
    rw [l36_query_l3, nlt_len, if_neg (by simp), q4 hq hb os hV hI (by omega)]
theorem q2 (os : okI .i64 q.Slots.From ∧ okI .i64 q.Slots.To) {V : List Str} {k : Nat} (hV : GL V) (hk : 63300 ≤ k) : l36_query_l2 k q V [] 0 = some (finT q V (q.Relations.map tR ++ q.Absences.map tA) (q.Group.map tC) (q.Compute.map tG) (q.Order.map tO)) := by
  have hl := hb.r
  have hT : ∀ x ∈ q.Relations, (tR x).length ≤ 61000 := fun x hx => Nat.le_trans (tlen (tb_rel (hb.rs _ hx).1 (hb.rs _ hx).2 (hq.rs _ hx).1)) (by omega)
  have key : l36_query_l2 k q V [] 0 = some (finT q V (([] ++ q.Relations.map tR) ++ q.Absences.map tA) (q.Group.map tC) (q.Compute.map tG) (q.Order.map tO)) := by
    refine loopA q.Relations (fun k acc i => l36_query_l2 k q V acc i) (fun acc l => finT q V ((acc ++ l.map tR) ++ q.Absences.map tA) (q.Group.map tC) (q.Compute.map tG) (q.Order.map tO)) (fun acc l => acc.length + l.length ≤ 300 ∧ ∀ s ∈ acc, s.length ≤ 61000) 62900 (fun k i x acc hk hx hI ih => ?_) (fun k acc hk hI => ?_) k [] (by omega) ⟨by simp; omega, fun s h => by cases h⟩
    · obtain ⟨b1, b2⟩ := hb.rs _ (mem_get hx)
      obtain ⟨a1, a2, a3⟩ := hq.rs _ (mem_get hx)
      obtain ⟨g1, g2, g3⟩ := relN_get a1
      have e4 : wx20.length = 1 := rfl
      have ht := (txt_rel x).1
      have h1 := hI.1
      rw [List.length_cons] at h1
      have ih' := ih (acc ++ [tR x]) ⟨by simp only [List.length_append, List.length_singleton]; omega, fun s hs => by
        rcases List.mem_append.1 hs with hs | hs
        · exact hI.2 s hs
        · obtain rfl := List.mem_singleton.1 hs
          exact hT x (mem_get hx)⟩
      have e : acc ++ List.map tR (x :: q.Relations.drop (i + 1)) = (acc ++ [tR x]) ++ List.map tR (q.Relations.drop (i + 1)) := by simp
      rw [e, ← ih']
      simp only [l36_query_l2, lt_get hx, if_true, dec_nonneg, chk_true, toNat_cast, hx, Option.bind_some, w64_get (by omega) hx, lrel_eq, g1, g2]
      unfold tR
      rw [ht]
      iterate 5 rw [chk_pos (decide_eq_true (by simp only [List.length_append, List.length_cons, List.length_nil]; omega))]
    · have h1 := hI.1
      rw [List.length_nil] at h1
      show l36_query_l2 (k + 1) q V acc _ = _
      rw [l36_query_l2, nlt_len, if_neg (by simp), q3 hq hb os hV ⟨by omega, hI.2⟩ (by omega) hk]
      simp
  simpa using key
theorem query_eq (os : okI .i64 q.Slots.From ∧ okI .i64 q.Slots.To) {k : Nat} (hk : 63800 ≤ k) : l36_query k q = some (txt0 (tkQ q)) := by
  have hl := hb.v
  have hT : ∀ x ∈ q.Variables, (tV x).length ≤ 61000 := fun x hx => Nat.le_trans (tlen (tb_var (hb.vs _ hx).1 (hb.vs _ hx).2)) (by omega)
  unfold l36_query
  rw [txt_q hq]
  refine loopT q.Variables (fun k acc i => l36_query_l1 k q acc i) tV (fun V => finT q V (q.Relations.map tR ++ q.Absences.map tA) (q.Group.map tC) (q.Compute.map tG) (q.Order.map tO)) [] 63300 (by simp; omega) (fun s h => by cases h) hT (fun k i x acc hk hx ha => ?_) (fun k acc hk hI => ?_) (by omega)
  · obtain ⟨b1, b2⟩ := hb.vs _ (mem_get hx)
    have ok := chkP_ok (hq.vs _ (mem_get hx)).2
    have hv := (txt_var ok).1
    have hp := tb_tkP x.Where
    have hpl := txt0_len (tkP x.Where)
    have e2 : wx7b.length = 1 := rfl
    have e3 : wx7d.length = 1 := rfl
    simp only [l36_query_l1, lt_get hx, if_true, dec_nonneg, chk_true, toNat_cast, hx, Option.bind_some, w64_get (by omega) hx, lpred_eq x.Where k ok (by omega) (by omega)]
    unfold tV
    rw [hv]
    iterate 4 rw [chk_pos (decide_eq_true (by simp only [List.length_append, List.length_cons, List.length_nil]; omega))]
  · show l36_query_l1 (k + 1) q acc _ = _
    rw [l36_query_l1, nlt_len, if_neg (by simp), q2 hq hb os hI hk]
end
end Go.Proofs.YtfnaahkgegfbnaaGreatDoor
set_option maxRecDepth 10000
namespace Go.Proofs.YtfnaahkgegfbnaaGreatDoor
open Go.RowKit Go.ChangeShapes Go.WideShapes Go.ChangeAt Go.WideMaps Go.WideElems
section
variable {H : Type} {enc : TypeId × Value → H} {W : World}
def okGVariable (x : GVariable) : Prop := (okS) x.Name ∧ (okGPred) x.Where
theorem opn_GVariable (n : Nat) : Opn H enc W TGVariable 95 okGVariable n := by
  intro cs x h hw
  obtain ⟨xs, n, rfl, hl, hlen, hw, hf⟩ := opn_struct Tryz.underlying95 h hw
  have c : Tryz.prog.cellsOf 95 = 8 := by kernel_rfl
  rw [c] at hl
  obtain ⟨y0, r0, o0⟩ := opn_field (T := TStr) (ok := okS) hf hw hlen 0 0 1 9 rfl (by kernel_rfl) (opn_str (by kernel_rfl) n)
  obtain ⟨y1, r1, o1⟩ := opn_field (T := TGPred) (ok := okGPred) hf hw hlen 1 1 7 44 rfl (by kernel_rfl) (opn_GPred n)
  refine ⟨⟨y0, y1⟩, ?_, o0, o1⟩
  match cs, hl with
  | [z0, z1, z2, z3, z4, z5, z6, z7], _ =>
    cases r0
    obtain ⟨v1_0, e1, hr1_0⟩ := TGPred.open_ r1
    cases e1
    exact TGVariable.close_ _ hr1_0
def okGRelation (x : GRelation) : Prop := (okI .i64) x.Kind ∧ (okS) x.A ∧ (okS) x.B
theorem opn_GRelation (n : Nat) : Opn H enc W TGRelation 104 okGRelation n := by
  intro cs x h hw
  obtain ⟨xs, n, rfl, hl, hlen, hw, hf⟩ := opn_struct Tryz.underlying104 h hw
  have c : Tryz.prog.cellsOf 104 = 3 := by kernel_rfl
  rw [c] at hl
  obtain ⟨y0, r0, o0⟩ := opn_field (T := TInt .i64) (ok := okI .i64) hf hw hlen 0 0 1 3 rfl (by kernel_rfl) (opn_int .i64 (by kernel_rfl) n)
  obtain ⟨y1, r1, o1⟩ := opn_field (T := TStr) (ok := okS) hf hw hlen 1 1 1 9 rfl (by kernel_rfl) (opn_str (by kernel_rfl) n)
  obtain ⟨y2, r2, o2⟩ := opn_field (T := TStr) (ok := okS) hf hw hlen 2 2 1 9 rfl (by kernel_rfl) (opn_str (by kernel_rfl) n)
  refine ⟨⟨y0, y1, y2⟩, ?_, o0, o1, o2⟩
  match cs, hl with
  | [z0, z1, z2], _ =>
    cases r0
    cases r1
    cases r2
    rfl
def okGAbsence (x : GAbsence) : Prop := (okGVariable) x.Variable ∧ (okI .i64) x.Kind ∧ (okS) x.Other ∧ (fun _ : Bool => True) x.First
theorem opn_GAbsence (n : Nat) : Opn H enc W TGAbsence 106 okGAbsence n := by
  intro cs x h hw
  obtain ⟨xs, n, rfl, hl, hlen, hw, hf⟩ := opn_struct Tryz.underlying106 h hw
  have c : Tryz.prog.cellsOf 106 = 11 := by kernel_rfl
  rw [c] at hl
  obtain ⟨y0, r0, o0⟩ := opn_field (T := TGVariable) (ok := okGVariable) hf hw hlen 0 0 8 95 rfl (by kernel_rfl) (opn_GVariable n)
  obtain ⟨y1, r1, o1⟩ := opn_field (T := TInt .i64) (ok := okI .i64) hf hw hlen 1 8 1 3 rfl (by kernel_rfl) (opn_int .i64 (by kernel_rfl) n)
  obtain ⟨y2, r2, o2⟩ := opn_field (T := TStr) (ok := okS) hf hw hlen 2 9 1 9 rfl (by kernel_rfl) (opn_str (by kernel_rfl) n)
  obtain ⟨y3, r3, o3⟩ := opn_field (T := TBool) (ok := fun _ : Bool => True) hf hw hlen 3 10 1 4 rfl (by kernel_rfl) (opn_bool (by kernel_rfl) n)
  refine ⟨⟨y0, y1, y2, y3⟩, ?_, o0, o1, o2, o3⟩
  match cs, hl with
  | [z0, z1, z2, z3, z4, z5, z6, z7, z8, z9, z10], _ =>
    obtain ⟨v0_0, e0, hr0_0⟩ := TGVariable.open_ r0
    cases e0
    cases r1
    cases r2
    cases r3
    exact TGAbsence.close_ _ hr0_0
def okGInterval (x : GInterval) : Prop := (okI .i64) x.From ∧ (okI .i64) x.To
theorem opn_GInterval (n : Nat) : Opn H enc W TGInterval 31 okGInterval n := by
  intro cs x h hw
  obtain ⟨xs, n, rfl, hl, hlen, hw, hf⟩ := opn_struct Tryz.underlying31 h hw
  have c : Tryz.prog.cellsOf 31 = 2 := by kernel_rfl
  rw [c] at hl
  obtain ⟨y0, r0, o0⟩ := opn_field (T := TInt .i64) (ok := okI .i64) hf hw hlen 0 0 1 3 rfl (by kernel_rfl) (opn_int .i64 (by kernel_rfl) n)
  obtain ⟨y1, r1, o1⟩ := opn_field (T := TInt .i64) (ok := okI .i64) hf hw hlen 1 1 1 3 rfl (by kernel_rfl) (opn_int .i64 (by kernel_rfl) n)
  refine ⟨⟨y0, y1⟩, ?_, o0, o1⟩
  match cs, hl with
  | [z0, z1], _ =>
    cases r0
    cases r1
    rfl
def okGColumn (x : GColumn) : Prop := (okS) x.Var ∧ (okS) x.Field ∧ (okS) x.Key
theorem opn_GColumn (n : Nat) : Opn H enc W TGColumn 101 okGColumn n := by
  intro cs x h hw
  obtain ⟨xs, n, rfl, hl, hlen, hw, hf⟩ := opn_struct Tryz.underlying101 h hw
  have c : Tryz.prog.cellsOf 101 = 3 := by kernel_rfl
  rw [c] at hl
  obtain ⟨y0, r0, o0⟩ := opn_field (T := TStr) (ok := okS) hf hw hlen 0 0 1 9 rfl (by kernel_rfl) (opn_str (by kernel_rfl) n)
  obtain ⟨y1, r1, o1⟩ := opn_field (T := TStr) (ok := okS) hf hw hlen 1 1 1 9 rfl (by kernel_rfl) (opn_str (by kernel_rfl) n)
  obtain ⟨y2, r2, o2⟩ := opn_field (T := TStr) (ok := okS) hf hw hlen 2 2 1 9 rfl (by kernel_rfl) (opn_str (by kernel_rfl) n)
  refine ⟨⟨y0, y1, y2⟩, ?_, o0, o1, o2⟩
  match cs, hl with
  | [z0, z1, z2], _ =>
    cases r0
    cases r1
    cases r2
    rfl
def okGFraction (x : GFraction) : Prop := (okI .i64) x.Num ∧ (okI .i64) x.Den
theorem opn_GFraction (n : Nat) : Opn H enc W TGFraction 108 okGFraction n := by
  intro cs x h hw
  obtain ⟨xs, n, rfl, hl, hlen, hw, hf⟩ := opn_struct Tryz.underlying108 h hw
  have c : Tryz.prog.cellsOf 108 = 2 := by kernel_rfl
  rw [c] at hl
  obtain ⟨y0, r0, o0⟩ := opn_field (T := TInt .i64) (ok := okI .i64) hf hw hlen 0 0 1 3 rfl (by kernel_rfl) (opn_int .i64 (by kernel_rfl) n)
  obtain ⟨y1, r1, o1⟩ := opn_field (T := TInt .i64) (ok := okI .i64) hf hw hlen 1 1 1 3 rfl (by kernel_rfl) (opn_int .i64 (by kernel_rfl) n)
  refine ⟨⟨y0, y1⟩, ?_, o0, o1⟩
  match cs, hl with
  | [z0, z1], _ =>
    cases r0
    cases r1
    rfl
def okGAggregate (x : GAggregate) : Prop := (okI .i64) x.Kind ∧ (okGColumn) x.Column ∧ (okGFraction) x.Q
theorem opn_GAggregate (n : Nat) : Opn H enc W TGAggregate 110 okGAggregate n := by
  intro cs x h hw
  obtain ⟨xs, n, rfl, hl, hlen, hw, hf⟩ := opn_struct Tryz.underlying110 h hw
  have c : Tryz.prog.cellsOf 110 = 6 := by kernel_rfl
  rw [c] at hl
  obtain ⟨y0, r0, o0⟩ := opn_field (T := TInt .i64) (ok := okI .i64) hf hw hlen 0 0 1 3 rfl (by kernel_rfl) (opn_int .i64 (by kernel_rfl) n)
  obtain ⟨y1, r1, o1⟩ := opn_field (T := TGColumn) (ok := okGColumn) hf hw hlen 1 1 3 101 rfl (by kernel_rfl) (opn_GColumn n)
  obtain ⟨y2, r2, o2⟩ := opn_field (T := TGFraction) (ok := okGFraction) hf hw hlen 2 4 2 108 rfl (by kernel_rfl) (opn_GFraction n)
  refine ⟨⟨y0, y1, y2⟩, ?_, o0, o1, o2⟩
  match cs, hl with
  | [z0, z1, z2, z3, z4, z5], _ =>
    cases r0
    cases r1
    cases r2
    rfl
def okGOrderKey (x : GOrderKey) : Prop := (okI .i64) x.Index ∧ (fun _ : Bool => True) x.Descending
theorem opn_GOrderKey (n : Nat) : Opn H enc W TGOrderKey 112 okGOrderKey n := by
  intro cs x h hw
  obtain ⟨xs, n, rfl, hl, hlen, hw, hf⟩ := opn_struct Tryz.underlying112 h hw
  have c : Tryz.prog.cellsOf 112 = 2 := by kernel_rfl
  rw [c] at hl
  obtain ⟨y0, r0, o0⟩ := opn_field (T := TInt .i64) (ok := okI .i64) hf hw hlen 0 0 1 3 rfl (by kernel_rfl) (opn_int .i64 (by kernel_rfl) n)
  obtain ⟨y1, r1, o1⟩ := opn_field (T := TBool) (ok := fun _ : Bool => True) hf hw hlen 1 1 1 4 rfl (by kernel_rfl) (opn_bool (by kernel_rfl) n)
  refine ⟨⟨y0, y1⟩, ?_, o0, o1⟩
  match cs, hl with
  | [z0, z1], _ =>
    cases r0
    cases r1
    rfl
def okGQuery (x : GQuery) : Prop := (fun l => (∀ y ∈ l, (okGVariable) y) ∧ l.length * 112 ≤ reachBytes) x.Variables ∧ (fun l => (∀ y ∈ l, (okGRelation) y) ∧ l.length * 40 ≤ reachBytes) x.Relations ∧ (fun l => (∀ y ∈ l, (okGAbsence) y) ∧ l.length * 144 ≤ reachBytes) x.Absences ∧ (okGInterval) x.Slots ∧ (fun l => (∀ y ∈ l, (okGColumn) y) ∧ l.length * 48 ≤ reachBytes) x.Group ∧ (fun l => (∀ y ∈ l, (okGAggregate) y) ∧ l.length * 72 ≤ reachBytes) x.Compute ∧ (fun l => (∀ y ∈ l, (okGOrderKey) y) ∧ l.length * 16 ≤ reachBytes) x.Order ∧ (okI .i64) x.Limit
theorem opn_GQuery (n : Nat) : Opn H enc W TGQuery 36 okGQuery n := by
  intro cs x h hw
  obtain ⟨xs, n, rfl, hl, hlen, hw, hf⟩ := opn_struct Tryz.underlying36 h hw
  have c : Tryz.prog.cellsOf 36 = 9 := by kernel_rfl
  rw [c] at hl
  obtain ⟨y0, r0, o0⟩ := opn_field (T := TSl TGVariable) (ok := fun l => (∀ y ∈ l, (okGVariable) y) ∧ l.length * 112 ≤ reachBytes) hf hw hlen 0 0 1 27 rfl (by kernel_rfl) (opn_slice (by kernel_rfl) (by kernel_rfl) (by decide) (fun k _ => opn_GVariable k))
  obtain ⟨y1, r1, o1⟩ := opn_field (T := TSl TGRelation) (ok := fun l => (∀ y ∈ l, (okGRelation) y) ∧ l.length * 40 ≤ reachBytes) hf hw hlen 1 1 1 28 rfl (by kernel_rfl) (opn_slice (by kernel_rfl) (by kernel_rfl) (by decide) (fun k _ => opn_GRelation k))
  obtain ⟨y2, r2, o2⟩ := opn_field (T := TSl TGAbsence) (ok := fun l => (∀ y ∈ l, (okGAbsence) y) ∧ l.length * 144 ≤ reachBytes) hf hw hlen 2 2 1 29 rfl (by kernel_rfl) (opn_slice (by kernel_rfl) (by kernel_rfl) (by decide) (fun k _ => opn_GAbsence k))
  obtain ⟨y3, r3, o3⟩ := opn_field (T := TGInterval) (ok := okGInterval) hf hw hlen 3 3 2 31 rfl (by kernel_rfl) (opn_GInterval n)
  obtain ⟨y4, r4, o4⟩ := opn_field (T := TSl TGColumn) (ok := fun l => (∀ y ∈ l, (okGColumn) y) ∧ l.length * 48 ≤ reachBytes) hf hw hlen 4 5 1 32 rfl (by kernel_rfl) (opn_slice (by kernel_rfl) (by kernel_rfl) (by decide) (fun k _ => opn_GColumn k))
  obtain ⟨y5, r5, o5⟩ := opn_field (T := TSl TGAggregate) (ok := fun l => (∀ y ∈ l, (okGAggregate) y) ∧ l.length * 72 ≤ reachBytes) hf hw hlen 5 6 1 33 rfl (by kernel_rfl) (opn_slice (by kernel_rfl) (by kernel_rfl) (by decide) (fun k _ => opn_GAggregate k))
  obtain ⟨y6, r6, o6⟩ := opn_field (T := TSl TGOrderKey) (ok := fun l => (∀ y ∈ l, (okGOrderKey) y) ∧ l.length * 16 ≤ reachBytes) hf hw hlen 6 7 1 34 rfl (by kernel_rfl) (opn_slice (by kernel_rfl) (by kernel_rfl) (by decide) (fun k _ => opn_GOrderKey k))
  obtain ⟨y7, r7, o7⟩ := opn_field (T := TInt .i64) (ok := okI .i64) hf hw hlen 7 8 1 3 rfl (by kernel_rfl) (opn_int .i64 (by kernel_rfl) n)
  refine ⟨⟨y0, y1, y2, y3, y4, y5, y6, y7⟩, ?_, o0, o1, o2, o3, o4, o5, o6, o7⟩
  match cs, hl with
  | [z0, z1, z2, z3, z4, z5, z6, z7, z8], _ =>
    obtain ⟨v0, e0, hr0⟩ := r0
    cases e0
    obtain ⟨v1, e1, hr1⟩ := r1
    cases e1
    obtain ⟨v2, e2, hr2⟩ := r2
    cases e2
    cases r3
    obtain ⟨v4, e4, hr4⟩ := r4
    cases e4
    obtain ⟨v5, e5, hr5⟩ := r5
    cases e5
    obtain ⟨v6, e6, hr6⟩ := r6
    cases e6
    cases r7
    exact TGQuery.close_ _ hr0 hr1 hr2 hr4 hr5 hr6
end
end Go.Proofs.YtfnaahkgegfbnaaGreatDoor
