/- Bytes, words, names: what the written functions answer. -/
import Derived.Test.YtfnaahkgegfbnaaGreatDoorDa
import Derived.Test.YtfnaahkgegfbnaaGreatDoorDb
import Derived.Test.YtfnaahkgegfbnaaGreatDoorDc
import Derived.Test.YtfnaahkgegfbnaaGreatDoorDf
set_option linter.unusedVariables false
set_option linter.unusedSimpArgs false
namespace Go.Proofs.YtfnaahkgegfbnaaGreatDoor

@[simp] theorem chk_true {α : Type} (x : Option α) : chk true x = x := rfl
theorem chk_pos {α : Type} {b : Bool} (h : b = true) (x : Option α) : chk b x = x := by subst h; rfl
theorem w64_nat {i : Nat} (h : i ≤ 9223372036854775807) : w64 (i : Int) = (i : Int) := w64_id (by omega) (by omega)
theorem w64_succ {i : Nat} (h : i < 9223372036854775807) : w64 ((i : Int) + 1) = ((i + 1 : Nat) : Int) := by
  rw [← Int.natCast_succ]; exact w64_nat (by omega)
theorem dec_nonneg (i : Nat) : decide ((0 : Int) ≤ (i : Int)) = true := decide_eq_true (by omega)
@[simp] theorem toNat_cast (i : Nat) : Int.toNat (i : Int) = i := Int.toNat_natCast i

def letN (n : Nat) : Bool := decide (97 ≤ n) && decide (n ≤ 122) || decide (65 ≤ n) && decide (n ≤ 90) || n == 95
def digN (n : Nat) : Bool := decide (48 ≤ n) && decide (n ≤ 57)
def innN (n : Nat) : Bool := letN n || digN n || n == 45
abbrev letB (c : UInt8) : Bool := letN c.toNat
abbrev digB (c : UInt8) : Bool := digN c.toNat
abbrev innB (c : UInt8) : Bool := innN c.toNat
theorem letN_eq : ∀ n : Nat, n < 256 → syntax_letter (n : Int) = some (letN n) := by decide +kernel
theorem digN_eq : ∀ n : Nat, n < 256 → syntax_digit (n : Int) = some (digN n) := by decide +kernel
theorem innN_eq : ∀ n : Nat, n < 256 → syntax_inner (n : Int) = some (innN n) := by decide +kernel
theorem begN_eq : ∀ n : Nat, n < 256 → l36_begins (n : Int) = some (letN n) := by decide +kernel
theorem ldgN_eq : ∀ n : Nat, n < 256 → l36_digit (n : Int) = some (digN n) := by decide +kernel
theorem u8_lt (c : UInt8) : c.toNat < 256 := c.toNat_lt
theorem letter_eq (c : UInt8) : syntax_letter (c.toNat : Int) = some (letB c) := letN_eq _ (u8_lt c)
theorem digit_eq (c : UInt8) : syntax_digit (c.toNat : Int) = some (digB c) := digN_eq _ (u8_lt c)
theorem inner_eq (c : UInt8) : syntax_inner (c.toNat : Int) = some (innB c) := innN_eq _ (u8_lt c)
theorem begins_eq (c : UInt8) : l36_begins (c.toNat : Int) = some (letB c) := begN_eq _ (u8_lt c)
theorem ldigit_eq (c : UInt8) : l36_digit (c.toNat : Int) = some (digB c) := ldgN_eq _ (u8_lt c)

/-- a word -/
def wordB : Str → Bool
  | [] => false
  | c :: r => letB c && r.all innB

theorem isWord_l (s : Str) (hs : s.length ≤ 9223372036854775806) : ∀ (d i k : Nat), i + d = s.length → d < k → syntax_isWord_l2 k s (i : Int) = some ((s.drop i).all innB)
  | d, i, 0, _, h => by omega
  | 0, i, k + 1, hd, _ => by
    rw [syntax_isWord_l2, if_neg (by simp; omega), List.drop_eq_nil_of_le (by omega)]; rfl
  | d + 1, i, k + 1, hd, hk => by
    have hi : i < s.length := by omega
    rw [syntax_isWord_l2, if_pos (by simp; omega), chk_pos (dec_nonneg i), toNat_cast, List.getElem?_eq_getElem hi, Option.bind_some, inner_eq, Option.bind_some, w64_succ (by omega),
      isWord_l s hs d (i + 1) k (by omega) (by omega), List.drop_eq_getElem_cons hi, List.all_cons]
    cases innB s[i] <;> simp
theorem isWord_eq {s : Str} {k : Nat} (hs : s.length ≤ 9223372036854775806) (hk : s.length < k) : syntax_isWord k s = some (wordB s) := by
  unfold syntax_isWord
  cases s with
  | nil => simp [syntax_isWord_j1, wordB]
  | cons c r =>
    have h := isWord_l (c :: r) hs (c :: r).length 0 k (by simp) hk
    have h0 : ((c :: r : Str) == w_0) = false := rfl
    rw [h0, if_neg (by simp), chk_pos (by decide)]
    simp only [Int.toNat_zero, List.getElem?_cons_zero, Option.bind_some, letter_eq, syntax_isWord_j1]
    have h' : syntax_isWord_l2 k (c :: r) 0 = some ((c :: r).all innB) := by simpa using h
    rw [h']
    have : letB c = true → innB c = true := fun hl => by simp [innN, hl]
    simp only [wordB, List.all_cons]
    cases hl : letB c <;> simp_all
theorem word_l (s : Str) (hs : s.length ≤ 9223372036854775806) : ∀ (d i k : Nat), i + d = s.length → d < k → 0 < i → l36_word_l1 k s (i : Int) = some ((s.drop i).all innB && !(s == w_0))
  | d, i, 0, _, h, _ => by omega
  | 0, i, k + 1, hd, _, h0 => by
    rw [l36_word_l1, if_neg (by simp; omega), List.drop_eq_nil_of_le (by omega)]; simp
  | d + 1, i, k + 1, hd, hk, h0 => by
    have hi : i < s.length := by omega
    have hne : ((i : Int) == 0) = false := by simp; omega
    rw [l36_word_l1, if_pos (by simp; omega), chk_pos (dec_nonneg i), toNat_cast, List.getElem?_eq_getElem hi, Option.bind_some, begins_eq, Option.bind_some, chk_pos (dec_nonneg i), Option.bind_some, ldigit_eq, Option.bind_some, chk_pos (dec_nonneg i), Option.bind_some,
      w64_succ (by omega), word_l s hs d (i + 1) k (by omega) (by omega) (by omega), List.drop_eq_getElem_cons hi, List.all_cons, hne]
    have e : innB s[i] = (letB s[i] || digB s[i] || s[i].toNat == 45) := rfl
    have e2 : (((s[i].toNat : Int)) != 45) = !(s[i].toNat == 45) := by
      rw [Bool.eq_iff_iff]; simp [bne]; omega
    rw [e, e2]
    cases letB s[i] <;> cases digB s[i] <;> cases (s[i].toNat == 45) <;> simp
theorem word_eq {s : Str} {k : Nat} (hs : s.length ≤ 9223372036854775806) (hk : s.length < k) : l36_word k s = some (wordB s) := by
  unfold l36_word
  obtain ⟨k, rfl⟩ : ∃ m, k = m + 1 := ⟨k - 1, by omega⟩
  cases s with
  | nil => rfl
  | cons c r =>
    simp only [List.length_cons] at hk hs
    have h := word_l (c :: r) (by simpa using hs) r.length 1 k (by rw [List.length_cons]; omega) (by omega) (by omega)
    rw [l36_word_l1, if_pos (by simp), chk_pos (by decide), Int.toNat_zero, List.getElem?_cons_zero, Option.bind_some, begins_eq, Option.bind_some]
    have h1 : w64 (0 + 1) = ((1 : Nat) : Int) := by decide
    rw [h1, h]
    simp only [wordB]
    cases hl : letB c <;> simp
/-! ### names -/
def resK : List Str := [w_and, w_attr, w_false, w_has, w_not, w_or, w_prefix, w_true, w_ancestor, w_before, w_by, w_compute, w_desc, w_distinct, w_estimate, w_find, w_greatest, w_group, w_least, w_limit, w_link, w_matches, w_order, w_parent, w_quantile, w_sibling, w_slots, w_sum, w_traces, w_where]
theorem lreserved_eq : l36_reserved = some resK := rfl
theorem among_l (s : Str) (n : Nat) (hn : n ≤ resK.length) : ∀ (d i k : Nat), i + d = n → d < k → l36_among_l1 k s (n : Int) (i : Int) = some (((resK.take n).drop i).contains s)
  | d, i, 0, _, h => by omega
  | 0, i, k + 1, hd, _ => by
    rw [l36_among_l1, if_neg (by simp; omega), List.drop_eq_nil_of_le (by simp; omega)]; rfl
  | d + 1, i, k + 1, hd, hk => by
    have h30 : resK.length = 30 := rfl
    have hi : i < resK.length := by omega
    have hi2 : i < (resK.take n).length := by rw [List.length_take]; omega
    rw [l36_among_l1, if_pos (by simp; omega), lreserved_eq, Option.bind_some, chk_pos (dec_nonneg i), toNat_cast, List.getElem?_eq_getElem hi, Option.bind_some, w64_succ (by omega),
      among_l s n hn d (i + 1) k (by omega) (by omega), List.drop_eq_getElem_cons hi2, List.contains_cons, List.getElem_take]
    have e : (resK[i] == s) = (s == resK[i]) := by generalize resK[i] = y; rw [Bool.eq_iff_iff, beq_iff_eq, beq_iff_eq]; exact eq_comm
    rw [e]
    cases (s == resK[i]) <;> simp
theorem among_eq {s : Str} {n k : Nat} (hn : n ≤ 30) (hk : n < k) : l36_among k s (n : Int) = some ((resK.take n).contains s) := by
  unfold l36_among
  have := among_l s n (by exact hn) n 0 k (by omega) hk
  simpa using this
def varB (s : Str) : Bool := wordB s && decide (s.length ≤ 64) && !resK.contains s
def fldB (s : Str) : Bool := wordB s && decide (s.length ≤ 64) && !(resK.take 8).contains s
theorem dec_len (s : Str) : decide ((s.length : Int) ≤ 64) = decide (s.length ≤ 64) := by
  rw [Bool.eq_iff_iff]; simp; omega
theorem resWords_eq (s : Str) : resWords.contains s = resK.contains s := by
  have h1 : ∀ x ∈ resWords, x ∈ resK := by decide +kernel
  have h2 : ∀ x ∈ resK, x ∈ resWords := by decide +kernel
  rw [Bool.eq_iff_iff, List.contains_iff_mem, List.contains_iff_mem]
  exact ⟨h1 s, h2 s⟩
theorem lvariable_eq {s : Str} {k : Nat} (hs : s.length ≤ 9223372036854775806) (hk : s.length < k) (hk2 : 30 < k) : l36_variable k s = some (varB s) := by
  unfold l36_variable
  rw [word_eq hs hk, Option.bind_some, lreserved_eq, Option.bind_some]
  have : l36_among k s ((resK.length : Nat) : Int) = some ((resK.take 30).contains s) := among_eq (n := 30) (Nat.le_refl _) hk2
  rw [this, Option.bind_some, dec_len]
  have e : resK.take 30 = resK := rfl
  rw [e]
  unfold varB
  cases wordB s <;> cases decide (s.length ≤ 64) <;> simp
theorem lfield_eq {s : Str} {k : Nat} (hs : s.length ≤ 9223372036854775806) (hk : s.length < k) (hk2 : 30 < k) : l36_field k s = some (fldB s) := by
  unfold l36_field
  have : l36_among k s 8 = some ((resK.take 8).contains s) := among_eq (n := 8) (by omega) (by omega)
  rw [word_eq hs hk, Option.bind_some, this, Option.bind_some, dec_len]
  unfold fldB
  cases wordB s <;> cases decide (s.length ≤ 64) <;> simp
theorem IsVariable_eq {s : Str} {k : Nat} (hs : s.length ≤ 9223372036854775806) (hk : s.length < k) : syntax_IsVariable k s = some (varB s) := by
  unfold syntax_IsVariable
  rw [isWord_eq hs hk, Option.bind_some, dec_len, resWords_eq]
  unfold varB
  cases wordB s <;> cases decide (s.length ≤ 64) <;> simp
theorem IsField_eq {s : Str} {k : Nat} (hs : s.length ≤ 9223372036854775806) (hk : s.length < k) : syntax_IsField k s = some (fldB s) := by
  unfold syntax_IsField
  rw [isWord_eq hs hk, Option.bind_some]
  have e : decide ((s.length : Int) > 64) = !decide (s.length ≤ 64) := by rw [Bool.eq_iff_iff]; simp; omega
  rw [e]
  have e8 : resK.take 8 = [w_and, w_attr, w_false, w_has, w_not, w_or, w_prefix, w_true] := rfl
  unfold fldB syntax_IsField_j1
  rw [e8]
  simp only [List.contains_cons, List.contains_nil]
  cases wordB s <;> cases decide (s.length ≤ 64) <;> cases (s == w_and) <;> cases (s == w_attr) <;> cases (s == w_false) <;> cases (s == w_has) <;> cases (s == w_not) <;> cases (s == w_or) <;> cases (s == w_prefix) <;> cases (s == w_true) <;> rfl
end Go.Proofs.YtfnaahkgegfbnaaGreatDoor
