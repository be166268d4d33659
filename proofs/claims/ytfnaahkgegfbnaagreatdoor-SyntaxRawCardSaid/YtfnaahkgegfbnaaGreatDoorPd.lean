/- The writer: tokens with the spaces between them; a predicate's tokens. -/
import Derived.Test.YtfnaahkgegfbnaaGreatDoorPc
set_option linter.unusedVariables false
set_option linter.unusedSimpArgs false
namespace Go.Proofs.YtfnaahkgegfbnaaGreatDoor

/-! ### tokens and what is written of them -/
structure PTk where
  k : Int
  s : Str
  txt : Str
def spB (ak : Int) (sa : Str) (bk : Int) (sb : Str) : Bool :=
  (ak == 4 && (sa == wx2c || (sa == wx3d || sa == wx3c))) || ((bk == 4 && (sb == wx3d || sb == wx3c)) || ((bk == 1 && !(ak == 4 && namesT.contains sa)) || (ak == 1 && !(bk == 4 && (sb == wx2828 || namesC.contains sb)))))
def unp (s : Str) : Str := if (s == wx2828) = true then wx28 else s
structure PW where
  b : Str
  k : Int
  s : Str
def toI (l : Str) : List Int := l.map fun b : UInt8 => (b.toNat : Int)
theorem toI_append (a b : Str) : toI (a ++ b) = toI a ++ toI b := List.map_append
theorem toI_len (a : Str) : (toI a).length = a.length := List.length_map ..
theorem ofI (a : Str) : (toI a).map (fun q : Int => UInt8.ofNat q.toNat) = a := by
  rw [toI, List.map_map]
  have : ((fun q : Int => UInt8.ofNat q.toNat) ∘ fun b : UInt8 => (b.toNat : Int)) = id := by
    funext b
    simp
  rw [this, List.map_id]
def PW.w (x : PW) : SWriter := ⟨toI x.b, ⟨x.k, 0, x.s, 0⟩⟩
def PW.sp (x : PW) (t : PTk) : Str := if (decide (0 < x.b.length) && spB x.k x.s t.k t.s) = true then [32] else []
def PW.put (x : PW) (t : PTk) : PW := ⟨x.b ++ x.sp t ++ t.txt, t.k, unp t.s⟩
def PW.puts (x : PW) (l : List PTk) : PW := l.foldl PW.put x
theorem PW.puts_append (x : PW) (l m : List PTk) : x.puts (l ++ m) = (x.puts l).puts m := List.foldl_append ..
theorem PW.puts_cons (x : PW) (t : PTk) (l : List PTk) : x.puts (t :: l) = (x.put t).puts l := rfl
/-- at most so many bytes -/
def tb : List PTk → Nat
  | [] => 0
  | t :: l => t.txt.length + 1 + tb l
theorem tb_append (l m : List PTk) : tb (l ++ m) = tb l + tb m := by
  induction l with
  | nil => simp [tb]
  | cons t l ih => simp only [List.cons_append, tb, ih]; omega
theorem PW.put_len (x : PW) (t : PTk) : (x.put t).b.length ≤ x.b.length + 1 + t.txt.length := by
  simp only [PW.put, PW.sp, List.length_append]
  split <;> simp <;> omega
theorem PW.puts_len (l : List PTk) : ∀ x : PW, (x.puts l).b.length ≤ x.b.length + tb l := by
  induction l with
  | nil => intro x; exact Nat.le_refl _
  | cons t l ih => intro x; have := ih (x.put t); have := x.put_len t; rw [PW.puts_cons]; simp only [tb]; omega

theorem index_l (l : List Str) (s : Str) (hl : l.length ≤ 100) : ∀ (d i k : Nat), i + d = l.length → d < k → ∃ r, slices_Index_string_l1 k l s (i : Int) = some r ∧ decide (r ≥ 0) = (l.drop i).contains s
  | d, i, 0, _, h => by omega
  | 0, i, k + 1, hd, _ => ⟨-1, by rw [slices_Index_string_l1, if_neg (by simp; omega)], by rw [List.drop_eq_nil_of_le (by omega)]; rfl⟩
  | d + 1, i, k + 1, hd, hk => by
    have hi : i < l.length := by omega
    obtain ⟨r, hr, hr2⟩ := index_l l s hl d (i + 1) k (by omega) (by omega)
    rw [slices_Index_string_l1, if_pos (by simp; omega), chk_pos (dec_nonneg i), toNat_cast, List.getElem?_eq_getElem hi, Option.bind_some, w64_succ (by omega), List.drop_eq_getElem_cons hi, List.contains_cons]
    cases hx : (s == l[i]) with
    | true => exact ⟨_, by rw [if_pos rfl], by simp⟩
    | false => exact ⟨r, by rw [if_neg (by simp)]; exact hr, by simpa using hr2⟩
theorem Contains_eq {l : List Str} {s : Str} {k : Nat} (hl : l.length ≤ 100) (hk : l.length < k) : slices_Contains_string k l s = some (l.contains s) := by
  unfold slices_Contains_string slices_Index_string
  obtain ⟨r, hr, hr2⟩ := index_l l s hl l.length 0 k (by omega) hk
  have hr' : slices_Index_string_l1 k l s 0 = some r := hr
  rw [hr', Option.bind_some, hr2, List.drop_zero]
theorem spaced_eq {a b : SToken} {k : Nat} (hk : 10 < k) : syntax_spaced k a b = some (spB a.kind a.s_ b.kind b.s_) := by
  have h1 : slices_Contains_string k namesT a.s_ = some (namesT.contains a.s_) := Contains_eq (by decide) (by have : namesT.length = 3 := rfl; omega)
  have h2 : slices_Contains_string k namesC b.s_ = some (namesC.contains b.s_) := Contains_eq (by decide) (by have : namesC.length = 5 := rfl; omega)
  unfold syntax_spaced syntax_spaced_j1 syntax_spaced_j2 spB
  rw [h1, h2]
  generalize namesT.contains a.s_ = c1
  generalize namesC.contains b.s_ = c2
  simp only [Option.bind_some]
  cases (a.kind == 4) <;> cases (b.kind == 4) <;> cases (a.kind == 1) <;> cases (b.kind == 1) <;> cases (a.s_ == wx2c) <;> cases (a.s_ == wx3d) <;> cases (a.s_ == wx3c) <;> cases (b.s_ == wx3d) <;> cases (b.s_ == wx3c) <;> cases (b.s_ == wx2828) <;> cases c1 <;> cases c2 <;> rfl
theorem put_eq {x : PW} {t : PTk} {k : Nat} (hk : 10 < k) (hb : x.b.length + 1 + t.txt.length ≤ 140737488355328) : writer_put k x.w ⟨t.k, 0, t.s, 0⟩ t.txt = some (x.put t).w := by
  unfold writer_put writer_put_j3 writer_put_j2
  rw [spaced_eq hk, Option.bind_some]
  have e1 : decide (((x.w.out).length : Int) > 0) = decide (0 < x.b.length) := by
    rw [Bool.eq_iff_iff]; simp [PW.w, toI_len]
  have e2 : spB x.w.last.kind x.w.last.s_ t.k t.s = spB x.k x.s t.k t.s := rfl
  have e3 : ∀ l : Str, List.map (fun b : UInt8 => (b.toNat : Int)) l = toI l := fun l => rfl
  have e4 : x.w.out = toI x.b := rfl
  have e5 : toI x.b ++ [32] = toI (x.b ++ [32]) := by rw [toI_append]; rfl
  rw [e1]
  simp only [e2, e3, e4, e5, ← toI_append, toI_len, List.length_append, List.length_singleton, List.length_cons, List.length_nil]
  have c1 : decide ((x.b.length + 0 + 1) * 1 ≤ 140737488355328) = true := decide_eq_true (by omega)
  have c2 : decide (x.b.length + t.txt.length ≤ 140737488355328) = true := decide_eq_true (by omega)
  have c3 : decide (x.b.length + 1 + t.txt.length ≤ 140737488355328) = true := decide_eq_true (by omega)
  have c4 : decide (x.b.length + (0 + 1) + t.txt.length ≤ 140737488355328) = true := decide_eq_true (by omega)
  have c5 : decide ((x.b.length + 1) * 1 ≤ 140737488355328) = true := decide_eq_true (by omega)
  have c6 : decide ((x.b.length + (0 + 1)) * 1 ≤ 140737488355328) = true := decide_eq_true (by omega)
  unfold PW.put PW.sp
  simp only [c1, c2, c3, c4, c5, c6, chk_true]
  have e6 : ∀ l : Str, (if (t.s == wx2828) = true then some (SWriter.mk (toI l) (SToken.mk t.k 0 wx28 0)) else some (SWriter.mk (toI l) ⟨t.k, 0, t.s, 0⟩)) = some (PW.w ⟨l, t.k, unp t.s⟩) := by
    intro l
    unfold unp PW.w
    split <;> rfl
  simp only [e6]
  generalize decide (0 < x.b.length) = c
  generalize spB x.k x.s t.k t.s = c'
  cases c <;> cases c' <;> simp
def tW (s : Str) : PTk := ⟨1, s, s⟩
def tS (s : Str) : PTk := ⟨4, s, s⟩
theorem tb_drop_W (l : List Str) (i : Nat) (h : i < l.length) : tb ((l.drop i).map tW) = l[i].length + 1 + tb ((l.drop (i + 1)).map tW) := by
  rw [List.drop_eq_getElem_cons h]; rfl
theorem words_l (l : List Str) (hl : l.length ≤ 100) : ∀ (d i k : Nat) (x : PW), i + d = l.length → d + 11 < k → x.b.length + tb ((l.drop i).map tW) ≤ 140737488355328 →
    writer_words_l1 k l (toI x.b) x.k 0 x.s 0 (i : Int) = some (x.puts ((l.drop i).map tW)).w
  | d, i, 0, x, _, h, _ => by omega
  | 0, i, k + 1, x, hd, _, _ => by
    rw [writer_words_l1, if_neg (by simp; omega), List.drop_eq_nil_of_le (by omega)]; rfl
  | d + 1, i, k + 1, x, hd, hk, hb => by
    have hi : i < l.length := by omega
    have ht := tb_drop_W l i hi
    have hp := put_eq (x := x) (t := tW l[i]) (k := k) (by omega) (by simp only [tW]; omega)
    have hp' : writer_put k ⟨toI x.b, ⟨x.k, 0, x.s, 0⟩⟩ ⟨1, 0, l[i], 0⟩ l[i] = some (x.put (tW l[i])).w := hp
    have hlen := x.put_len (tW l[i])
    rw [writer_words_l1, if_pos (by simp; omega), chk_pos (dec_nonneg i), toNat_cast, List.getElem?_eq_getElem hi, Option.bind_some, hp', Option.bind_some, w64_succ (by omega)]
    have := words_l l hl d (i + 1) k (x.put (tW l[i])) (by omega) (by omega) (by simp only [tW] at hlen ⊢; omega)
    rw [show (x.put (tW l[i])).w.out = toI (x.put (tW l[i])).b from rfl, show (x.put (tW l[i])).w.last.kind = (x.put (tW l[i])).k from rfl, show (x.put (tW l[i])).w.last.at_ = 0 from rfl, show (x.put (tW l[i])).w.last.s_ = (x.put (tW l[i])).s from rfl, show (x.put (tW l[i])).w.last.n_ = 0 from rfl, this, List.drop_eq_getElem_cons hi]
    rfl
theorem words_eq {l : List Str} {x : PW} {k : Nat} (hl : l.length ≤ 100) (hk : l.length + 11 < k) (hb : x.b.length + tb (l.map tW) ≤ 140737488355328) : writer_words k x.w l = some (x.puts (l.map tW)).w := by
  unfold writer_words
  have := words_l l hl l.length 0 k x (by omega) hk (by simpa using hb)
  exact this
theorem word1_eq {s : Str} {x : PW} {k : Nat} (hk : 12 < k) (hb : x.b.length + 1 + s.length ≤ 140737488355328) : writer_words k x.w [s] = some (x.put (tW s)).w := by
  have := words_eq (l := [s]) (x := x) (k := k) (by simp) (by simpa using hk) (by simp [tb, tW]; omega)
  exact this
theorem sign_eq {s : Str} {x : PW} {k : Nat} (hk : 10 < k) (hb : x.b.length + 1 + s.length ≤ 140737488355328) : writer_sign k x.w s = some (x.put (tS s)).w := by
  unfold writer_sign
  have hp := put_eq (x := x) (t := tS s) (k := k) hk hb
  have hp' : writer_put k x.w ⟨4, 0, s, 0⟩ s = some (x.put (tS s)).w := hp
  rw [hp']; rfl

/-! ### strings -/
def escB (c : UInt8) : Str := if (c == 34 || c == 92) = true then [92, c] else [c]
def esc (s : Str) : Str := s.flatMap escB
def quo (s : Str) : Str := 34 :: (esc s ++ [34])
def tT (s : Str) : PTk := ⟨3, w_0, quo s⟩
theorem esc_cons (c : UInt8) (s : Str) : esc (c :: s) = escB c ++ esc s := rfl
theorem esc_len (s : Str) : (esc s).length ≤ 2 * s.length := by
  induction s with
  | nil => simp [esc]
  | cons c s ih =>
    rw [esc_cons, List.length_append, List.length_cons]
    have : (escB c).length ≤ 2 := by unfold escB; split <;> simp
    omega
theorem u8_beq (c : UInt8) (n : Nat) (hn : n < 256) : ((c.toNat : Int) == (n : Int)) = (c == UInt8.ofNat n) := by
  rw [Bool.eq_iff_iff, beq_iff_eq, beq_iff_eq]
  constructor
  · intro h
    have h' : c.toNat = n := by omega
    rw [← h']; simp
  · intro h
    subst h
    simp; omega
theorem toI_single (c : UInt8) : [(c.toNat : Int)] = toI [c] := rfl
theorem toI_snoc (a : Str) (c : UInt8) : toI a ++ [(c.toNat : Int)] = toI (a ++ [c]) := by rw [toI_append]; rfl
theorem text_l (x : PW) (s : Str) (hs : s.length ≤ 1000000000) (hx : x.b.length ≤ 1000000000) : ∀ (d i k : Nat) (pre : Str), i + d = s.length → 2 * d + 11 < k → pre.length + 2 * d ≤ 2000000001 →
    writer_text_l3 k x.w s (toI pre) (i : Int) = some (x.put ⟨3, w_0, pre ++ esc (s.drop i) ++ [34]⟩).w
  | d, i, 0, pre, _, h, _ => by omega
  | 0, i, k + 1, pre, hd, hk, hb => by
    have hp := put_eq (x := x) (t := ⟨3, w_0, pre ++ [34]⟩) (k := k) (by omega) (by simp; omega)
    have e : toI pre ++ [34] = toI (pre ++ [34]) := by rw [toI_append]; rfl
    have hp' : writer_put k x.w ⟨3, 0, w_0, 0⟩ (pre ++ [34]) = some (x.put ⟨3, w_0, pre ++ [34]⟩).w := hp
    rw [writer_text_l3, if_neg (by simp; omega), e, ofI, chk_pos (by rw [toI_len]; simp; omega), hp', Option.bind_some, List.drop_eq_nil_of_le (by omega)]
    simp [esc]
  | d + 1, i, 1, pre, hd, hk, hb => by omega
  | d + 1, i, k + 2, pre, hd, hk, hb => by
    have hi : i < s.length := by omega
    have b34 : ((s[i].toNat : Int) == 34) = (s[i] == 34) := u8_beq s[i] 34 (by omega)
    have b92 : ((s[i].toNat : Int) == 92) = (s[i] == 92) := u8_beq s[i] 92 (by omega)
    have e92 : toI pre ++ [92] = toI (pre ++ [92]) := by rw [toI_append]; rfl
    have j4 : ∀ q : Str, q.length ≤ pre.length + 1 → writer_text_j4 (k + 1) x.w s (i : Int) (toI q) = some (x.put ⟨3, w_0, q ++ [s[i]] ++ esc (s.drop (i + 1)) ++ [34]⟩).w := by
      intro q hq
      rw [writer_text_j4, chk_pos (dec_nonneg i), toNat_cast, List.getElem?_eq_getElem hi, Option.bind_some, toI_snoc, chk_pos (by rw [toI_len]; simp; omega), w64_succ (by omega),
        text_l x s hs hx d (i + 1) k (q ++ [s[i]]) (by omega) (by omega) (by simp; omega)]
    rw [writer_text_l3, if_pos (by simp; omega), chk_pos (dec_nonneg i), toNat_cast, List.getElem?_eq_getElem hi, Option.bind_some, chk_pos (dec_nonneg i), Option.bind_some, e92, chk_pos (by rw [toI_len]; simp; omega), j4 _ (by simp), j4 _ (by omega), b34, b92,
      List.drop_eq_getElem_cons hi, esc_cons]
    unfold escB
    cases h1 : (s[i] == 34) <;> cases h2 : (s[i] == 92) <;> simp
theorem text_eq {x : PW} {s : Str} {k : Nat} (hs : s.length ≤ 1000000000) (hx : x.b.length ≤ 1000000000) (hk : 2 * s.length + 11 < k) : writer_text k x.w s = some (x.put (tT s)).w := by
  unfold writer_text
  have := text_l x s hs hx s.length 0 k [34] (by omega) hk (by simp; omega)
  have e : ([34] : List Int) = toI [34] := rfl
  have h0 : (0 : Int) = ((0 : Nat) : Int) := rfl
  rw [e, h0, this]
  rfl
def labT (s : Str) : PTk := if wordB s = true then tW s else tT s
theorem label_eq {x : PW} {s : Str} {k : Nat} (hs : s.length ≤ 1000000000) (hx : x.b.length ≤ 1000000000) (hk : 2 * s.length + 13 < k) : writer_label k x.w s = some (x.put (labT s)).w := by
  unfold writer_label labT
  rw [isWord_eq (by omega) (by omega), Option.bind_some, word1_eq (by omega) (by omega), Option.bind_some, text_eq hs hx (by omega), Option.bind_some]
  split <;> rfl
def pathT (f ke : Str) : List PTk := if (f == w_attr) = true then [tW f, tS wx2e, labT ke] else [tW f]
theorem path_eq {x : PW} {f ke : Str} {k : Nat} (hf : f.length ≤ 100000000) (hs : ke.length ≤ 100000000) (hx : x.b.length ≤ 100000000) (hk : 2 * ke.length + 13 < k) : writer_path k x.w f ke = some (x.puts (pathT f ke)).w := by
  unfold writer_path pathT
  have h1 := x.put_len (tW f)
  have h2 := (x.put (tW f)).put_len (tS wx2e)
  have e1 : (tW f).txt.length = f.length := rfl
  have e2 : (tS wx2e).txt.length = 1 := rfl
  rw [word1_eq (by omega) (by omega), Option.bind_some, sign_eq (by omega) (by have : wx2e.length = 1 := rfl; omega), Option.bind_some, label_eq (by omega) (by omega) (by omega), Option.bind_some]
  split <;> rfl
theorem decK_len : ∀ k u, (decK k u).length ≤ k
  | 0, u => Nat.le_refl _
  | k + 1, u => by
    unfold decK
    split
    · simp
    · have := decK_len k (u / 10); simp; omega
def tN (n : Int) : PTk := ⟨2, w_0, itoaK n⟩
def numT (n : Int) : List PTk := if decide (n < 0) = true then [tS wx2d, tN (0 - n)] else [tN n]
theorem itoaK_len (n : Int) : (itoaK n).length ≤ 21 := by
  unfold itoaK
  split
  · have := decK_len 20 n.natAbs; simp; omega
  · have := decK_len 20 n.toNat; omega
theorem number_eq {x : PW} {n : Int} {k : Nat} (h0 : -4611686018427387904 ≤ n) (h1 : n ≤ 4611686018427387904) (hx : x.b.length ≤ 100000000) (hk : 13 < k) : writer_number k x.w n = some (x.puts (numT n)).w := by
  unfold writer_number numT strconv_Itoa
  have hl1 := itoaK_len n
  have hl2 := itoaK_len (0 - n)
  have hp := x.put_len (tS wx2d)
  have e2 : (tS wx2d).txt.length = 1 := rfl
  have q1 := put_eq (x := x) (t := tN n) (k := k) (by omega) (by simp only [tN]; omega)
  have q2 := put_eq (x := x.put (tS wx2d)) (t := tN (0 - n)) (k := k) (by omega) (by simp only [tN]; omega)
  have q1' : writer_put k ⟨x.w.out, ⟨x.w.last.kind, x.w.last.at_, x.w.last.s_, x.w.last.n_⟩⟩ ⟨2, 0, w_0, 0⟩ (itoaK n) = some (x.put (tN n)).w := q1
  have q2' : writer_put k ⟨(x.put (tS wx2d)).w.out, ⟨(x.put (tS wx2d)).w.last.kind, (x.put (tS wx2d)).w.last.at_, (x.put (tS wx2d)).w.last.s_, (x.put (tS wx2d)).w.last.n_⟩⟩ ⟨2, 0, w_0, 0⟩ (itoaK (0 - n)) = some ((x.put (tS wx2d)).put (tN (0 - n))).w := q2
  rw [sign_eq (by omega) (by have : wx2d.length = 1 := rfl; omega), Option.bind_some, w64_id (by omega) (by omega), chk_pos (by simp; omega), chk_pos (by simp; omega), Option.bind_some, q2', Option.bind_some, Option.bind_some, q1', Option.bind_some]
  split <;> rfl
def valT (v : GValue) : List PTk := if (v.Kind == 1) = true then [tT v.Text] else if (v.Kind == 2) = true then numT v.Int else [tW (if (v.Int == 1) = true then w_true else w_false)]
/-- a value that has a text -/
def okV (v : GValue) : Prop := v.Kind = 1 ∨ (v.Kind = 2 ∧ -1099511627776 ≤ v.Int ∧ v.Int ≤ 1099511627776) ∨ (v.Kind = 3 ∧ (v.Int = 0 ∨ v.Int = 1))
theorem value_eq {x : PW} {v : GValue} {k : Nat} (hv : okV v) (hs : v.Text.length ≤ 100000000) (hx : x.b.length ≤ 100000000) (hk : 2 * v.Text.length + 13 < k) : writer_value k x.w v = some (x.puts (valT v)).w := by
  unfold writer_value valT
  rcases hv with h | ⟨h, h0, h1⟩ | ⟨h, h0 | h0⟩
  · rw [h]
    simp only [beq_self_eq_true, if_true]
    rw [text_eq (by omega) (by omega) (by omega), Option.bind_some]; rfl
  · have e1 : (v.Kind == 1) = false := by rw [h]; rfl
    have e2 : (v.Kind == 2) = true := by rw [h]; rfl
    rw [e1, e2]
    simp only [Bool.false_eq_true, if_false, if_true]
    rw [number_eq (by omega) (by omega) (by omega) (by omega), Option.bind_some]
  · have e1 : (v.Kind == 1) = false := by rw [h]; rfl
    have e2 : (v.Kind == 2) = false := by rw [h]; rfl
    rw [e1, e2, h0]
    have w := word1_eq (s := w_false) (x := x) (k := k) (by omega) (by have : w_false.length = 5 := rfl; omega)
    simp only [Bool.false_eq_true, if_false]
    exact (congrArg (fun z : Option SWriter => z.bind fun r27 => some r27) w)
  · have e1 : (v.Kind == 1) = false := by rw [h]; rfl
    have e2 : (v.Kind == 2) = false := by rw [h]; rfl
    rw [e1, e2, h0]
    have w := word1_eq (s := w_true) (x := x) (k := k) (by omega) (by have : w_true.length = 4 := rfl; omega)
    simp only [Bool.false_eq_true, if_false]
    exact (congrArg (fun z : Option SWriter => z.bind fun r27 => some r27) w)
end Go.Proofs.YtfnaahkgegfbnaaGreatDoor
