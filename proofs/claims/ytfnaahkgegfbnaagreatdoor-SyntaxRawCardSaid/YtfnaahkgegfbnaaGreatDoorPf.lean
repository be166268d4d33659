/- The text of tokens; the model's text of a predicate is that of its tokens. -/
import Derived.Test.YtfnaahkgegfbnaaGreatDoorPe
set_option linter.unusedVariables false
set_option linter.unusedSimpArgs false
namespace Go.Proofs.YtfnaahkgegfbnaaGreatDoor

/-! ### the text of tokens -/
def sepB (l : Int × Str) (t : PTk) : Str := if spB l.1 l.2 t.k t.s = true then [32] else []
def ren (l : Int × Str) : List PTk → Str
  | [] => []
  | t :: ts => sepB l t ++ t.txt ++ ren (t.k, unp t.s) ts
def txt0 : List PTk → Str
  | [] => []
  | t :: ts => t.txt ++ ren (t.k, unp t.s) ts
def lst (l : Int × Str) : List PTk → Int × Str
  | [] => l
  | t :: ts => lst (t.k, unp t.s) ts
theorem ren_append (ts us : List PTk) : ∀ l, ren l (ts ++ us) = ren l ts ++ ren (lst l ts) us := by
  induction ts with
  | nil => intro l; rfl
  | cons t ts ih => intro l; simp only [List.cons_append, ren, lst, ih, List.append_assoc]
theorem lst_append (ts us : List PTk) : ∀ l, lst l (ts ++ us) = lst (lst l ts) us := by
  induction ts with
  | nil => intro l; rfl
  | cons t ts ih => intro l; simp only [List.cons_append, lst, ih]
theorem ren_cons (l : Int × Str) (t : PTk) (ts : List PTk) : ren l (t :: ts) = sepB l t ++ txt0 (t :: ts) := by simp only [ren, txt0, List.append_assoc]
theorem txt0_append {ts us : List PTk} (h : ts ≠ []) : txt0 (ts ++ us) = txt0 ts ++ ren (lst (0, w_0) ts) us := by
  cases ts with
  | nil => exact absurd rfl h
  | cons t ts => simp only [List.cons_append, txt0, ren_append, lst, List.append_assoc]
theorem lst_any {ts : List PTk} (h : ts ≠ []) (l m : Int × Str) : lst l ts = lst m ts := by
  cases ts with
  | nil => exact absurd rfl h
  | cons t ts => rfl
theorem ren_len (ts : List PTk) : ∀ l, (ren l ts).length ≤ tb ts := by
  induction ts with
  | nil => intro l; exact Nat.le_refl _
  | cons t ts ih =>
    intro l
    have := ih (t.k, unp t.s)
    have h : (sepB l t).length ≤ 1 := by unfold sepB; split <;> simp
    simp only [ren, List.length_append, tb]; omega
theorem txt0_len (ts : List PTk) : (txt0 ts).length ≤ tb ts := by
  cases ts with
  | nil => exact Nat.le_refl _
  | cons t ts => have := ren_len ts (t.k, unp t.s); simp only [txt0, List.length_append, tb]; omega
/-- what the writer has written -/
theorem puts_b : ∀ (ts : List PTk) (x : PW), 0 < x.b.length → (x.puts ts).b = x.b ++ ren (x.k, x.s) ts
  | [], x, _ => by simp [PW.puts, ren]
  | t :: ts, x, h => by
    have h1 : 0 < (x.put t).b.length := by simp only [PW.put, List.length_append]; omega
    rw [PW.puts_cons, puts_b ts _ h1]
    have e : x.sp t = sepB (x.k, x.s) t := by
      unfold PW.sp sepB
      rw [decide_eq_true h, Bool.true_and]
    have e2 : (x.put t).b = x.b ++ sepB (x.k, x.s) t ++ t.txt := by rw [← e]; rfl
    rw [e2]
    simp only [ren, List.append_assoc]
    rfl
def PW.o : PW := ⟨[], 0, w_0⟩
theorem puts_o {t : PTk} {ts : List PTk} (h : 0 < t.txt.length) : (PW.o.puts (t :: ts)).b = txt0 (t :: ts) := by
  have e : (PW.o.put t).b = t.txt := rfl
  rw [PW.puts_cons, puts_b ts _ (by rw [e]; exact h), e]
  rfl

/-! ### beginnings and ends -/
def endK (l : Int × Str) : Prop := l.1 = 1 ∨ l.1 = 2 ∨ l.1 = 3 ∨ (l.1 = 4 ∧ l.2 = wx29)
def begK (t : PTk) : Prop := t.k = 1 ∨ (t.k = 4 ∧ t.s = wx28)
theorem sep_word {l : Int × Str} (h : endK l) (s : Str) : sepB l (tW s) = [32] := by
  unfold sepB spB tW
  rcases h with h | h | h | ⟨h, h2⟩
  · rw [h]; simp
  · rw [h]; simp
  · rw [h]; simp
  · rw [h, h2]; rfl
theorem sep_beg {t : PTk} (h : begK t) (s : Str) : sepB (1, s) t = [32] := by
  unfold sepB spB
  rcases h with h | ⟨h, h2⟩
  · rw [h]; simp
  · rw [h, h2]; rfl
theorem sep_open {t : PTk} (h : begK t) : sepB (4, wx28) t = [] := by
  unfold sepB spB
  rcases h with h | ⟨h, h2⟩
  · rw [h]; rfl
  · rw [h, h2]; rfl
theorem sep_close {l : Int × Str} (h : endK l) : sepB l (tS wx29) = [] := by
  unfold sepB spB tS
  rcases h with h | h | h | ⟨h, h2⟩
  · rw [h]; simp; decide
  · rw [h]; rfl
  · rw [h]; rfl
  · rw [h, h2]; rfl
theorem numT_lst (n : Int) (l : Int × Str) : endK (lst l (numT n)) := by
  unfold numT
  split
  · exact .inr (.inl rfl)
  · exact .inr (.inl rfl)
theorem valT_lst (v : GValue) (l : Int × Str) : endK (lst l (valT v)) := by
  unfold valT
  split
  · exact .inr (.inr (.inl rfl))
  · split
    · exact numT_lst _ _
    · exact .inl rfl
theorem labT_end (s : Str) (l : Int × Str) : endK (lst l [labT s]) := by
  unfold labT
  split
  · exact .inl rfl
  · exact .inr (.inr (.inl rfl))
theorem pathT_lst (f ke : Str) (l : Int × Str) : endK (lst l (pathT f ke)) := by
  unfold pathT
  split
  · exact labT_end ke (0, w_0)
  · exact .inl rfl
theorem pathT_cons (f ke : Str) : ∃ ts, pathT f ke = tW f :: ts := by
  unfold pathT
  split
  · exact ⟨_, rfl⟩
  · exact ⟨_, rfl⟩
/-- how a predicate's tokens begin and end -/
def BE (ts : List PTk) : Prop := (∃ t r, ts = t :: r ∧ begK t ∧ 0 < t.txt.length) ∧ ∀ l, endK (lst l ts)
theorem BE.ne {ts : List PTk} (h : BE ts) : ts ≠ [] := by
  obtain ⟨⟨t, r, rfl, _⟩, _⟩ := h
  exact List.cons_ne_nil _ _
theorem BE.wrap {ts : List PTk} (h : BE ts) (o : Int) : BE (wrapT o ts) := by
  unfold wrapT
  split
  · refine ⟨⟨_, _, rfl, .inr ⟨rfl, rfl⟩, by decide⟩, fun l => ?_⟩
    have e : tS wx28 :: (ts ++ [tS wx29]) = (tS wx28 :: ts) ++ [tS wx29] := rfl
    rw [e, lst_append]
    exact .inr (.inr (.inr ⟨rfl, rfl⟩))
  · exact h
theorem BE.of_tkK {o : Int} : ∀ (l : List GPred), (∀ q ∈ l, BE (tkA q)) → ∀ m, endK m → endK (lst m (tkK o l))
  | [], _, m, h => h
  | q :: l, h, m, hm => by
    have e : tkK o (q :: l) = (tW (sepT o) :: tkA q) ++ tkK o l := rfl
    rw [e, lst_append]
    exact BE.of_tkK l (fun x hx => h x (List.mem_cons_of_mem _ hx)) _ ((h q List.mem_cons_self).2 _)
theorem tkP_BE : ∀ p : GPred, allP okN p → BE (tkP p) := by
  refine GPred.byW fun p ih hok => ?_
  have hn := allP_node hok
  have hA : ∀ q ∈ p.Args, BE (tkA q) := fun q hq => (ih q (wP_arg hq) (allP_arg hok hq)).wrap _
  rw [tkP_eq]
  split
  · exact ⟨⟨_, _, rfl, .inl rfl, by decide⟩, fun l => .inl rfl⟩
  rename_i e0
  split
  · rename_i hj
    have h1 := hn.2.2.2 hj
    rw [tkJ_eq h1]
    have h0 := hA _ (List.getElem_mem h1)
    refine ⟨?_, fun l => ?_⟩
    · obtain ⟨⟨t, r, ht, hb, hp⟩, _⟩ := h0
      exact ⟨t, _, by rw [ht]; rfl, hb, hp⟩
    · rw [lst_append]
      exact BE.of_tkK _ (fun q hq => hA q (List.mem_of_mem_drop hq)) _ (h0.2 _)
  rename_i hj
  split
  · rename_i e3
    have h1 := hn.2.1 (by simpa using e3)
    rw [tkH_eq h1]
    exact ⟨⟨_, _, rfl, .inl rfl, by decide⟩, fun l => (hA _ (List.getElem_mem h1)).2 _⟩
  rename_i e3
  split
  · exact ⟨⟨_, _, rfl, .inl rfl, by decide⟩, fun l => labT_end p.Key (0, w_0)⟩
  rename_i e4
  have h5 : 5 ≤ p.Op := by
    have := hn.1
    have a0 : p.Op ≠ 0 := by simpa using e0
    have a3 : p.Op ≠ 3 := by simpa using e3
    have a4 : p.Op ≠ 4 := by simpa using e4
    have a1 : p.Op ≠ 1 := fun h => hj (by unfold isJ; rw [h]; rfl)
    have a2 : p.Op ≠ 2 := fun h => hj (by unfold isJ; rw [h]; rfl)
    omega
  obtain ⟨ts, hts⟩ := pathT_cons p.Field p.Key
  refine ⟨⟨tW p.Field, _, by rw [hts]; rfl, .inl rfl, (hn.2.2.1 h5).2⟩, fun l => ?_⟩
  rw [lst_append]
  exact valT_lst _ _
theorem tkA_BE {p : GPred} (h : allP okN p) : BE (tkA p) := (tkP_BE p h).wrap _

/-! ### the model's texts -/
theorem u8w (m : Nat) (h : m < 10) : UInt8.ofNat (IntKind.u8.wrap (w64 (48 + (m : Int)))).toNat = UInt8.ofNat (48 + m) := by
  have : ∀ m : Nat, m < 10 → UInt8.ofNat (IntKind.u8.wrap (w64 (48 + (m : Int)))).toNat = UInt8.ofNat (48 + m) := by decide +kernel
  exact this m h
theorem decDigits_len : ∀ n : Nat, n < 10 ^ 20 → (Lib.decDigits n).length ≤ 20 := by
  intro n h
  rw [← decK_eq 19 n h]
  exact decK_len 20 n
theorem decimal_nat : ∀ (n k : Nat), n ≤ 4611686018427387904 → n < 10 ^ k → l36_decimal (k + 2) (n : Int) = some (Lib.decDigits n) := by
  intro n
  induction n using Nat.strongRecOn with
  | ind n ih =>
    intro k hn hk
    rw [l36_decimal, if_neg (by simp)]
    by_cases h10 : n < 10
    · rw [if_pos (by simp; omega), Lib.decDigits, dif_pos h10]
      simp only [List.map_cons, List.map_nil, u8w n h10]
    · obtain ⟨k, rfl⟩ : ∃ m, k = m + 1 := ⟨k - 1, by cases k with | zero => simp at hk; omega | succ k => rfl⟩
      have hk' : n / 10 < 10 ^ k := by rw [Nat.div_lt_iff_lt_mul (by omega)]; rw [Nat.pow_succ] at hk; exact hk
      have e1 : ((n : Int)).tdiv 10 = ((n / 10 : Nat) : Int) := by rw [Int.tdiv_eq_ediv_of_nonneg (by omega)]; rfl
      have e2 : ((n : Int)).tmod 10 = ((n % 10 : Nat) : Int) := by rw [Int.tmod_eq_emod_of_nonneg (by omega)]; rfl
      have h20 : n < 10 ^ 20 := by have : (10 : Nat) ^ 20 = 100000000000000000000 := by decide
                                   omega
      have l1 := decDigits_len (n / 10) (by omega)
      have l2 := decDigits_len (n % 10) (by omega)
      have hm : n % 10 < 10 ^ (k + 1) := by
        have : 10 ^ 1 ≤ 10 ^ (k + 1) := Nat.pow_le_pow_right (by omega) (by omega)
        omega
      have s1 := ih (n / 10) (by omega) k (by omega) hk'
      have s2 := ih (n % 10) (by omega) (k + 1 - 1) (by omega) (by
        cases k with
        | zero => simp at hk; omega
        | succ k =>
          have : 10 ^ 1 ≤ 10 ^ (k + 1) := Nat.pow_le_pow_right (by omega) (by omega)
          simp only [Nat.add_sub_cancel]
          omega)
      have s2' : l36_decimal (k + 2) ((n % 10 : Nat) : Int) = some (Lib.decDigits (n % 10)) := s2
      have hd : Lib.decDigits (n % 10) = [UInt8.ofNat (48 + n % 10)] := by rw [Lib.decDigits, dif_pos (by omega)]
      rw [if_neg (by simp; omega), e1, e2, w64_nat (by omega), s1, Option.bind_some, s2', Option.bind_some, chk_pos (by simp only [List.length_append]; simp; omega)]
      rw [hd]
      conv => rhs; rw [Lib.decDigits, dif_neg h10]
theorem decimal_eq {n : Int} {k : Nat} (h0 : -4611686018427387904 ≤ n) (h1 : n ≤ 4611686018427387904) (hk : 25 ≤ k) : l36_decimal k n = some (txt0 (numT n)) := by
  obtain ⟨k, rfl⟩ : ∃ m, k = m + 3 := ⟨k - 3, by omega⟩
  have hp : ∀ m : Nat, m ≤ 4611686018427387904 → m < 10 ^ k := fun m hm => by
    have : 10 ^ 20 ≤ 10 ^ k := Nat.pow_le_pow_right (by omega) (by omega)
    have e : (10 : Nat) ^ 20 = 100000000000000000000 := by decide
    omega
  have hp1 : ∀ m : Nat, m ≤ 4611686018427387904 → m < 10 ^ (k + 1) := fun m hm => by
    have := hp m hm
    have : 10 ^ k ≤ 10 ^ (k + 1) := Nat.pow_le_pow_right (by omega) (by omega)
    omega
  unfold numT
  by_cases hn : n < 0
  · obtain ⟨m, rfl⟩ : ∃ m : Nat, n = -(m : Int) := ⟨(-n).toNat, by omega⟩
    have hm := decimal_nat m k (by omega) (hp m (by omega))
    have h20 : m < 10 ^ 20 := by have : (10 : Nat) ^ 20 = 100000000000000000000 := by decide
                                 omega
    have l1 := decDigits_len m h20
    have e : (0 : Int) - -(m : Int) = (m : Int) := by omega
    have e2 : itoaK (m : Int) = Lib.decDigits m := by
      rw [itoaK_eq (by omega) (by omega), Lib.itoa, if_neg (by omega)]; rfl
    rw [l36_decimal, if_pos (by simp; omega), if_pos (by simp; omega), e, w64_nat (by omega), hm, Option.bind_some, chk_pos (by simp only [List.length_append]; simp; omega)]
    have e3 : sepB (4, unp wx2d) ⟨2, w_0, Lib.decDigits m⟩ = [] := rfl
    simp only [txt0, ren, tS, tN, e2, e3, List.append_nil, List.nil_append]
  · obtain ⟨m, rfl⟩ : ∃ m : Nat, n = (m : Int) := ⟨n.toNat, by omega⟩
    have hm := decimal_nat m (k + 1) (by omega) (hp1 m (by omega))
    have e2 : itoaK (m : Int) = Lib.decDigits m := by
      rw [itoaK_eq (by omega) (by omega), Lib.itoa, if_neg (by omega)]; rfl
    rw [if_neg (by simp)]
    simp only [txt0, ren, tN, e2, List.append_nil]
    exact hm
theorem quoted_l (s : Str) (hs : s.length ≤ 1000000000) : ∀ (d i k : Nat) (pre : Str), i + d = s.length → 2 * d + 1 < k → pre.length + 2 * d ≤ 2000000001 →
    l36_quoted_l3 k s (toI pre) (i : Int) = some (pre ++ esc (s.drop i) ++ [34])
  | d, i, 0, pre, _, h, _ => by omega
  | 0, i, k + 1, pre, hd, hk, hb => by
    have e : toI pre ++ [34] = toI (pre ++ [34]) := by rw [toI_append]; rfl
    rw [l36_quoted_l3, if_neg (by simp; omega), e, ofI, chk_pos (by rw [toI_len]; simp; omega), List.drop_eq_nil_of_le (by omega)]
    simp [esc]
  | d + 1, i, 1, pre, hd, hk, hb => by omega
  | d + 1, i, k + 2, pre, hd, hk, hb => by
    have hi : i < s.length := by omega
    have b34 : ((s[i].toNat : Int) == 34) = (s[i] == 34) := u8_beq s[i] 34 (by omega)
    have b92 : ((s[i].toNat : Int) == 92) = (s[i] == 92) := u8_beq s[i] 92 (by omega)
    have e92 : toI pre ++ [92] = toI (pre ++ [92]) := by rw [toI_append]; rfl
    have j4 : ∀ q : Str, q.length ≤ pre.length + 1 → l36_quoted_j4 (k + 1) s (i : Int) (toI q) = some (q ++ [s[i]] ++ esc (s.drop (i + 1)) ++ [34]) := by
      intro q hq
      rw [l36_quoted_j4, chk_pos (dec_nonneg i), toNat_cast, List.getElem?_eq_getElem hi, Option.bind_some, toI_snoc, chk_pos (by rw [toI_len]; simp; omega), w64_succ (by omega),
        quoted_l s hs d (i + 1) k (q ++ [s[i]]) (by omega) (by omega) (by simp; omega)]
    rw [l36_quoted_l3, if_pos (by simp; omega), chk_pos (dec_nonneg i), toNat_cast, List.getElem?_eq_getElem hi, Option.bind_some, chk_pos (dec_nonneg i), Option.bind_some, e92, chk_pos (by rw [toI_len]; simp; omega), j4 _ (by simp), j4 _ (by omega), b34, b92,
      List.drop_eq_getElem_cons hi, esc_cons]
    unfold escB
    cases h1 : (s[i] == 34) <;> cases h2 : (s[i] == 92) <;> simp
theorem quoted_eq {s : Str} {k : Nat} (hs : s.length ≤ 1000000000) (hk : 2 * s.length + 1 < k) : l36_quoted k s = some (quo s) := by
  unfold l36_quoted
  have := quoted_l s hs s.length 0 k [34] (by omega) hk (by simp; omega)
  have e : ([34] : List Int) = toI [34] := rfl
  have h0 : (0 : Int) = ((0 : Nat) : Int) := rfl
  rw [e, h0, this]
  rfl
theorem llabel_eq {s : Str} {k : Nat} (hs : s.length ≤ 1000000000) (hk : 2 * s.length + 1 < k) : l36_label k s = some (labT s).txt := by
  unfold l36_label labT
  rw [word_eq (by omega) (by omega), Option.bind_some, quoted_eq hs hk, Option.bind_some]
  split <;> rfl
theorem lvalue_eq {v : GValue} {k : Nat} (hv : okV v) (hs : v.Text.length ≤ 1000000000) (hk : 2 * v.Text.length + 25 < k) : l36_value k v = some (txt0 (valT v)) := by
  unfold l36_value valT
  rcases hv with h | ⟨h, h0, h1⟩ | ⟨h, h0 | h0⟩
  · rw [h, quoted_eq hs (by omega)]
    simp [txt0, ren, tT]
  · rw [h, decimal_eq (by omega) (by omega) (by omega)]
    simp
  · rw [h, h0]; rfl
  · rw [h, h0]; rfl

theorem sep_eq {l : Int × Str} (h : endK l) : sepB l (tS wx3d) = [32] := by
  unfold sepB spB tS
  rcases h with h | h | h | ⟨h, h2⟩
  · rw [h]; rfl
  · rw [h]; rfl
  · rw [h]; rfl
  · rw [h, h2]; rfl
theorem sep_lt {l : Int × Str} (h : endK l) : sepB l (tS wx3c) = [32] := by
  unfold sepB spB tS
  rcases h with h | h | h | ⟨h, h2⟩
  · rw [h]; rfl
  · rw [h]; rfl
  · rw [h]; rfl
  · rw [h, h2]; rfl
/-- a value's tokens behind a sign or a word -/
theorem valT_cons (v : GValue) : ∃ t ts, valT v = t :: ts ∧ (t.k = 3 ∨ t.k = 2 ∨ (t.k = 4 ∧ t.s = wx2d) ∨ t.k = 1) := by
  unfold valT numT
  split
  · exact ⟨_, _, rfl, .inl rfl⟩
  · split
    · split
      · exact ⟨_, _, rfl, .inr (.inr (.inl ⟨rfl, rfl⟩))⟩
      · exact ⟨_, _, rfl, .inr (.inl rfl)⟩
    · exact ⟨_, _, rfl, .inr (.inr (.inr rfl))⟩
theorem ren_val (q : Int × Str) (hq : q = (4, wx3d) ∨ q = (4, wx3c) ∨ q = (1, w_prefix)) (v : GValue) : ren q (valT v) = 32 :: txt0 (valT v) := by
  obtain ⟨t, ts, e, ht⟩ := valT_cons v
  rw [e, ren_cons]
  have : sepB q t = [32] := by
    unfold sepB spB
    rcases hq with rfl | rfl | rfl
    · rfl
    · rfl
    · rcases ht with h | h | ⟨h, h2⟩ | h
      · rw [h]; rfl
      · rw [h]; rfl
      · rw [h, h2]; rfl
      · rw [h]; simp
  rw [this]; rfl
theorem txt0_wrap {o : Int} {ts : List PTk} (h : BE ts) (hj : isJ o = true) : txt0 (wrapT o ts) = wx28 ++ txt0 ts ++ wx29 := by
  obtain ⟨⟨t, r, rfl, hb, _⟩, hl⟩ := h
  unfold wrapT
  rw [if_pos hj]
  have e1 : sepB (4, unp wx28) t = [] := sep_open hb
  have e2 := sep_close (hl (0, w_0))
  simp only [txt0, tS, List.cons_append, ren, ren_append, e1, lst, List.nil_append, List.append_assoc]
  simp only [lst, tS] at e2
  rw [e2]
  simp
theorem ren_tkK {o : Int} : ∀ (l : List GPred), (∀ q ∈ l, BE (tkA q)) → ∀ m, endK m → ren m (tkK o l) = l.flatMap fun q => 32 :: (sepT o ++ 32 :: txt0 (tkA q))
  | [], _, m, _ => rfl
  | q :: l, h, m, hm => by
    have hq := h q List.mem_cons_self
    obtain ⟨⟨t, r, ht, hb, _⟩, hl⟩ := hq
    have e : tkK o (q :: l) = (tW (sepT o) :: tkA q) ++ tkK o l := rfl
    rw [e, ren_append, ren_tkK l (fun x hx => h x (List.mem_cons_of_mem _ hx)) (lst m (tW (sepT o) :: tkA q)) (hl _), List.flatMap_cons]
    congr 1
    have e1 : ren (1, unp (sepT o)) (tkA q) = 32 :: txt0 (tkA q) := by
      rw [ht, ren_cons, sep_beg hb]; rfl
    have e2 : ren m (tW (sepT o) :: tkA q) = sepB m (tW (sepT o)) ++ sepT o ++ ren (1, unp (sepT o)) (tkA q) := rfl
    rw [e2, sep_word hm, e1]
    simp
theorem isJ_iff {o : Int} : isJ o = (o == 1 || o == 2) := rfl
theorem lpred_eq : ∀ p : GPred, ∀ k : Nat, allP okN p → 60 * wP p + 60 ≤ k → wP p ≤ 100000 → l36_pred k p = some (txt0 (tkP p)) := by
  refine GPred.byW fun p ih => ?_
  intro k hok hk hx
  have hw := wP_eq p
  have hn := allP_node hok
  have hlen := wL_len p.Args
  have hpos := wP_pos p
  have hBE : ∀ q ∈ p.Args, BE (tkA q) := fun q hq => tkA_BE (allP_arg hok hq)
  have arg : ∀ (q : GPred), q ∈ p.Args → ∀ (k : Nat), 60 * wP q + 62 ≤ k → l36_part k q = some (txt0 (tkA q)) := by
    intro q hq k hk
    have hoq := allP_arg hok hq
    have hb := tkP_BE q hoq
    obtain ⟨k, rfl⟩ : ∃ m, k = m + 1 := ⟨k - 1, by omega⟩
    have hwq := wP_arg hq
    have ht := tb_tkP q
    have hl := txt0_len (tkP q)
    have l1 : wx28.length = 1 := rfl
    have l2 : wx29.length = 1 := rfl
    rw [l36_part, ih q hwq k hoq (by omega) (by omega)]
    have c1 : decide ((wx28 ++ txt0 (tkP q)).length ≤ 9223372036854775807) = true := decide_eq_true (by rw [List.length_append]; omega)
    have c2 : decide ((wx28 ++ txt0 (tkP q) ++ wx29).length ≤ 9223372036854775807) = true := decide_eq_true (by rw [List.length_append, List.length_append]; omega)
    simp only [Option.bind_some, chk_pos c1, chk_pos c2]
    unfold tkA
    cases hj : isJ q.Op with
    | true => rw [txt0_wrap hb hj]; rw [isJ_iff] at hj; cases h1 : (q.Op == 1) <;> cases h2 : (q.Op == 2) <;> simp_all
    | false =>
      unfold wrapT
      rw [hj]
      rw [isJ_iff] at hj
      cases h1 : (q.Op == 1) <;> cases h2 : (q.Op == 2) <;> simp_all
  have bound : ∀ l : List GPred, (l.flatMap fun q => 32 :: (sepT p.Op ++ 32 :: txt0 (tkA q))).length ≤ 70 * wL l := by
    intro l
    induction l with
    | nil => exact Nat.le_refl _
    | cons q l ihl =>
      rw [List.flatMap_cons, List.length_append]
      have := txt0_len (tkA q)
      have := tb_tkA q
      have := tb_sep p.Op
      simp only [List.length_cons, List.length_append, wL]
      omega
  have loop : isJ p.Op = true → ∀ (d i k : Nat) (out : Str), i + d = p.Args.length → 60 * wL (p.Args.drop i) + 65 ≤ k → out.length + 70 * wL (p.Args.drop i) ≤ 100000000 →
      l36_pred_l4 k p (32 :: (sepT p.Op ++ [32])) out (i : Int) = some (out ++ (p.Args.drop i).flatMap fun q => 32 :: (sepT p.Op ++ 32 :: txt0 (tkA q))) := by
    intro hj d
    induction d with
    | zero =>
      intro i k out hi hk hx
      obtain ⟨k, rfl⟩ : ∃ m, k = m + 1 := ⟨k - 1, by omega⟩
      rw [l36_pred_l4, if_neg (by simp; omega), List.drop_eq_nil_of_le (by omega)]; simp
    | succ d ihd =>
      intro i k out hi hk hx
      obtain ⟨k, rfl⟩ : ∃ m, k = m + 1 := ⟨k - 1, by omega⟩
      have h1 : i < p.Args.length := by omega
      have hd := wL_drop h1
      have hm := List.getElem_mem h1
      have hq := wP_pos p.Args[i]
      have ht := tb_tkA p.Args[i]
      have hl := txt0_len (tkA p.Args[i])
      have hs := tb_sep p.Op
      have nx := ihd (i + 1) k ((out ++ (32 :: (sepT p.Op ++ [32]))) ++ txt0 (tkA p.Args[i])) (by omega) (by omega) (by simp only [List.length_append, List.length_cons, List.length_nil]; omega)
      rw [l36_pred_l4, if_pos (by simp; omega), chk_pos (by simp only [List.length_append, List.length_cons, List.length_nil]; simp; omega), chk_pos (dec_nonneg i), toNat_cast, List.getElem?_eq_getElem h1, Option.bind_some, arg _ hm k (by omega), Option.bind_some,
        chk_pos (by simp only [List.length_append, List.length_cons, List.length_nil]; simp; omega), w64_succ (by omega), nx, List.drop_eq_getElem_cons h1, List.flatMap_cons]
      simp
  have j2 : ∀ (k : Nat) (name : Str), 60 * wP p + 57 ≤ k → name = txt0 (pathT p.Field p.Key) → (isJ p.Op = true → l36_pred_j2 k p name true = some (txt0 (tkP p))) ∧ (isJ p.Op = false → l36_pred_j2 k p name false = some (txt0 (tkP p))) := by
    intro k name hk hname
    obtain ⟨k, rfl⟩ : ∃ m, k = m + 2 := ⟨k - 2, by omega⟩
    constructor
    · intro hj
      have h1 := hn.2.2.2 hj
      have hm := List.getElem_mem h1
      have hm2 := wL_mem hm
      have e0 : (p.Op == 0) = false := by rcases isJ_eq hj with h | h <;> rw [h] <;> rfl
      have hd : wL p.Args = wP p.Args[0] + wL (p.Args.drop 1) := by have := wL_drop h1; simpa using this
      have ht := tb_tkA p.Args[0]
      have hl := txt0_len (tkA p.Args[0])
      have lp := loop hj (p.Args.length - 1) 1 k (txt0 (tkA p.Args[0])) (by omega) (by omega) (by omega)
      have j3 : l36_pred_j3 (k + 1) p (32 :: (sepT p.Op ++ [32])) = some (txt0 (tkP p)) := by
        rw [l36_pred_j3, chk_pos (by decide), Int.toNat_zero, List.getElem?_eq_getElem h1, Option.bind_some, arg _ hm k (by omega), Option.bind_some]
        refine lp.trans ?_
        rw [tkP_eq, e0, if_neg (by simp), if_pos hj, tkJ_eq h1, txt0_append (hBE _ hm).ne, ren_tkK _ (fun q hq => hBE q (List.mem_of_mem_drop hq)) _ ((hBE _ hm).2 _)]
      rw [l36_pred_j2, if_pos rfl]
      rcases isJ_eq hj with h | h
      · have e : (p.Op == 2) = false := by rw [h]; rfl
        have e' : 32 :: (sepT p.Op ++ [32]) = wx20616e6420 := by rw [h]; rfl
        rw [e, if_neg (by simp), ← e']; exact j3
      · have e : (p.Op == 2) = true := by rw [h]; rfl
        have e' : 32 :: (sepT p.Op ++ [32]) = wx206f7220 := by rw [h]; rfl
        rw [e, if_pos rfl, ← e']; exact j3
    · intro hj
      have l1 : wx6e6f7420.length = 4 := rfl
      have l2 : wx68617320.length = 4 := rfl
      have l3 : wx203d20.length = 3 := rfl
      have l4 : wx203c20.length = 3 := rfl
      have l5 : wx2070726566697820.length = 8 := rfl
      rw [l36_pred_j2, if_neg (by simp), tkP_eq, hj]
      simp only [Bool.false_eq_true, if_false]
      by_cases h3 : p.Op = 3
      · have e3 : (p.Op == 3) = true := by rw [h3]; rfl
        have e0 : (p.Op == 0) = false := by rw [h3]; rfl
        have h1 := hn.2.1 h3
        have hm := List.getElem_mem h1
        have hm2 := wL_mem hm
        have ht := tb_tkA p.Args[0]
        have hl := txt0_len (tkA p.Args[0])
        simp only [e3, e0, if_true, Bool.false_eq_true, if_false]
        rw [chk_pos (by decide), Int.toNat_zero, List.getElem?_eq_getElem h1, Option.bind_some, arg _ hm (k + 1) (by omega), Option.bind_some, chk_pos (by simp only [List.length_append]; simp; omega), tkH_eq h1]
        obtain ⟨⟨t, r, ht, hb, _⟩, _⟩ := hBE _ hm
        rw [ht]
        have e : txt0 (tW w_not :: t :: r) = w_not ++ ren (1, unp w_not) (t :: r) := rfl
        rw [e, ren_cons, sep_beg hb]
        rfl
      have e3 : (p.Op == 3) = false := by simpa using h3
      by_cases h4 : p.Op = 4
      · have e4 : (p.Op == 4) = true := by rw [h4]; rfl
        have e0 : (p.Op == 0) = false := by rw [h4]; rfl
        have hl := labT_len p.Key
        simp only [e3, e4, e0, if_true, Bool.false_eq_true, if_false]
        rw [llabel_eq (by omega) (by omega), Option.bind_some, chk_pos (by simp only [List.length_append]; simp; omega)]
        have e : txt0 [tW w_has, labT p.Key] = w_has ++ (sepB (1, unp w_has) (labT p.Key) ++ (labT p.Key).txt ++ []) := rfl
        have e2 : sepB (1, unp w_has) (labT p.Key) = [32] := by
          unfold labT
          split
          · exact sep_word (.inl rfl) _
          · rfl
        rw [e, e2]
        simp
      have e4 : (p.Op == 4) = false := by simpa using h4
      by_cases h0 : p.Op = 0
      · rw [h0]; rfl
      have e0 : (p.Op == 0) = false := by simpa using h0
      have a1 : p.Op ≠ 1 := fun h => by rw [h] at hj; cases hj
      have a2 : p.Op ≠ 2 := fun h => by rw [h] at hj; cases hj
      have hv := (hn.2.2.1 (by have := hn.1; omega)).1
      have hnl := txt0_len (pathT p.Field p.Key)
      have htp := tb_path p.Field p.Key
      have hvl := txt0_len (valT p.Value)
      have htv := tb_val p.Value
      obtain ⟨ts, hts⟩ := pathT_cons p.Field p.Key
      have hpne : pathT p.Field p.Key ≠ [] := by rw [hts]; exact List.cons_ne_nil _ _
      have hpe := pathT_lst p.Field p.Key (0, w_0)
      simp only [e3, e4, e0, Bool.false_eq_true, if_false]
      rw [lvalue_eq hv (by omega) (by omega), txt0_append hpne, hname]
      generalize txt0 (pathT p.Field p.Key) = n at hnl
      generalize lst (0, w_0) (pathT p.Field p.Key) = q at hpe
      have c1 : decide ((n ++ wx203d20).length ≤ 9223372036854775807) = true := decide_eq_true (by rw [List.length_append]; omega)
      have c2 : decide (((n ++ wx203d20) ++ txt0 (valT p.Value)).length ≤ 9223372036854775807) = true := decide_eq_true (by rw [List.length_append, List.length_append]; omega)
      have c3 : decide ((n ++ wx203c20).length ≤ 9223372036854775807) = true := decide_eq_true (by rw [List.length_append]; omega)
      have c4 : decide (((n ++ wx203c20) ++ txt0 (valT p.Value)).length ≤ 9223372036854775807) = true := decide_eq_true (by rw [List.length_append, List.length_append]; omega)
      have c5 : decide ((n ++ wx2070726566697820).length ≤ 9223372036854775807) = true := decide_eq_true (by rw [List.length_append]; omega)
      have c6 : decide (((n ++ wx2070726566697820) ++ txt0 (valT p.Value)).length ≤ 9223372036854775807) = true := decide_eq_true (by rw [List.length_append, List.length_append]; omega)
      simp only [Option.bind_some, chk_pos c1, chk_pos c2, chk_pos c3, chk_pos c4, chk_pos c5, chk_pos c6]
      have r1 : ren q (tS wx3d :: valT p.Value) = wx203d20 ++ txt0 (valT p.Value) := by
        have : ren (4, wx3d) (valT p.Value) = 32 :: txt0 (valT p.Value) := ren_val _ (.inl rfl) _
        simp only [ren, sep_eq hpe]
        rw [show ((tS wx3d).k, unp (tS wx3d).s) = (4, wx3d) from rfl, this]; rfl
      have r2 : ren q (tS wx3c :: valT p.Value) = wx203c20 ++ txt0 (valT p.Value) := by
        have : ren (4, wx3c) (valT p.Value) = 32 :: txt0 (valT p.Value) := ren_val _ (.inr (.inl rfl)) _
        simp only [ren, sep_lt hpe]
        rw [show ((tS wx3c).k, unp (tS wx3c).s) = (4, wx3c) from rfl, this]; rfl
      have r3 : ren q (tW w_prefix :: valT p.Value) = wx2070726566697820 ++ txt0 (valT p.Value) := by
        have : ren (1, w_prefix) (valT p.Value) = 32 :: txt0 (valT p.Value) := ren_val _ (.inr (.inr rfl)) _
        simp only [ren, sep_word hpe]
        rw [show ((tW w_prefix).k, unp (tW w_prefix).s) = (1, w_prefix) from rfl, this]; rfl
      by_cases h5 : p.Op = 5
      · rw [h5]; simp only [beq_self_eq_true, if_true, r1, List.append_assoc]
      by_cases h6 : p.Op = 6
      · rw [h6]
        rw [show ((6 : Int) == 5) = false from rfl]
        simp only [beq_self_eq_true, if_true, Bool.false_eq_true, if_false, r2, List.append_assoc]
      have h7 : p.Op = 7 := by have := hn.1; omega
      rw [h7]
      rw [show ((7 : Int) == 5) = false from rfl, show ((7 : Int) == 6) = false from rfl]
      simp only [beq_self_eq_true, if_true, Bool.false_eq_true, if_false, r3, List.append_assoc]
  have j1 : ∀ (k : Nat) (name : Str), 60 * wP p + 58 ≤ k → name = txt0 (pathT p.Field p.Key) → l36_pred_j1 k p name = some (txt0 (tkP p)) := by
    intro k name hk hname
    obtain ⟨k, rfl⟩ : ∃ m, k = m + 1 := ⟨k - 1, by omega⟩
    have h := j2 k name (by omega) hname
    rw [l36_pred_j1]
    cases hj : isJ p.Op with
    | true =>
      have := h.1 hj
      rcases isJ_eq hj with h | h
      · rw [show (p.Op == 1) = true by rw [h]; rfl, if_pos rfl]; exact this
      · rw [show (p.Op == 1) = false by rw [h]; rfl, if_neg (by simp), show (p.Op == 2) = true by rw [h]; rfl]; exact this
    | false =>
      have := h.2 hj
      rw [isJ_iff] at hj
      cases h1 : (p.Op == 1) with
      | true => rw [h1] at hj; simp at hj
      | false =>
        cases h2 : (p.Op == 2) with
        | true => rw [h2] at hj; simp at hj
        | false => rw [if_neg (by simp)]; exact this
  obtain ⟨k, rfl⟩ : ∃ m, k = m + 1 := ⟨k - 1, by omega⟩
  have hl := labT_len p.Key
  have l9 : wx617474722e.length = 5 := rfl
  rw [l36_pred, llabel_eq (by omega) (by omega), Option.bind_some, chk_pos (by simp only [List.length_append]; simp; omega)]
  cases hf : (p.Field == w_attr) with
  | true =>
    rw [if_pos rfl]
    refine j1 k _ (by omega) ?_
    have hfe : p.Field = w_attr := by simpa using hf
    unfold pathT
    rw [hf, if_pos rfl, hfe]
    have e : txt0 [tW w_attr, tS wx2e, labT p.Key] = w_attr ++ (sepB (1, unp w_attr) (tS wx2e) ++ wx2e ++ (sepB (4, unp wx2e) (labT p.Key) ++ (labT p.Key).txt ++ [])) := rfl
    have e1 : sepB (1, unp w_attr) (tS wx2e) = [] := by decide
    have e2 : sepB (4, unp wx2e) (labT p.Key) = [] := by
      unfold labT
      split <;> rfl
    rw [e, e1, e2]
    simp
  | false =>
    rw [if_neg (by simp)]
    refine j1 k _ (by omega) ?_
    unfold pathT
    rw [hf, if_neg (by simp)]
    simp [txt0, ren, tW]
end Go.Proofs.YtfnaahkgegfbnaaGreatDoor
