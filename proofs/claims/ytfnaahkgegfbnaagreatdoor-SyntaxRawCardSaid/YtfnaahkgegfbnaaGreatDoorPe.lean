/- A predicate's tokens; the writer writes them. -/
import Derived.Test.YtfnaahkgegfbnaaGreatDoorPd
set_option linter.unusedVariables false
set_option linter.unusedSimpArgs false
namespace Go.Proofs.YtfnaahkgegfbnaaGreatDoor

def isJ (o : Int) : Bool := o == 1 || o == 2
/-- an argument: in parentheses, if it is a conjunction or a disjunction -/
def wrapT (o : Int) (l : List PTk) : List PTk := if isJ o = true then tS wx28 :: (l ++ [tS wx29]) else l
def sepT (o : Int) : Str := if (o == 1) = true then w_and else w_or
mutual
def tkP : GPred → List PTk
  | ⟨o, f, ke, v, a⟩ => if (o == 0) = true then [tW w_true] else if isJ o = true then tkJ o a else if (o == 3) = true then tW w_not :: tkH a else if (o == 4) = true then [tW w_has, labT ke]
    else pathT f ke ++ ((if (o == 5) = true then tS wx3d else if (o == 6) = true then tS wx3c else tW w_prefix) :: valT v)
def tkJ (o : Int) : List GPred → List PTk
  | [] => []
  | p :: l => wrapT p.Op (tkP p) ++ tkK o l
def tkK (o : Int) : List GPred → List PTk
  | [] => []
  | p :: l => tW (sepT o) :: (wrapT p.Op (tkP p) ++ tkK o l)
def tkH : List GPred → List PTk
  | [] => []
  | p :: _ => wrapT p.Op (tkP p)
end
theorem tkP_eq (p : GPred) : tkP p = if (p.Op == 0) = true then [tW w_true] else if isJ p.Op = true then tkJ p.Op p.Args else if (p.Op == 3) = true then tW w_not :: tkH p.Args else if (p.Op == 4) = true then [tW w_has, labT p.Key]
    else pathT p.Field p.Key ++ ((if (p.Op == 5) = true then tS wx3d else if (p.Op == 6) = true then tS wx3c else tW w_prefix) :: valT p.Value) := by cases p; rfl
def tkA (p : GPred) : List PTk := wrapT p.Op (tkP p)
theorem tkK_drop {o : Int} {l : List GPred} {i : Nat} (h : i < l.length) : tkK o (l.drop i) = tW (sepT o) :: (tkA l[i] ++ tkK o (l.drop (i + 1))) := by rw [List.drop_eq_getElem_cons h]; rfl
theorem tkJ_eq {o : Int} {l : List GPred} (h : 0 < l.length) : tkJ o l = tkA l[0] ++ tkK o (l.drop 1) := by
  cases l with
  | nil => simp at h
  | cons p l => rfl

theorem tkH_eq {l : List GPred} (h : 0 < l.length) : tkH l = tkA l[0] := by
  cases l with
  | nil => simp at h
  | cons p l => rfl

/-- a predicate that has a text: each node -/
def okN (p : GPred) : Prop := (0 ≤ p.Op ∧ p.Op ≤ 7) ∧ (p.Op = 3 → 1 ≤ p.Args.length) ∧ (5 ≤ p.Op → okV p.Value ∧ 0 < p.Field.length) ∧ (isJ p.Op = true → 1 ≤ p.Args.length)
mutual
def allP (f : GPred → Prop) : GPred → Prop
  | ⟨o, fi, ke, v, a⟩ => f ⟨o, fi, ke, v, a⟩ ∧ allL f a
def allL (f : GPred → Prop) : List GPred → Prop
  | [] => True
  | p :: l => allP f p ∧ allL f l
end
theorem allP_eq (f : GPred → Prop) (p : GPred) : allP f p = (f p ∧ allL f p.Args) := by cases p; rfl
theorem allL_mem {f : GPred → Prop} : ∀ {l : List GPred} {p : GPred}, allL f l → p ∈ l → allP f p
  | q :: l, p, h, hm => by
    rcases List.mem_cons.1 hm with rfl | hm
    · exact h.1
    · exact allL_mem h.2 hm
theorem allP_arg {f : GPred → Prop} {p q : GPred} (h : allP f p) (hm : q ∈ p.Args) : allP f q := by
  rw [allP_eq] at h; exact allL_mem h.2 hm
theorem allP_node {f : GPred → Prop} {p : GPred} (h : allP f p) : f p := by rw [allP_eq] at h; exact h.1

/-! ### how long a predicate's text is -/
theorem tb_quo (s : Str) : (quo s).length ≤ 2 * s.length + 2 := by have := esc_len s; simp [quo]; omega
theorem labT_len (s : Str) : (labT s).txt.length ≤ 2 * s.length + 2 := by
  unfold labT
  split
  · simp only [tW]; omega
  · exact tb_quo s
theorem tb_path (f ke : Str) : tb (pathT f ke) ≤ f.length + 2 * ke.length + 10 := by
  have := labT_len ke
  unfold pathT
  split <;> simp only [tb, tW, tS, List.length_cons, List.length_nil] <;> omega
theorem tb_num (n : Int) : tb (numT n) ≤ 30 := by
  have h1 := itoaK_len n
  have h2 := itoaK_len (0 - n)
  unfold numT
  split <;> simp only [tb, tN, tS, List.length_cons, List.length_nil] <;> omega
theorem tb_val (v : GValue) : tb (valT v) ≤ 2 * v.Text.length + 30 := by
  have h1 := tb_num v.Int
  have h2 := tb_quo v.Text
  have h3 : w_true.length = 4 := rfl
  have h4 : w_false.length = 5 := rfl
  unfold valT
  split
  · simp only [tb, tT]; omega
  · split
    · omega
    · simp only [tb, tW]; split <;> omega
theorem tb_sep (o : Int) : (sepT o).length ≤ 3 := by unfold sepT; split <;> decide
theorem tb_wrap (o : Int) (l : List PTk) : tb (wrapT o l) ≤ tb l + 4 := by
  unfold wrapT
  split
  · simp only [tb, tb_append, tS, List.length_cons, List.length_nil]; omega
  · omega
theorem tb_tkP : ∀ p : GPred, tb (tkP p) + 10 ≤ 60 * wP p := by
  refine GPred.byW fun p ih => ?_
  have hw := wP_eq p
  have hA : ∀ q ∈ p.Args, tb (tkA q) + 6 ≤ 60 * wP q := fun q hq => by
    have := ih q (wP_arg hq); have := tb_wrap q.Op (tkP q); unfold tkA; omega
  have hK : ∀ (o : Int) (l : List GPred), (∀ q ∈ l, tb (tkA q) + 6 ≤ 60 * wP q) → tb (tkK o l) ≤ 60 * wL l := by
    intro o l
    induction l with
    | nil => intro _; exact Nat.le_refl _
    | cons q l ihl =>
      intro h
      have h1 := h q List.mem_cons_self
      have h2 := ihl fun x hx => h x (List.mem_cons_of_mem _ hx)
      have h3 := tb_sep o
      have e : tkK o (q :: l) = tW (sepT o) :: (tkA q ++ tkK o l) := rfl
      rw [e]
      simp only [tb, tb_append, tW, wL]
      omega
  rw [tkP_eq]
  split
  · simp only [tb, tW]; have : w_true.length = 4 := rfl; omega
  split
  · cases ha : p.Args with
    | nil => simp only [tkJ, tb]; omega
    | cons q l =>
      rw [ha] at hA
      have h1 := hA q List.mem_cons_self
      have h2 := hK p.Op l fun x hx => hA x (List.mem_cons_of_mem _ hx)
      have e : tkJ p.Op (q :: l) = tkA q ++ tkK p.Op l := rfl
      rw [e, tb_append]
      rw [ha] at hw; simp only [wL] at hw; omega
  split
  · cases ha : p.Args with
    | nil => simp only [tkH, tb, tW]; have : w_not.length = 3 := rfl; omega
    | cons q l =>
      rw [ha] at hA
      have h1 := hA q List.mem_cons_self
      have e : tkH (q :: l) = tkA q := rfl
      rw [e]
      simp only [tb, tW]
      have : w_not.length = 3 := rfl
      rw [ha] at hw; simp only [wL] at hw; omega
  split
  · have := labT_len p.Key
    simp only [tb, tW]
    have : w_has.length = 3 := rfl
    omega
  · have h1 := tb_path p.Field p.Key
    have h2 := tb_val p.Value
    have h3 : (if (p.Op == 5) = true then tS wx3d else if (p.Op == 6) = true then tS wx3c else tW w_prefix).txt.length ≤ 6 := by
      split
      · decide
      · split <;> decide
    rw [tb_append]
    simp only [tb]
    omega
theorem tb_tkA (p : GPred) : tb (tkA p) + 6 ≤ 60 * wP p := by
  have := tb_tkP p; have := tb_wrap p.Op (tkP p); unfold tkA; omega

/-! ### the writer -/
theorem isJ_eq {o : Int} (h : isJ o = true) : o = 1 ∨ o = 2 := by
  unfold isJ at h
  simpa using h
theorem pred_w : ∀ p : GPred, ∀ (x : PW) (k : Nat), allP okN p → 60 * wP p + 40 ≤ k → x.b.length + 100 * wP p ≤ 10000000 → writer_pred k x.w p = some (x.puts (tkP p)).w := by
  refine GPred.byW fun p ih => ?_
  intro x k hok hk hx
  have hw := wP_eq p
  have hn := allP_node hok
  have hlen := wL_len p.Args
  have hpos := wP_pos p
  -- an argument
  have arg : ∀ (q : GPred), q ∈ p.Args → ∀ (x : PW) (k : Nat), 60 * wP q + 45 ≤ k → x.b.length + 100 * wP q + 10 ≤ 10000000 → writer_argument k x.w q = some (x.puts (tkA q)).w := by
    intro q hq x k hk hx
    have ihq := ih q (wP_arg hq)
    have hoq := allP_arg hok hq
    have hp1 := x.put_len (tS wx28)
    have e1 : (tS wx28).txt.length = 1 := rfl
    have e2 : wx28.length = 1 := rfl
    have e3 : wx29.length = 1 := rfl
    have hb := (x.put (tS wx28)).puts_len (tkP q)
    have ht := tb_tkP q
    obtain ⟨k, rfl⟩ : ∃ m, k = m + 2 := ⟨k - 2, by omega⟩
    have s1 := ihq x k hoq (by omega) (by omega)
    have s2 := ihq (x.put (tS wx28)) k hoq (by omega) (by omega)
    rw [writer_argument, writer_argument_j1, writer_argument_j1, s1, Option.bind_some, sign_eq (by omega) (by omega), Option.bind_some, s2, Option.bind_some, sign_eq (by omega) (by omega), Option.bind_some]
    unfold tkA wrapT isJ
    have b1 : (q.Op != 1) = !(q.Op == 1) := rfl
    have b2 : (q.Op != 2) = !(q.Op == 2) := rfl
    rw [b1, b2]
    cases (q.Op == 1) <;> cases (q.Op == 2) <;> simp [PW.puts_cons, PW.puts_append] <;> rfl
  have loop : isJ p.Op = true → ∀ (d i k : Nat) (x : PW), 0 < i → i + d = p.Args.length → 60 * wL (p.Args.drop i) + 50 ≤ k → x.b.length + 100 * wL (p.Args.drop i) + 50 ≤ 10000000 →
      writer_pred_l2 k p (toI x.b) x.k 0 x.s 0 (i : Int) = some (x.puts (tkK p.Op (p.Args.drop i))).w := by
    intro hj d
    induction d with
    | zero =>
      intro i k x h0 hi hk hx
      obtain ⟨k, rfl⟩ : ∃ m, k = m + 1 := ⟨k - 1, by omega⟩
      rw [writer_pred_l2, if_neg (by simp; omega), List.drop_eq_nil_of_le (by omega)]; rfl
    | succ d ihd =>
      intro i k x h0 hi hk hx
      obtain ⟨k, rfl⟩ : ∃ m, k = m + 1 := ⟨k - 1, by omega⟩
      have h1 : i < p.Args.length := by omega
      have hd := wL_drop h1
      have hm := List.getElem_mem h1
      have hq := wP_pos p.Args[i]
      have hsep : ([w_0, w_and, w_or] : List Str)[Int.toNat p.Op]? = some (sepT p.Op) := by
        rcases isJ_eq hj with h | h <;> rw [h] <;> rfl
      have hs3 := tb_sep p.Op
      have hp1 := x.put_len (tW (sepT p.Op))
      have e1 : (tW (sepT p.Op)).txt.length = (sepT p.Op).length := rfl
      have ht := tb_tkA p.Args[i]
      have hl2 := (x.put (tW (sepT p.Op))).puts_len (tkA p.Args[i])
      have a1 := arg _ hm (x.put (tW (sepT p.Op))) k (by omega) (by omega)
      have w1 : writer_words k (SWriter.mk (toI x.b) (SToken.mk x.k 0 x.s 0)) [sepT p.Op] = some (x.put (tW (sepT p.Op))).w := word1_eq (x := x) (by omega) (by omega)
      have nx := ihd (i + 1) k ((x.put (tW (sepT p.Op))).puts (tkA p.Args[i])) (by omega) (by omega) (by omega) (by omega)
      have ho : decide ((0 : Int) ≤ p.Op) = true := decide_eq_true hn.1.1
      rw [writer_pred_l2, if_pos (by simp; omega), chk_pos (dec_nonneg i), toNat_cast, List.getElem?_eq_getElem h1, Option.bind_some, if_pos (by simp; omega), chk_pos ho, hsep, Option.bind_some, w1, Option.bind_some, a1, Option.bind_some, w64_succ (by omega)]
      refine nx.trans ?_
      rw [tkK_drop h1, PW.puts_cons, PW.puts_append]
  have first : isJ p.Op = true → ∀ (k : Nat) (x : PW), 60 * wL p.Args + 60 ≤ k → x.b.length + 100 * wL p.Args + 60 ≤ 10000000 →
      writer_pred_l2 k p (toI x.b) x.k 0 x.s 0 0 = some (x.puts (tkJ p.Op p.Args)).w := by
    intro hj k x hk hx
    obtain ⟨k, rfl⟩ : ∃ m, k = m + 1 := ⟨k - 1, by omega⟩
    have h1 : 0 < p.Args.length := hn.2.2.2 hj
    have hm := List.getElem_mem h1
    have hd : wL p.Args = wP p.Args[0] + wL (p.Args.drop 1) := by have := wL_drop h1; simpa using this
    have ht := tb_tkA p.Args[0]
    have hl2 := x.puts_len (tkA p.Args[0])
    have a1 : writer_argument k (SWriter.mk (toI x.b) (SToken.mk x.k 0 x.s 0)) p.Args[0] = some (x.puts (tkA p.Args[0])).w := arg _ hm x k (by omega) (by omega)
    have nx := loop hj (p.Args.length - 1) 1 k (x.puts (tkA p.Args[0])) (by omega) (by omega) (by omega) (by omega)
    have h01 : w64 (0 + 1) = ((1 : Nat) : Int) := by decide
    rw [writer_pred_l2, if_pos (by simp; omega), chk_pos (by decide), Int.toNat_zero, List.getElem?_eq_getElem h1, Option.bind_some, if_neg (by decide), a1, Option.bind_some, h01]
    refine nx.trans ?_
    rw [tkJ_eq h1, PW.puts_append]
  obtain ⟨k, rfl⟩ : ∃ m, k = m + 2 := ⟨k - 2, by omega⟩
  rw [writer_pred, tkP_eq]
  by_cases h0 : p.Op = 0
  · have e0 : (p.Op == 0) = true := by rw [h0]; rfl
    have w1 := word1_eq (s := w_true) (x := x) (k := k + 1) (by omega) (by have : w_true.length = 4 := rfl; omega)
    simp only [e0, if_true]
    rw [w1]; rfl
  have e0 : (p.Op == 0) = false := by simpa using h0
  simp only [e0, Bool.false_eq_true, if_false]
  have hj1 : isJ p.Op = true → writer_pred_j1 (k + 1) x.w p true = some (x.puts (tkJ p.Op p.Args)).w := fun hj => by
    rw [writer_pred_j1, if_pos rfl]
    exact first hj k x (by omega) (by omega)
  by_cases hj : isJ p.Op = true
  · simp only [hj, if_true]
    rcases isJ_eq hj with h | h
    · have e1 : (p.Op == 1) = true := by rw [h]; rfl
      simp only [e1, if_true]; exact hj1 hj
    · have e1 : (p.Op == 1) = false := by rw [h]; rfl
      have e2 : (p.Op == 2) = true := by rw [h]; rfl
      simp only [e1, e2, Bool.false_eq_true, if_false]; exact hj1 hj
  have hj' : isJ p.Op = false := by simpa using hj
  have e1 : (p.Op == 1) = false := by
    cases h : (p.Op == 1) with
    | false => rfl
    | true => exact absurd (by unfold isJ; rw [h]; rfl) hj
  have e2 : (p.Op == 2) = false := by
    cases h : (p.Op == 2) with
    | false => rfl
    | true => exact absurd (by unfold isJ; rw [h]; simp) hj
  simp only [e1, e2, hj', Bool.false_eq_true, if_false, writer_pred_j1]
  by_cases h3 : p.Op = 3
  · have e3 : (p.Op == 3) = true := by rw [h3]; rfl
    have h1 : 0 < p.Args.length := hn.2.1 h3
    have hm := List.getElem_mem h1
    have hp1 := x.put_len (tW w_not)
    have l3 : w_not.length = 3 := rfl
    have l3' : (tW w_not).txt.length = 3 := rfl
    have hm2 := wL_mem hm
    have a1 := arg _ hm (x.put (tW w_not)) k (by omega) (by omega)
    simp only [e3, if_true]
    rw [word1_eq (by omega) (by omega), Option.bind_some, chk_pos (by decide), Int.toNat_zero, List.getElem?_eq_getElem h1, Option.bind_some, a1, Option.bind_some]
    rw [tkH_eq h1]; rfl
  have e3 : (p.Op == 3) = false := by simpa using h3
  simp only [e3, Bool.false_eq_true, if_false]
  by_cases h4 : p.Op = 4
  · have e4 : (p.Op == 4) = true := by rw [h4]; rfl
    have hp1 := x.put_len (tW w_has)
    have l3 : w_has.length = 3 := rfl
    have l3' : (tW w_has).txt.length = 3 := rfl
    simp only [e4, if_true]
    rw [word1_eq (by omega) (by omega), Option.bind_some, label_eq (by omega) (by omega) (by omega), Option.bind_some]
    rfl
  have e4 : (p.Op == 4) = false := by simpa using h4
  simp only [e4, Bool.false_eq_true, if_false]
  have hv : okV p.Value := And.left <| hn.2.2.1 (by
    have := hn.1
    have h5 : p.Op ≠ 1 := by intro h; rw [h] at e1; simp at e1
    have h6 : p.Op ≠ 2 := by intro h; rw [h] at e2; simp at e2
    omega)
  have hp := x.puts_len (pathT p.Field p.Key)
  have ht := tb_path p.Field p.Key
  rw [path_eq (by omega) (by omega) (by omega) (by omega), Option.bind_some, PW.puts_append, PW.puts_cons]
  generalize x.puts (pathT p.Field p.Key) = y at hp ⊢
  have l1 : wx3d.length = 1 := rfl
  have l2 : wx3c.length = 1 := rfl
  have l6 : w_prefix.length = 6 := rfl
  have q1 := y.put_len (tS wx3d)
  have q2 := y.put_len (tS wx3c)
  have q3 := y.put_len (tW w_prefix)
  have m1 : (tS wx3d).txt.length = 1 := rfl
  have m2 : (tS wx3c).txt.length = 1 := rfl
  have m6 : (tW w_prefix).txt.length = 6 := rfl
  rw [sign_eq (by omega) (by omega), Option.bind_some, value_eq hv (by omega) (by omega) (by omega), Option.bind_some, sign_eq (by omega) (by omega), Option.bind_some, value_eq hv (by omega) (by omega) (by omega), Option.bind_some, word1_eq (by omega) (by omega), Option.bind_some, value_eq hv (by omega) (by omega) (by omega), Option.bind_some]
  cases (p.Op == 5) <;> cases (p.Op == 6) <;> rfl
end Go.Proofs.YtfnaahkgegfbnaaGreatDoor
