/- The card. -/
import Derived.Test.YtfnaahkgegfbnaaGreatDoorZ0
import Derived.Test.YtfnaahkgegfbnaaGreatDoorZ1
set_option linter.unusedVariables false
set_option linter.unusedSimpArgs false
set_option maxRecDepth 10000
namespace Go.Proofs.YtfnaahkgegfbnaaGreatDoor
variable {k cu0 cu1 cu2 cu3 cu4 cu5 cu6 cu7 cu8 cu9 cu10 cu11 cu12 cu13 cu14 cu15 cu16 cu17 cu18 cu19 cu20 cu21 cu22 cu23 cu24 cu25 cu26 cu27 cu28 cu29 cu30 cu31 cu32 cu33 cu34 cu35 cu36 cu37 cu38 cu39 ob0 ob1 ob2 ob3 ob4 ob5 ob6 ob7 ob8 ob9 ob10 ob11 : Nat} {g w : World} {m : Mem} {F : List Asr} {Au0 Au1 Au2 Au3 Au4 Au5 Au6 Au7 Au8 Au9 Au10 Au11 Au12 Au13 Au14 Au15 Au16 Au17 Au18 Au19 Au20 Au21 Au22 Au23 Au24 Au25 Au26 Au27 Au28 Au29 Au30 Au31 Au32 Au33 Au34 Au35 Au36 Au37 Au38 Au39 : Option Addr}
abbrev R_syntax_letter := RBool
theorem c_syntax_letter {a0 : Int} {r : Bool} (h : syntax_letter a0 = some r) (hst : St g m (F) w) :
    Calls Tryz.prog 96 ⟨[vu a0]⟩ w (OPost (R_syntax_letter g m F) r) := by
 refine calls_enter Tryz.func96 rfl rfl ?_
 unfold syntax_letter at h
 refine qr (s0 1 [vb false] (nl (tn (qr (s0 3 [vb (decide (a0 ≥ 97))] ?_)))))
 rcases sp h with ⟨hc1, h⟩ | ⟨hc1, h⟩
 ·rw [hc1]
  refine s0 4 [vb (decide (a0 ≤ 122)), vb (decide (a0 ≤ 122))] ?_
  rcases sp h with ⟨hc2, h⟩ | ⟨hc2, h⟩
  ·rw [hc2]
   refine sk 6 (s0 2 [vb true] (sk 2 (s0 2 [vb true] (nl (tn (wp_ret (wr [vb true] ?_)))))))
   have h := Option.some.inj h; subst h
   exact ⟨_, rfl, m, rfl, (Mem.le.refl _), hst⟩
  rw [hc2]
  refine s0 3 [vb (decide (a0 ≥ 65))] ?_
  rcases sp h with ⟨hc3, h⟩ | ⟨hc3, h⟩
  ·rw [hc3]
   refine s0 5 [vb (decide (a0 ≤ 90)), vb (decide (a0 ≤ 90)), vb (decide (a0 ≤ 90))] ?_
   rcases sp h with ⟨hc4, h⟩ | ⟨hc4, h⟩
   ·rw [hc4]
    refine sk 2 (s0 2 [vb true] (nl (tn (wp_ret (wr [vb true] ?_)))))
    have h := Option.some.inj h; subst h
    exact ⟨_, rfl, m, rfl, (Mem.le.refl _), hst⟩
   rw [hc4]
   refine s0 4 [vb (a0 == 95), vb (a0 == 95)] (nl (tn (wp_ret (wr [vb (a0 == 95)] ?_))))
   cases h
   exact ⟨_, rfl, m, rfl, (Mem.le.refl _), hst⟩
  rw [hc3]
  refine sk 2 (s0 7 [vb false, vb false, vb (a0 == 95), vb (a0 == 95)] (nl (tn (wp_ret (wr [vb (a0 == 95)] ?_)))))
  cases h
  exact ⟨_, rfl, m, rfl, (Mem.le.refl _), hst⟩
 rw [hc1]
 refine sk 2 (s0 5 [vb false, vb (decide (a0 ≥ 65))] ?_)
 rcases sp h with ⟨hc5, h⟩ | ⟨hc5, h⟩
 ·rw [hc5]
  refine s0 5 [vb (decide (a0 ≤ 90)), vb (decide (a0 ≤ 90)), vb (decide (a0 ≤ 90))] ?_
  rcases sp h with ⟨hc6, h⟩ | ⟨hc6, h⟩
  ·rw [hc6]
   refine sk 2 (s0 2 [vb true] (nl (tn (wp_ret (wr [vb true] ?_)))))
   have h := Option.some.inj h; subst h
   exact ⟨_, rfl, m, rfl, (Mem.le.refl _), hst⟩
  rw [hc6]
  refine s0 4 [vb (a0 == 95), vb (a0 == 95)] (nl (tn (wp_ret (wr [vb (a0 == 95)] ?_))))
  cases h
  exact ⟨_, rfl, m, rfl, (Mem.le.refl _), hst⟩
 rw [hc5]
 refine sk 2 (s0 7 [vb false, vb false, vb (a0 == 95), vb (a0 == 95)] (nl (tn (wp_ret (wr [vb (a0 == 95)] ?_)))))
 cases h
 exact ⟨_, rfl, m, rfl, (Mem.le.refl _), hst⟩
abbrev R_syntax_digit := RBool
theorem c_syntax_digit {a0 : Int} {r : Bool} (h : syntax_digit a0 = some r) (hst : St g m (F) w) :
    Calls Tryz.prog 152 ⟨[vu a0]⟩ w (OPost (R_syntax_digit g m F) r) := by
 refine calls_enter Tryz.func152 rfl rfl ?_
 unfold syntax_digit at h
 refine qr (s0 1 [vb false] (nl (tn (qr (s0 3 [vb (decide (a0 ≥ 48))] ?_)))))
 rcases sp h with ⟨hc1, h⟩ | ⟨hc1, h⟩
 ·rw [hc1]
  refine s0 4 [vb (decide (a0 ≤ 57)), vb (decide (a0 ≤ 57))] (nl (tn (wp_ret (wr [vb (decide (a0 ≤ 57))] ?_))))
  cases h
  exact ⟨_, rfl, m, rfl, (Mem.le.refl _), hst⟩
 rw [hc1]
 refine sk 2 (s0 2 [vb false] (nl (tn (wp_ret (wr [vb false] ?_)))))
 have h := Option.some.inj h; subst h
 exact ⟨_, rfl, m, rfl, (Mem.le.refl _), hst⟩
abbrev R_syntax_inner := RBool
theorem c_syntax_inner {a0 : Int} {r : Bool} (h : syntax_inner a0 = some r) (hst : St g m (F) w) :
    Calls Tryz.prog 97 ⟨[vu a0]⟩ w (OPost (R_syntax_inner g m F) r) := by
 refine calls_enter Tryz.func97 rfl rfl ?_
 unfold syntax_inner at h
 refine qr (s0 1 [vb false] (nl (tn (qr (s0 1 [] ?_)))))
 obtain ⟨r1, hq2, h⟩ := bs h
 refine cal (c_syntax_letter hq2 hst) ?_
 rintro _ _ ⟨m3, rfl, hl4, hst⟩
 refine s0 1 [] ?_
 rcases sp h with ⟨hc5, h⟩ | ⟨hc5, h⟩
 ·rw [hc5]
  refine sk 2 (s0 2 [vb true] (sk 2 (s0 2 [vb true] (nl (tn (wp_ret (wr [vb true] ?_)))))))
  have h := Option.some.inj h; subst h
  exact ⟨_, rfl, m3, rfl, hl4, hst⟩
 rw [hc5]
 refine s0 1 [] ?_
 obtain ⟨r6, hq7, h⟩ := bs h
 refine cal (c_syntax_digit hq7 hst) ?_
 rintro _ _ ⟨m8, rfl, hl9, hst⟩
 refine s0 2 [vb r6] ?_
 rcases sp h with ⟨hc10, h⟩ | ⟨hc10, h⟩
 ·rw [hc10]
  refine sk 2 (s0 2 [vb true] (nl (tn (wp_ret (wr [vb true] ?_)))))
  have e11 := hl4.trans hl9
  have h := Option.some.inj h; subst h
  exact ⟨_, rfl, m8, rfl, e11, hst⟩
 rw [hc10]
 refine s0 4 [vb (a0 == 45), vb (a0 == 45)] (nl (tn (wp_ret (wr [vb (a0 == 45)] ?_))))
 have e12 := hl4.trans hl9
 cases h
 exact ⟨_, rfl, m8, rfl, e12, hst⟩
def R_lexer_skip (g : World) (m : Mem) (F : List Asr) (ob0 : Nat) (r : SParser) (v : Value) (w' : World) : Prop := ∃ m', v = vt [] ∧ m.le m' ∧ St g m' (oo ob0 155 (cSParser r) :: F) w'
theorem c_lexer_skip {a0 : SParser} {r : SParser} (h : lexer_skip k a0 = some r) (hst : St g m (oo ob0 155 (cSParser a0) :: F) w) :
    Calls Tryz.prog 172 ⟨[vp ob0 0, vf 97 [] []]⟩ w (OPost (R_lexer_skip g m F ob0) r) := by
 refine calls_enter Tryz.func172 rfl rfl ?_
 unfold lexer_skip at h
 refine bk (wc_loop (fun kk a w => ∃ f0 m40 x18, a = act Tryz.f172.ntmps (upds f0 [(0, vp ob0 0), (1, vf 97 [] [])]) ∧ kk ≤ k ∧ lexer_skip_l1 kk a0 x18 = some r ∧ m.le m40 ∧ St g m40 (oo ob0 155 [vstr a0.x_.s_, vi x18, vi a0.t_.kind, vi a0.t_.at_, vstr a0.t_.s_, vi a0.t_.n_] :: F) w) k ?_ ?_)
 ·exact ⟨_, m, (a0.x_.at_), au, (Nat.le_refl _), h, (Mem.le.refl _), hst⟩
 rintro k38 ih39 _ _ ⟨f0, m40, x18, rfl, hk37, h, hl36, hst⟩
 obtain _ | k42 := k38
 ·simp [lexer_skip_l1] at h
 rw [lexer_skip_l1] at h
 refine sq (sq (dr false (fun x => Rd m40 (oo ob0 155 [vstr a0.x_.s_, vi x18, vi a0.t_.kind, vi a0.t_.at_, vstr a0.t_.s_, vi a0.t_.n_] :: []) x) ?_))
 have hst := hst.drew
 refine gs [0, 4, 1, 5, 2, 6, 3, 7, 8, 9, 10] [vp ob0 0, vp ob0 0, vp ob0 1, vp ob0 0, vi x18, vstr a0.x_.s_, vi ((a0.x_.s_).length : Int), vb (decide (x18 < ((a0.x_.s_).length : Int)))] _ 12 (pqt (pqt (pqt (pqk pqb)))) (hst.rd.with_ 0 rfl (hst.rd.none_)) (fun x hx => (AllC.app (hx.q 0 1 1) (hx.q 0 0 1))) ?_
 rcases sp h with ⟨hc51, h⟩ | ⟨hc51, h⟩
 ·rw [hc51]
  refine gs [11, 12, 16, 13, 17, 14, 18, 15, 19] [vf 97 [] [], vp ob0 0, vp ob0 0, vp ob0 0, vp ob0 0, vp ob0 0, vp ob0 1, vstr a0.x_.s_, vi x18] _ 3 (pqt (pqt (pqt (pqk pqb)))) (hst.rd.with_ 0 rfl (hst.rd.none_)) (fun x hx => (hx.q 0 0 2)) ?_
  obtain ⟨c53, hc54, h⟩ := ix h
  refine gv 20 (pqt (pqt (pqt (pqk pqb)))) (hst.rd.with_ 0 rfl (hst.rd.none_)) rfl (fun x hx => ria hc54.1 hc54.2) ?_
  refine ge 21 rfl ?_
  obtain ⟨r55, hq56, h⟩ := bs h
  refine cal (c_syntax_inner hq56 hst) ?_
  rintro _ _ ⟨m57, rfl, hl58, hst⟩
  refine gn (Rd.lower hl58 (hst.rd.with_ 0 rfl (hst.rd.none_))) (ge 22 rfl (sg 1 [vb r55] [] trivial (nl (tn (⟨_, fun _ h => h, .inl ⟨rfl, allListed_of _ (by kernel_rfl)⟩, ?_⟩)))))
  refine gd (tn (cn h (fun h => ?_) (fun h => ?_)))
  ·refine wp_skip (tn (bk (rg (sg 7 [vp ob0 0, vp ob0 1, vi x18, vi (w64 (x18 + 1)), vp ob0 0, vp ob0 1] _ (hst.q 0 1 1) (so0 1 [vi (w64 (x18 + 1))] hst (fun _ hst => ?_))))))
   refine nl (bn (tn ?_))
   have e59 := hl36.trans hl58
   exact ih39 k42 (by omega) _ _ ⟨_, m57, (w64 (x18 + 1)), au, (by omega), h, e59, hst⟩
  refine wp_exit (tx (tx (bx (we [] ?_))))
  have e60 := hl36.trans hl58
  cases h
  exact ⟨_, rfl, m57, rfl, e60, hst⟩
 rw [hc51]
 refine gs [11, 12, 16, 13, 17, 14, 18, 15, 19, 20, 21] [undef, undef, undef, undef, undef, undef, undef, undef, undef, undef, undef] [] 1 (pqt (pqt (pqt (pqk pqb)))) (hst.rd.with_ 0 rfl (hst.rd.none_)) (fun x hx => trivial) ?_
 refine ge 22 rfl (sg 1 [vb false] [] trivial (nl (tn (⟨_, fun _ h => h, .inl ⟨rfl, allListed_of _ (by kernel_rfl)⟩, ?_⟩))))
 refine gd (tn (cf (wp_exit (tx (tx (bx (we [] ?_)))))))
 cases h
 exact ⟨_, rfl, m40, rfl, hl36, hst⟩
def R_lexer_skip_i1 (g : World) (m : Mem) (F : List Asr) (ob0 : Nat) (r : SParser) (v : Value) (w' : World) : Prop := ∃ m', v = vt [] ∧ m.le m' ∧ St g m' (oo ob0 155 (cSParser r) :: F) w'
theorem c_lexer_skip_i1 {a0 : SParser} {r : SParser} (h : lexer_skip_i1 k a0 = some r) (hst : St g m (oo ob0 155 (cSParser a0) :: F) w) :
    Calls Tryz.prog 172 ⟨[vp ob0 0, vf 152 [] []]⟩ w (OPost (R_lexer_skip_i1 g m F ob0) r) := by
 refine calls_enter Tryz.func172 rfl rfl ?_
 unfold lexer_skip_i1 at h
 refine bk (wc_loop (fun kk a w => ∃ f0 m40 x18, a = act Tryz.f172.ntmps (upds f0 [(0, vp ob0 0), (1, vf 152 [] [])]) ∧ kk ≤ k ∧ lexer_skip_i1_l1 kk a0 x18 = some r ∧ m.le m40 ∧ St g m40 (oo ob0 155 [vstr a0.x_.s_, vi x18, vi a0.t_.kind, vi a0.t_.at_, vstr a0.t_.s_, vi a0.t_.n_] :: F) w) k ?_ ?_)
 ·exact ⟨_, m, (a0.x_.at_), au, (Nat.le_refl _), h, (Mem.le.refl _), hst⟩
 rintro k38 ih39 _ _ ⟨f0, m40, x18, rfl, hk37, h, hl36, hst⟩
 obtain _ | k42 := k38
 ·simp [lexer_skip_i1_l1] at h
 rw [lexer_skip_i1_l1] at h
 refine sq (sq (dr false (fun x => Rd m40 (oo ob0 155 [vstr a0.x_.s_, vi x18, vi a0.t_.kind, vi a0.t_.at_, vstr a0.t_.s_, vi a0.t_.n_] :: []) x) ?_))
 have hst := hst.drew
 refine gs [0, 4, 1, 5, 2, 6, 3, 7, 8, 9, 10] [vp ob0 0, vp ob0 0, vp ob0 1, vp ob0 0, vi x18, vstr a0.x_.s_, vi ((a0.x_.s_).length : Int), vb (decide (x18 < ((a0.x_.s_).length : Int)))] _ 12 (pqt (pqt (pqt (pqk pqb)))) (hst.rd.with_ 0 rfl (hst.rd.none_)) (fun x hx => (AllC.app (hx.q 0 1 1) (hx.q 0 0 1))) ?_
 rcases sp h with ⟨hc51, h⟩ | ⟨hc51, h⟩
 ·rw [hc51]
  refine gs [11, 12, 16, 13, 17, 14, 18, 15, 19] [vf 152 [] [], vp ob0 0, vp ob0 0, vp ob0 0, vp ob0 0, vp ob0 0, vp ob0 1, vstr a0.x_.s_, vi x18] _ 3 (pqt (pqt (pqt (pqk pqb)))) (hst.rd.with_ 0 rfl (hst.rd.none_)) (fun x hx => (hx.q 0 0 2)) ?_
  obtain ⟨c53, hc54, h⟩ := ix h
  refine gv 20 (pqt (pqt (pqt (pqk pqb)))) (hst.rd.with_ 0 rfl (hst.rd.none_)) rfl (fun x hx => ria hc54.1 hc54.2) ?_
  refine ge 21 rfl ?_
  obtain ⟨r55, hq56, h⟩ := bs h
  refine cal (c_syntax_digit hq56 hst) ?_
  rintro _ _ ⟨m57, rfl, hl58, hst⟩
  refine gn (Rd.lower hl58 (hst.rd.with_ 0 rfl (hst.rd.none_))) (ge 22 rfl (sg 1 [vb r55] [] trivial (nl (tn (⟨_, fun _ h => h, .inl ⟨rfl, allListed_of _ (by kernel_rfl)⟩, ?_⟩)))))
  refine gd (tn (cn h (fun h => ?_) (fun h => ?_)))
  ·refine wp_skip (tn (bk (rg (sg 7 [vp ob0 0, vp ob0 1, vi x18, vi (w64 (x18 + 1)), vp ob0 0, vp ob0 1] _ (hst.q 0 1 1) (so0 1 [vi (w64 (x18 + 1))] hst (fun _ hst => ?_))))))
   refine nl (bn (tn ?_))
   have e59 := hl36.trans hl58
   exact ih39 k42 (by omega) _ _ ⟨_, m57, (w64 (x18 + 1)), au, (by omega), h, e59, hst⟩
  refine wp_exit (tx (tx (bx (we [] ?_))))
  have e60 := hl36.trans hl58
  cases h
  exact ⟨_, rfl, m57, rfl, e60, hst⟩
 rw [hc51]
 refine gs [11, 12, 16, 13, 17, 14, 18, 15, 19, 20, 21] [undef, undef, undef, undef, undef, undef, undef, undef, undef, undef, undef] [] 1 (pqt (pqt (pqt (pqk pqb)))) (hst.rd.with_ 0 rfl (hst.rd.none_)) (fun x hx => trivial) ?_
 refine ge 22 rfl (sg 1 [vb false] [] trivial (nl (tn (⟨_, fun _ h => h, .inl ⟨rfl, allListed_of _ (by kernel_rfl)⟩, ?_⟩))))
 refine gd (tn (cf (wp_exit (tx (tx (bx (we [] ?_)))))))
 cases h
 exact ⟨_, rfl, m40, rfl, hl36, hst⟩
def R_strconv_Atoi (g : World) (m : Mem) (F : List Asr) (r : Int × Bool) (v : Value) (w' : World) : Prop := ∃ m' v0, v = vt [vi r.1, v0] ∧ m.le m' ∧ St g m' (F) w' ∧ ErrV v0 r.2
theorem c_strconv_Atoi {a0 : Str} {r : Int × Bool} (h : strconv_Atoi a0 = some r) (hst : St g m (F) w) :
    Calls Tryz.prog 173 ⟨[vstr a0]⟩ w (OPost (R_strconv_Atoi g m F) r) := by
  unfold strconv_Atoi at h
  obtain ⟨hb, h⟩ := chk_some h
  obtain ⟨n, hn, h⟩ := bs h
  cases h
  refine (Tryz.strconv_Atoi ⟨⟨a0⟩⟩ n (of_decide_eq_true hb) hn w).mono ?_
  rintro e w' ⟨rfl, t, rfl⟩
  exact ⟨_, rfl, m, .nilIface, rfl, Mem.le.refl m, hst.wider (fun b hb => Lib.bytesWorld_at_old _ _ _ _ hb) rfl rfl rfl, .inl ⟨rfl, rfl⟩⟩
def R_lexer_quoted (g : World) (m : Mem) (F : List Asr) (ob0 : Nat) (r : SParser × SToken) (v : Value) (w' : World) : Prop := ∃ m', v = va (cSToken r.2) ∧ m.le m' ∧ St g m' (oo ob0 155 (cSParser r.1) :: F) w'
theorem c_lexer_quoted {a0 : SParser} {r : Except Pan (SParser × SToken)} (h : lexer_quoted k a0 = some r) (hst : St g m (oo ob0 155 (cSParser a0) :: F) w) :
    Calls Tryz.prog 174 ⟨[vp ob0 0]⟩ w (XPost (R_lexer_quoted g m F ob0) g m (oo ob0 155 (cSParser a0) :: F) r) := by
 refine calls_enter Tryz.func174 rfl rfl ?_
 unfold lexer_quoted at h
 refine qr (al [vi 0, vi 0, vstr w_0, vi 0] hst (fun b1 _ hst => ?_))
 refine nl (tn (qr (sg 5 [vp ob0 0, vp ob0 1, vi a0.x_.at_] _ (hst.q 1 1 1) (nl (tn (qr ?_))))))
 have hrc3 := RC.nil (TInt .u8) m
 have hst := hst.nil_row 5 1
 refine s0 1 [vn] (nl (tn (sq (qr (s0 3 [vi (w64 (a0.x_.at_ + 1))] (nl (tn (bk (wc_loop (fun kk a w => ∃ f0 m146 x70 A71 c72 cs73 x75, a = act Tryz.f174.ntmps (upds f0 [(0, vp ob0 0), (2, vp b1 0), (3, vi a0.x_.at_), (4, vs A71 x70 c72), (5, vi x75)]) ∧ kk ≤ k ∧ lexer_quoted_l7 kk a0 x70 x75 = some r ∧ m.le m146 ∧ St g m146 (rw_ 5 1 A71 x70 c72 cs73 :: oo b1 121 [vi 0, vi 0, vstr w_0, vi 0] :: oo ob0 155 (cSParser a0) :: F) w ∧ RC (TInt .u8) m146 x70 cs73) k ?_ ?_)))))))))
 ·exact ⟨_, m, ([]), none, 0, [], (w64 (a0.x_.at_ + 1)), au, (Nat.le_refl _), h, (Mem.le.refl _), hst, hrc3⟩
 rintro k144 ih145 _ _ ⟨f0, m146, x70, A71, c72, cs73, x75, rfl, hk143, h, hl142, hst, hrc74⟩
 obtain _ | k148 := k144
 ·simp [lexer_quoted_l7] at h
 rw [lexer_quoted_l7] at h
 refine sq (qr (sg 7 [vp ob0 0, vp ob0 0, vstr a0.x_.s_, vi ((a0.x_.s_).length : Int), vb (decide (x75 < ((a0.x_.s_).length : Int)))] _ (hst.q 2 0 1) (nl (tn (cn h (fun h => ?_) (fun h => ?_))))))
 ·refine wp_skip (tn (sq (bk (qr (sg 5 [vp ob0 0, vp ob0 0, vstr a0.x_.s_] _ (hst.q 2 0 1) ?_)))))
  obtain ⟨c150, hc151, h⟩ := ix h
  refine vl (ria hc151.1 hc151.2) (s0 1 [] (nl (tn (bk (qr (s0 3 [vb ((c150.toNat : Int) == 34)] (nl (tn (cn h (fun h => ?_) (fun h => ?_))))))))))
  ·refine qr (s0 5 [vi (w64 (x75 + 1)), vp ob0 0, vp ob0 1] (so2 1 [vi (w64 (x75 + 1))] hst (fun _ hst => ?_)))
   refine nl (tn (qr (s0 2 [] (vl (cro hst.rd 0 hrc74) (s0 1 [va [vi 3, vi a0.x_.at_, vstr (List.map (fun q : Int => UInt8.ofNat q.toNat) x70), vi 0]] ?_)))))
   refine so1 0 [vi 3, vi a0.x_.at_, vstr (List.map (fun q : Int => UInt8.ofNat q.toNat) x70), vi 0] hst (fun _ hst => ?_)
   refine nl (tn (wp_ret (br (br (tr (tr (br (tr (wrr [va [vi 3, vi a0.x_.at_, vstr (List.map (fun q : Int => UInt8.ofNat q.toNat) x70), vi 0]] _ (hst.q 1 0 4) ?_)))))))))
   have hst := pk2 hst
   cases h
   exact ⟨_, rfl, m146, rfl, hl142, hst⟩
  refine wc_join (fun a w => ∃ f0 k158 m160 x153 x154 x155 x156, a = act Tryz.f174.ntmps (upds f0 [(0, vp ob0 0), (2, vp b1 0), (3, vi a0.x_.at_), (4, vs A71 x70 c72), (5, vi x75), (6, vu (c150.toNat : Int)), (14, vi x75), (15, vp ob0 0), (16, vp ob0 0), (17, vp ob0 0), (18, vstr a0.x_.s_), (19, vi ((a0.x_.s_).length : Int)), (20, vb (decide (x75 < ((a0.x_.s_).length : Int)))), (23, vp ob0 0), (24, vp ob0 0), (25, vp ob0 0), (26, vstr a0.x_.s_), (27, vi x75), (28, vu (c150.toNat : Int)), (33, vb ((c150.toNat : Int) == 34)), (34, vu (c150.toNat : Int)), (35, vb ((c150.toNat : Int) == 34)), (45, vb x153), (46, vu (c150.toNat : Int)), (47, vb x154), (48, vb x155), (51, vb x156)]) ∧ k158 ≤ k148 ∧ lexer_quoted_j8 k158 a0 x70 x75 c150 x153 = some r ∧ m146.le m160 ∧ St g m160 (rw_ 5 1 A71 x70 c72 cs73 :: oo b1 121 [vi 0, vi 0, vstr w_0, vi 0] :: oo ob0 155 (cSParser a0) :: F) w) ?_ ?_
  ·rintro _ _ ⟨f0, k158, m160, x153, x154, x155, x156, rfl, hk159, h, hl157, hst⟩
   obtain _ | k161 := k158
   ·simp [lexer_quoted_j8] at h
   rw [lexer_quoted_j8] at h
   refine cn h (fun h => ?_) (fun h => ?_)
   ·refine rg (s0 3 [va [vi x75, vi 14], .iface 84 (va [vi x75, vi 14])] (pa (v := .iface 84 (va [vi x75, vi 14])) (bp (bp (tp (tp (bp (tp (wpn ?_)))))))))
    cases h
    have e162 := hl142.trans hl157
    exact ⟨_, rfl, rfl, m160, e162, hst.pick 3 [2] (by kernel_rfl)⟩
   refine wc_join (fun a w => ∃ f0 k169 m171 x164 x165 x166 x167, a = act Tryz.f174.ntmps (upds f0 [(0, vp ob0 0), (2, vp b1 0), (3, vi a0.x_.at_), (4, vs A71 x70 c72), (5, vi x75), (6, vu (c150.toNat : Int)), (14, vi x75), (15, vp ob0 0), (16, vp ob0 0), (17, vp ob0 0), (18, vstr a0.x_.s_), (19, vi ((a0.x_.s_).length : Int)), (20, vb (decide (x75 < ((a0.x_.s_).length : Int)))), (23, vp ob0 0), (24, vp ob0 0), (25, vp ob0 0), (26, vstr a0.x_.s_), (27, vi x75), (28, vu (c150.toNat : Int)), (33, vb ((c150.toNat : Int) == 34)), (34, vu (c150.toNat : Int)), (35, vb ((c150.toNat : Int) == 34)), (45, vb x153), (46, vu (c150.toNat : Int)), (47, vb x154), (48, vb x155), (51, vb x156), (55, vb x164), (56, vu (c150.toNat : Int)), (57, vb x165), (58, vb x166), (67, vb x167)]) ∧ k169 ≤ k161 ∧ lexer_quoted_j9 k169 a0 x70 x75 c150 x164 = some r ∧ m160.le m171 ∧ St g m171 (rw_ 5 1 A71 x70 c72 cs73 :: oo b1 121 [vi 0, vi 0, vstr w_0, vi 0] :: oo ob0 155 (cSParser a0) :: F) w) ?_ ?_
   ·rintro _ _ ⟨f0, k169, m171, x164, x165, x166, x167, rfl, hk170, h, hl168, hst⟩
    obtain _ | k172 := k169
    ·simp [lexer_quoted_j9] at h
    rw [lexer_quoted_j9] at h
    refine cn h (fun h => ?_) (fun h => ?_)
    ·refine wc_join (fun a w => ∃ f0 k185 m187 x178 x179 x180 x181 x182 x183, a = act Tryz.f174.ntmps (upds f0 [(0, vp ob0 0), (2, vp b1 0), (3, vi a0.x_.at_), (4, vs A71 x70 c72), (5, vi x75), (6, vu (c150.toNat : Int)), (7, vu x178), (14, vi x75), (15, vp ob0 0), (16, vp ob0 0), (17, vp ob0 0), (18, vstr a0.x_.s_), (19, vi ((a0.x_.s_).length : Int)), (20, vb (decide (x75 < ((a0.x_.s_).length : Int)))), (23, vp ob0 0), (24, vp ob0 0), (25, vp ob0 0), (26, vstr a0.x_.s_), (27, vi x75), (28, vu (c150.toNat : Int)), (33, vb ((c150.toNat : Int) == 34)), (34, vu (c150.toNat : Int)), (35, vb ((c150.toNat : Int) == 34)), (45, vb x153), (46, vu (c150.toNat : Int)), (47, vb x154), (48, vb x155), (51, vb x156), (55, vb x164), (56, vu (c150.toNat : Int)), (57, vb x165), (58, vb x166), (67, vb x167), (68, vp ob0 0), (69, vp ob0 0), (70, vp ob0 0), (71, vstr a0.x_.s_), (72, vi x75), (73, vi (w64 (x75 + 1))), (74, vu x179), (75, vu x180), (76, vb x181), (77, vb x182), (80, vb x183)]) ∧ k185 ≤ k172 ∧ lexer_quoted_j10 k185 a0 x70 x75 = some r ∧ m171.le m187 ∧ St g m187 (rw_ 5 1 A71 x70 c72 cs73 :: oo b1 121 [vi 0, vi 0, vstr w_0, vi 0] :: oo ob0 155 (cSParser a0) :: F) w) ?_ ?_
     ·rintro _ _ ⟨f0, k185, m187, x178, x179, x180, x181, x182, x183, rfl, hk186, h, hl184, hst⟩
      obtain _ | k188 := k185
      ·simp [lexer_quoted_j10] at h
      rw [lexer_quoted_j10] at h
      refine qr (s0 3 [vi (w64 (x75 + 1))] (nl (tn (rg (sg 6 [vp ob0 0, vp ob0 0, vstr a0.x_.s_] _ (hst.q 2 0 1) ?_)))))
      obtain ⟨c190, hc191, h⟩ := ix h
      refine vl (ria hc191.1 hc191.2) (li 5 1 [vu (c190.toNat : Int)] hst (fun b192 _ hst => ?_))
      obtain ⟨hb193, h⟩ := chk_some h
      have e198 := hl157.trans (hl168.trans hl184)
      refine ap1 (TInt .u8) (xs := x70) (ys := [(c190.toNat : Int)]) 1 1 0 hst (RC.mono e198 hrc74) (RC.k1 rfl (RC.nil _ _)) hb193 (fun A194 c195 cs196 _ hrc197 hst => ?_)
      have hst := pk0 hst
      refine s0 1 [] (nl (bn (bn (tn (rg (s0 3 [vi (w64 ((w64 (x75 + 1)) + 1))] (nl (tn ?_))))))))
      have e199 := hl142.trans (hl157.trans (hl168.trans hl184))
      exact ih145 k188 (by omega) _ _ ⟨_, m187, ((x70 ++ [(c190.toNat : Int)])), A194, c195, cs196, (w64 ((w64 (x75 + 1)) + 1)), au, (by omega), h, e199, hst, hrc197⟩
     refine qr (sg 6 [vp ob0 0, vp ob0 0, vstr a0.x_.s_, vi (w64 (x75 + 1))] _ (hst.q 2 0 1) ?_)
     obtain ⟨c201, hc202, h⟩ := ix h
     refine vl (ria hc202.1 hc202.2) (s0 1 [] (nl (tn (qr (s0 3 [vb ((c201.toNat : Int) != 34)] ?_)))))
     rcases sp h with ⟨hc203, h⟩ | ⟨hc203, h⟩
     ·rw [hc203]
      refine s0 3 [vb ((c201.toNat : Int) != 92), vb ((c201.toNat : Int) != 92)] (nl (tn (cn h (fun h => ?_) (fun h => ?_))))
      ·refine rg (s0 3 [va [vi x75, vi 14], .iface 84 (va [vi x75, vi 14])] (pa (v := .iface 84 (va [vi x75, vi 14])) (tp (bp (bp (tp (tp (bp (tp (wpn ?_))))))))))
       cases h
       have e204 := hl142.trans (hl157.trans hl168)
       exact ⟨_, rfl, rfl, m171, e204, hst.pick 3 [2] (by kernel_rfl)⟩
      refine wp_skip (tn ?_)
      exact ⟨_, k172, m171, ((c201.toNat : Int)), ((c201.toNat : Int)), ((c201.toNat : Int)), (true), (true), (((c201.toNat : Int) != 92)), au, (by omega), h, (Mem.le.refl _), hst⟩
     rw [hc203]
     refine sk 2 (s0 1 [vb false] (nl (tn (cf (wp_skip (tn ?_))))))
     exact ⟨_, k172, m171, ((c201.toNat : Int)), ((c201.toNat : Int)), ((c201.toNat : Int)), (false), (false), (false), au, (by omega), h, (Mem.le.refl _), hst⟩
    refine rg (s0 2 [] (li 5 1 [vu (c150.toNat : Int)] hst (fun b205 _ hst => ?_)))
    obtain ⟨hb206, h⟩ := chk_some h
    have e211 := hl157.trans hl168
    refine ap1 (TInt .u8) (xs := x70) (ys := [(c150.toNat : Int)]) 1 1 0 hst (RC.mono e211 hrc74) (RC.k1 rfl (RC.nil _ _)) hb206 (fun A207 c208 cs209 _ hrc210 hst => ?_)
    have hst := pk0 hst
    refine s0 1 [] (nl (bn (bn (tn (rg (s0 3 [vi (w64 (x75 + 1))] (nl (tn ?_))))))))
    have e212 := hl142.trans (hl157.trans hl168)
    exact ih145 k172 (by omega) _ _ ⟨_, m171, ((x70 ++ [(c150.toNat : Int)])), A207, c208, cs209, (w64 (x75 + 1)), au, (by omega), h, e212, hst, hrc210⟩
   refine rg (s0 3 [vb ((c150.toNat : Int) == 92)] ?_)
   rcases sp h with ⟨hc213, h⟩ | ⟨hc213, h⟩
   ·rw [hc213]
    refine sg 10 [vi (w64 (x75 + 1)), vp ob0 0, vp ob0 0, vstr a0.x_.s_, vi ((a0.x_.s_).length : Int), vb (decide ((w64 (x75 + 1)) < ((a0.x_.s_).length : Int))), vb (decide ((w64 (x75 + 1)) < ((a0.x_.s_).length : Int)))] _ (hst.q 2 0 1) (nl (tn ?_))
    exact ⟨_, k161, m160, (decide ((w64 (x75 + 1)) < ((a0.x_.s_).length : Int))), (true), (true), (decide ((w64 (x75 + 1)) < ((a0.x_.s_).length : Int))), au, (by omega), h, (Mem.le.refl _), hst⟩
   rw [hc213]
   refine sk 8 (s0 2 [vb false] (nl (tn ?_)))
   exact ⟨_, k161, m160, (false), (false), (false), (false), au, (by omega), h, (Mem.le.refl _), hst⟩
  refine rg (s0 3 [vb (decide ((c150.toNat : Int) < 32))] ?_)
  rcases sp h with ⟨hc214, h⟩ | ⟨hc214, h⟩
  ·rw [hc214]
   refine sk 2 (s0 2 [vb true] (nl (tn ?_)))
   exact ⟨_, k148, m146, (true), (true), (true), (true), au, (by omega), h, (Mem.le.refl _), hst⟩
  rw [hc214]
  refine s0 4 [vb (decide ((c150.toNat : Int) > 126)), vb (decide ((c150.toNat : Int) > 126))] (nl (tn ?_))
  exact ⟨_, k148, m146, (decide ((c150.toNat : Int) > 126)), (false), (false), (decide ((c150.toNat : Int) > 126)), au, (by omega), h, (Mem.le.refl _), hst⟩
 refine wp_exit (tx (tx (bx (tn (rg (s0 3 [va [vi a0.x_.at_, vi 14], .iface 84 (va [vi a0.x_.at_, vi 14])] (pa (v := .iface 84 (va [vi a0.x_.at_, vi 14])) (wpn ?_))))))))
 cases h
 exact ⟨_, rfl, rfl, m146, hl142, hst.pick 3 [2] (by kernel_rfl)⟩
abbrev R_stringslite_HasPrefix := RBool
theorem c_stringslite_HasPrefix {a0 : Str} {a1 : Str} {r : Bool} (h : stringslite_HasPrefix a0 a1 = some r) (hst : St g m (F) w) :
    Calls Tryz.prog 185 ⟨[vstr a0, vstr a1]⟩ w (OPost (R_stringslite_HasPrefix g m F) r) := by
 refine calls_enter Tryz.func185 rfl rfl ?_
 unfold stringslite_HasPrefix at h
 refine qr (s0 1 [vb false] (nl (tn (qr (s0 6 [vi ((a0).length : Int), vi ((a1).length : Int), vb (decide (((a0).length : Int) ≥ ((a1).length : Int)))] ?_)))))
 rcases sp h with ⟨hc1, h⟩ | ⟨hc1, h⟩
 ·rw [hc1]
  refine s0 3 [vi ((a1).length : Int)] ?_
  obtain ⟨hb2, h⟩ := chk_some h
  refine vl (rs0 hb2) (s0 1 [] (vl (re (List.take (Int.toNat ((a1).length : Int)) a0) a1) (s0 2 [vb ((List.take (Int.toNat ((a1).length : Int)) a0) == a1)] (nl (tn (wp_ret (wr [vb ((List.take (Int.toNat ((a1).length : Int)) a0) == a1)] ?_)))))))
  cases h
  exact ⟨_, rfl, m, rfl, (Mem.le.refl _), hst⟩
 rw [hc1]
 refine sk 6 (s0 2 [vb false] (nl (tn (wp_ret (wr [vb false] ?_)))))
 have h := Option.some.inj h; subst h
 exact ⟨_, rfl, m, rfl, (Mem.le.refl _), hst⟩
abbrev R_strings_HasPrefix := RBool
theorem c_strings_HasPrefix {a0 : Str} {a1 : Str} {r : Bool} (h : strings_HasPrefix a0 a1 = some r) (hst : St g m (F) w) :
    Calls Tryz.prog 175 ⟨[vstr a0, vstr a1]⟩ w (OPost (R_strings_HasPrefix g m F) r) := by
 refine calls_enter Tryz.func175 rfl rfl ?_
 unfold strings_HasPrefix at h
 refine qr (s0 1 [vb false] (nl (tn (qr (s0 2 [] ?_)))))
 obtain ⟨r1, hq2, h⟩ := bs h
 refine cal (c_stringslite_HasPrefix hq2 hst) ?_
 rintro _ _ ⟨m3, rfl, hl4, hst⟩
 refine s0 1 [] (nl (tn (wp_ret (wr [vb r1] ?_))))
 have h := Option.some.inj h; subst h
 exact ⟨_, rfl, m3, rfl, hl4, hst⟩
def R_lexer_next (g : World) (m : Mem) (F : List Asr) (ob0 : Nat) (r : SParser × SToken) (v : Value) (w' : World) : Prop := ∃ m', v = va (cSToken r.2) ∧ m.le m' ∧ St g m' (oo ob0 155 (cSParser r.1) :: F) w'
theorem c_lexer_next {a0 : SParser} {r : Except Pan (SParser × SToken)} (h : lexer_next k a0 = some r) (hst : St g m (oo ob0 155 (cSParser a0) :: F) w) :
    Calls Tryz.prog 155 ⟨[vp ob0 0]⟩ w (XPost (R_lexer_next g m F ob0) g m F r) := by
 refine calls_enter Tryz.func155 rfl rfl ?_
 unfold lexer_next at h
 refine qr (al [vi 0, vi 0, vstr w_0, vi 0] hst (fun b1 _ hst => ?_))
 refine nl (tn (wc_join (fun a w => ∃ f0 k31 m33 x29, a = act Tryz.f155.ntmps (upds f0 [(0, vp ob0 0), (2, vp b1 0)]) ∧ k31 ≤ k ∧ lexer_next_j1 k31 a0 x29 = some r ∧ m.le m33 ∧ St g m33 (oo b1 121 [vi 0, vi 0, vstr w_0, vi 0] :: oo ob0 155 [vstr a0.x_.s_, vi x29, vi a0.t_.kind, vi a0.t_.at_, vstr a0.t_.s_, vi a0.t_.n_] :: F) w) ?_ ?_))
 ·rintro _ _ ⟨f0, k31, m33, x29, rfl, hk32, h, hl30, hst⟩
  unfold lexer_next_j1 at h
  refine qr (sg 5 [vp ob0 0, vp ob0 1, vi x29] _ (hst.q 1 1 1) (nl (tn (sq (qr (sg 7 [vp ob0 0, vp ob0 0, vstr a0.x_.s_, vi ((a0.x_.s_).length : Int), vb (x29 == ((a0.x_.s_).length : Int))] _ (hst.q 1 0 1) (nl (tn (cn h (fun h => ?_) (fun h => ?_))))))))))
  ·refine qr (s0 2 [va [vi 0, vi x29, vstr w_0, vi 0]] (so0 0 [vi 0, vi x29, vstr w_0, vi 0] hst (fun _ hst => ?_)))
   refine nl (tn (wp_ret (tr (wrr [va [vi 0, vi x29, vstr w_0, vi 0]] _ (hst.q 0 0 4) ?_))))
   have hst := pk0 hst
   cases h
   exact ⟨_, rfl, m33, rfl, hl30, hst⟩
  refine wp_skip (tn (sq (qr (sg 5 [vp ob0 0, vp ob0 0, vstr a0.x_.s_] _ (hst.q 1 0 1) ?_))))
  obtain ⟨c77, hc78, h⟩ := ix h
  refine vl (ria hc78.1 hc78.2) (s0 1 [] (nl (tn (bk (qr (s0 1 [] ?_))))))
  obtain ⟨r79, hq80, h⟩ := bs h
  refine cal (c_syntax_letter hq80 hst) ?_
  rintro _ _ ⟨m81, rfl, hl82, hst⟩
  refine s0 1 [] (nl (tn (cn h (fun h => ?_) (fun h => ?_))))
  ·refine qr (s0 1 [] ?_)
   have hst := pk1 hst
   obtain ⟨r83, hq84, h⟩ := bs h
   refine cal (c_lexer_skip hq84 hst) ?_
   rintro _ _ ⟨m85, rfl, hl86, hst⟩
   refine nl (tn (sq (dr false (fun x => Rd m85 (oo ob0 155 (cSParser r83) :: []) x) ?_)))
   have hst := hst.drew
   refine gs [0, 1, 5, 6, 2, 7, 3, 8, 4, 9] [vp ob0 0, vp ob0 0, vp ob0 0, vp ob0 1, vstr r83.x_.s_, vi r83.x_.at_] _ 3 (pqt (pqk (pqt pqb))) (hst.rd.with_ 0 rfl (hst.rd.none_)) (fun x hx => (hx.q 0 0 2)) ?_
   obtain ⟨hb88, h⟩ := chk_some h
   refine gv 10 (pqt (pqk (pqt pqb))) (hst.rd.with_ 0 rfl (hst.rd.none_)) rfl (fun x hx => rs2 hb88) ?_
   refine gs [11] [va [vi 1, vi x29, vstr (List.take ((Int.toNat r83.x_.at_) - (Int.toNat x29)) (List.drop (Int.toNat x29) r83.x_.s_)), vi 0]] [] 1 (pqt (pqk (pqt pqb))) (hst.rd.with_ 0 rfl (hst.rd.none_)) (fun x hx => trivial) ?_
   refine ge 12 rfl (so1 0 [vi 1, vi x29, vstr (List.take ((Int.toNat r83.x_.at_) - (Int.toNat x29)) (List.drop (Int.toNat x29) r83.x_.s_)), vi 0] hst (fun _ hst => ?_))
   refine nl (tn (⟨_, fun _ h => h, .inl ⟨rfl, allListed_of _ (by kernel_rfl)⟩, ?_⟩))
   refine gd (tn (wp_ret (br (tr (wrr [va [vi 1, vi x29, vstr (List.take ((Int.toNat r83.x_.at_) - (Int.toNat x29)) (List.drop (Int.toNat x29) r83.x_.s_)), vi 0]] _ (hst.q 1 0 4) ?_)))))
   have hst := pk3 hst
   have e89 := hl30.trans (hl82.trans hl86)
   cases h
   exact ⟨_, rfl, m85, rfl, e89, hst⟩
  refine qr (s0 1 [] ?_)
  obtain ⟨r90, hq91, h⟩ := bs h
  refine cal (c_syntax_digit hq91 hst) ?_
  rintro _ _ ⟨m92, rfl, hl93, hst⟩
  refine s0 1 [] (nl (tn (cn h (fun h => ?_) (fun h => ?_))))
  ·refine qr (s0 1 [] ?_)
   have hst := pk1 hst
   obtain ⟨r94, hq95, h⟩ := bs h
   refine cal (c_lexer_skip_i1 hq95 hst) ?_
   rintro _ _ ⟨m96, rfl, hl97, hst⟩
   refine nl (tn (sq (dr false (fun x => Rd m96 (oo ob0 155 (cSParser r94) :: []) x) ?_)))
   have hst := hst.drew
   refine gs [0, 4, 5, 1, 6, 2, 7, 3, 8] [vp ob0 0, vp ob0 0, vp ob0 0, vp ob0 1, vstr r94.x_.s_, vi r94.x_.at_] _ 7 (pqt (pqk (pqt pqb))) (hst.rd.with_ 0 rfl (hst.rd.none_)) (fun x hx => (hx.q 0 0 2)) ?_
   obtain ⟨hb104, h⟩ := chk_some h
   refine gv 9 (pqt (pqk (pqt pqb))) (hst.rd.with_ 0 rfl (hst.rd.none_)) rfl (fun x hx => rs2 hb104) ?_
   refine ge 10 rfl ?_
   obtain ⟨r105, hq106, h⟩ := bs h
   refine cal (c_strconv_Atoi hq106 hst) ?_
   rintro _ _ ⟨m107, q109, rfl, hl108, hst, hq109⟩
   refine gn (Rd.lower hl108 (hst.rd.with_ 0 rfl (hst.rd.none_))) (wpG_strong (S2 := fun x => Rd m107 (oo ob0 155 (cSParser r94) :: []) x) (fun x hx => Rd.lower hl108 hx) ?_)
   refine gs [11, 12, 13, 14] [vi r105.1, q109] [] 1 (pqt (pqk (pqt pqb))) (hst.rd.with_ 0 rfl (hst.rd.none_)) (fun x hx => trivial) ?_
   refine ge 15 rfl (sg 1 [] [] trivial (nl (tn (⟨_, fun _ h => h, .inl ⟨rfl, allListed_of _ (by kernel_rfl)⟩, ?_⟩))))
   refine gd (tn (sq (wc_join (fun a w => ∃ f0 m118 x114, a = act Tryz.f155.ntmps (upds f0 [(0, vp ob0 0), (2, vp b1 0), (3, vi x29), (5, vi r105.1), (98, vb x114)]) ∧ lexer_next_j2 x29 r94 r105 x114 = some r ∧ m107.le m118 ∧ St g m118 (oo ob0 155 (cSParser r94) :: oo b1 121 [vi 0, vi 0, vstr w_0, vi 0] :: F) w) ?_ ?_)))
   ·rintro _ _ ⟨f0, m118, x114, rfl, h, hl115, hst⟩
    unfold lexer_next_j2 at h
    refine cn h (fun h => ?_) (fun h => ?_)
    ·refine rg (s0 3 [va [vi x29, vi 2], .iface 84 (va [vi x29, vi 2])] (pa (v := .iface 84 (va [vi x29, vi 2])) (tp (bp (tp (wpn ?_))))))
     cases h
     have e119 := hl30.trans (hl82.trans (hl93.trans (hl97.trans (hl108.trans hl115))))
     exact ⟨_, rfl, rfl, m118, e119, hst.pick 2 [] (by kernel_rfl)⟩
    refine wp_skip (tn (qr (s0 3 [va [vi 2, vi x29, vstr w_0, vi r105.1]] (so1 0 [vi 2, vi x29, vstr w_0, vi r105.1] hst (fun _ hst => ?_)))))
    refine nl (tn (wp_ret (br (tr (wrr [va [vi 2, vi x29, vstr w_0, vi r105.1]] _ (hst.q 1 0 4) ?_)))))
    have hst := pk3 hst
    have e120 := hl30.trans (hl82.trans (hl93.trans (hl97.trans (hl108.trans hl115))))
    cases h
    exact ⟨_, rfl, m118, rfl, e120, hst⟩
   refine rg (s0 1 [] (vl (rer hq109) (s0 1 [] ?_)))
   rcases sp h with ⟨hc121, h⟩ | ⟨hc121, h⟩
   ·rw [hc121]
    refine sk 2 (s0 1 [vb true] (nl (tn ?_)))
    exact ⟨_, m107, (true), au, h, (Mem.le.refl _), hst⟩
   rw [hc121]
   refine s0 3 [vb (decide (r105.1 > 1099511627776)), vb (decide (r105.1 > 1099511627776))] (nl (tn ?_))
   exact ⟨_, m107, (decide (r105.1 > 1099511627776)), au, h, (Mem.le.refl _), hst⟩
  refine qr (s0 3 [vb ((c77.toNat : Int) == 34)] (nl (tn (cn h (fun h => ?_) (fun h => ?_)))))
  ·refine qr (s0 1 [] ?_)
   have hst := pk1 hst
   rcases xbind_some h with ⟨p126, hq123, rfl⟩ | ⟨r122, hq123, h⟩
   ·have e127 := hl30.trans (hl82.trans hl93)
    exact cpa (c_lexer_quoted hq123 hst) (fun _ _ hp => ⟨rfl, _, rfl, hp.p e127 2 []⟩)
   refine cal (c_lexer_quoted hq123 hst) ?_
   rintro _ _ ⟨m124, rfl, hl125, hst⟩
   refine so1 0 (cSToken r122.2) hst (fun _ hst => ?_)
   refine nl (tn (wp_ret (br (tr (wrr [va (cSToken r122.2)] _ (hst.q 1 0 4) ?_)))))
   have hst := pk3 hst
   have e128 := hl30.trans (hl82.trans (hl93.trans hl125))
   cases h
   exact ⟨_, rfl, m124, rfl, e128, hst⟩
  refine wp_skip (bn (tn (sq (qr (s0 2 [va [vstr wx2e2e, vstr wx213d, vstr wx3e3d, vstr wx3d, vstr wx3c, vstr wx7b, vstr wx7d, vstr wx28, vstr wx29, vstr wx2c, vstr wx2e, vstr wx2f, vstr wx2d], vi 0] (nl (tn (bk (wc_loop (fun kk a w => ∃ f0 m149 x135, a = act Tryz.f155.ntmps (upds f0 [(0, vp ob0 0), (2, vp b1 0), (3, vi x29), (110, va [vstr wx2e2e, vstr wx213d, vstr wx3e3d, vstr wx3d, vstr wx3c, vstr wx7b, vstr wx7d, vstr wx28, vstr wx29, vstr wx2c, vstr wx2e, vstr wx2f, vstr wx2d]), (111, vi x135)]) ∧ kk ≤ k31 ∧ lexer_next_l3 kk a0 x29 x135 = some r ∧ m92.le m149 ∧ St g m149 (oo b1 121 [vi 0, vi 0, vstr w_0, vi 0] :: oo ob0 155 [vstr a0.x_.s_, vi x29, vi a0.t_.kind, vi a0.t_.at_, vstr a0.t_.s_, vi a0.t_.n_] :: F) w) k31 ?_ ?_)))))))))
  ·exact ⟨_, m92, (0), au, (Nat.le_refl _), h, (Mem.le.refl _), hst⟩
  rintro k147 ih148 _ _ ⟨f0, m149, x135, rfl, hk146, h, hl145, hst⟩
  obtain _ | k151 := k147
  ·simp [lexer_next_l3] at h
  rw [lexer_next_l3] at h
  refine qr (s0 1 [vb (decide (x135 < 13))] (nl (tn (sq (cn h (fun h => ?_) (fun h => ?_))))))
  ·refine wp_skip (tn (sq (bk (qr ?_))))
   obtain ⟨c153, hc154, h⟩ := ix h
   refine vl (ras 9 .i64 ([wx2e2e, wx213d, wx3e3d, wx3d, wx3c, wx7b, wx7d, wx28, wx29, wx2c, wx2e, wx2f, wx2d] : List Str) hc154.1 hc154.2) (s0 1 [] (nl (tn (qr (sg 5 [vp ob0 0, vp ob0 0, vstr a0.x_.s_] _ (hst.q 1 0 1) ?_)))))
   obtain ⟨hb155, h⟩ := chk_some h
   refine vl (rs1 hb155) (s0 1 [] ?_)
   obtain ⟨r156, hq157, h⟩ := bs h
   refine cal (c_strings_HasPrefix hq157 hst) ?_
   rintro _ _ ⟨m158, rfl, hl159, hst⟩
   refine nl (tn (cn h (fun h => ?_) (fun h => ?_)))
   ·refine qr (sg 9 [vp ob0 0, vp ob0 1, vi x29, vi ((c153).length : Int), vi (w64 (x29 + ((c153).length : Int))), vp ob0 0, vp ob0 1] _ (hst.q 1 1 1) (so1 1 [vi (w64 (x29 + ((c153).length : Int)))] hst (fun _ hst => ?_)))
    refine nl (tn (qr (s0 3 [va [vi 4, vi x29, vstr c153, vi 0]] (so0 0 [vi 4, vi x29, vstr c153, vi 0] hst (fun _ hst => ?_)))))
    refine nl (tn (wp_ret (br (tr (tr (br (tr (wrr [va [vi 4, vi x29, vstr c153, vi 0]] _ (hst.q 0 0 4) ?_))))))))
    have hst := pk0 hst
    have e160 := hl30.trans (hl82.trans (hl93.trans (hl145.trans hl159)))
    cases h
    exact ⟨_, rfl, m158, rfl, e160, hst⟩
   refine wp_skip (bn (tn (rg (s0 2 [vi (w64 (x135 + 1))] (nl (tn ?_))))))
   have e161 := hl145.trans hl159
   exact ih148 k151 (by omega) _ _ ⟨_, m158, (w64 (x135 + 1)), au, (by omega), h, e161, hst⟩
  refine wp_exit (tx (tx (bx (tn (rg (s0 3 [va [vi x29, vi 14], .iface 84 (va [vi x29, vi 14])] (pa (v := .iface 84 (va [vi x29, vi 14])) (wpn ?_))))))))
  cases h
  have e162 := hl30.trans (hl82.trans (hl93.trans hl145))
  exact ⟨_, rfl, rfl, m149, e162, hst.pick 2 [] (by kernel_rfl)⟩
 refine bk (wc_loop (fun kk a w => ∃ f0 m186 x172, a = act Tryz.f155.ntmps (upds f0 [(0, vp ob0 0), (2, vp b1 0)]) ∧ kk ≤ k ∧ lexer_next_l4 kk a0 x172 = some r ∧ m.le m186 ∧ St g m186 (oo b1 121 [vi 0, vi 0, vstr w_0, vi 0] :: oo ob0 155 [vstr a0.x_.s_, vi x172, vi a0.t_.kind, vi a0.t_.at_, vstr a0.t_.s_, vi a0.t_.n_] :: F) w) k ?_ ?_)
 ·exact ⟨_, m, (a0.x_.at_), au, (Nat.le_refl _), h, (Mem.le.refl _), hst⟩
 rintro k184 ih185 _ _ ⟨f0, m186, x172, rfl, hk183, h, hl182, hst⟩
 obtain _ | k188 := k184
 ·simp [lexer_next_l4] at h
 rw [lexer_next_l4] at h
 refine sq (sq (dr false (fun x => Rd m186 (oo ob0 155 [vstr a0.x_.s_, vi x172, vi a0.t_.kind, vi a0.t_.at_, vstr a0.t_.s_, vi a0.t_.n_] :: []) x) ?_))
 have hst := hst.drew
 refine gs [0, 4, 1, 5, 2, 6, 3, 7, 8, 9, 10] [vp ob0 0, vp ob0 0, vp ob0 1, vp ob0 0, vi x172, vstr a0.x_.s_, vi ((a0.x_.s_).length : Int), vb (decide (x172 < ((a0.x_.s_).length : Int)))] _ 11 (pqt (pqt (pqt (pqk (pqt pqb))))) (hst.rd.with_ 1 rfl (hst.rd.none_)) (fun x hx => (AllC.app (hx.q 0 1 1) (hx.q 0 0 1))) ?_
 rcases sp h with ⟨hc193, h⟩ | ⟨hc193, h⟩
 ·rw [hc193]
  refine gs [11, 15, 12, 16, 13, 17, 14, 18] [vp ob0 0, vp ob0 0, vp ob0 0, vp ob0 0, vp ob0 0, vp ob0 1, vstr a0.x_.s_, vi x172] _ 3 (pqt (pqt (pqt (pqk (pqt pqb))))) (hst.rd.with_ 1 rfl (hst.rd.none_)) (fun x hx => (hx.q 0 0 2)) ?_
  obtain ⟨c195, hc196, h⟩ := ix h
  refine gv 19 (pqt (pqt (pqt (pqk (pqt pqb))))) (hst.rd.with_ 1 rfl (hst.rd.none_)) rfl (fun x hx => ria hc196.1 hc196.2) ?_
  refine gs [20] [vb ((c195.toNat : Int) == 32)] [] 1 (pqt (pqt (pqt (pqk (pqt pqb))))) (hst.rd.with_ 1 rfl (hst.rd.none_)) (fun x hx => trivial) ?_
  refine ge 21 rfl (sg 1 [vb ((c195.toNat : Int) == 32)] [] trivial (nl (tn (⟨_, fun _ h => h, .inl ⟨rfl, allListed_of _ (by kernel_rfl)⟩, ?_⟩))))
  refine gd (tn (cn h (fun h => ?_) (fun h => ?_)))
  ·refine wp_skip (tn (bk (rg (sg 7 [vp ob0 0, vp ob0 1, vi x172, vi (w64 (x172 + 1)), vp ob0 0, vp ob0 1] _ (hst.q 1 1 1) (so1 1 [vi (w64 (x172 + 1))] hst (fun _ hst => ?_))))))
   refine nl (bn (tn ?_))
   exact ih185 k188 (by omega) _ _ ⟨_, m186, (w64 (x172 + 1)), au, (by omega), h, hl182, hst⟩
  refine wp_exit (tx (tx (bx (tn ?_))))
  exact ⟨_, k188, m186, (x172), au, (by omega), h, hl182, hst⟩
 rw [hc193]
 refine gs [11, 15, 12, 16, 13, 17, 14, 18, 19, 20] [undef, undef, undef, undef, undef, undef, undef, undef, undef, undef] [] 1 (pqt (pqt (pqt (pqk (pqt pqb))))) (hst.rd.with_ 1 rfl (hst.rd.none_)) (fun x hx => trivial) ?_
 refine ge 21 rfl (sg 1 [vb false] [] trivial (nl (tn (⟨_, fun _ h => h, .inl ⟨rfl, allListed_of _ (by kernel_rfl)⟩, ?_⟩))))
 refine gd (tn (cf (wp_exit (tx (tx (bx (tn ?_)))))))
 exact ⟨_, k188, m186, (x172), au, (by omega), h, hl182, hst⟩
def R_parser_advance (g : World) (m : Mem) (F : List Asr) (ob0 : Nat) (r : SParser) (v : Value) (w' : World) : Prop := ∃ m', v = vt [] ∧ m.le m' ∧ St g m' (oo ob0 155 (cSParser r) :: F) w'
theorem c_parser_advance {a0 : SParser} {r : Except Pan SParser} (h : parser_advance k a0 = some r) (hst : St g m (oo ob0 155 (cSParser a0) :: F) w) :
    Calls Tryz.prog 102 ⟨[vp ob0 0]⟩ w (XPost (R_parser_advance g m F ob0) g m F r) := by
 refine calls_enter Tryz.func102 rfl rfl ?_
 unfold parser_advance at h
 refine rg (s0 4 [vp ob0 0, vp ob0 0] ?_)
 rcases xbind_some h with ⟨p5, hq2, rfl⟩ | ⟨r1, hq2, h⟩
 ·exact cpa (c_lexer_next hq2 hst) (fun _ _ hp => ⟨rfl, _, rfl, hp.p (Mem.le.refl _) 0 []⟩)
 refine cal (c_lexer_next hq2 hst) ?_
 rintro _ _ ⟨m3, rfl, hl4, hst⟩
 refine s0 2 [vp ob0 0, vp ob0 2] (so0 2 (cSToken r1.2) hst (fun _ hst => ?_))
 refine nl (we [] ?_)
 cases h
 exact ⟨_, rfl, m3, rfl, hl4, hst⟩
def R_parser_is (g : World) (m : Mem) (F : List Asr) (ob0 : Nat) (r : SParser × Bool) (v : Value) (w' : World) : Prop := ∃ m', v = vb r.2 ∧ m.le m' ∧ St g m' (oo ob0 155 (cSParser r.1) :: F) w'
theorem c_parser_is {a0 : SParser} {a1 : Str} {r : SParser × Bool} (h : parser_is a0 a1 = some r) (hst : St g m (oo ob0 155 (cSParser a0) :: F) w) :
    Calls Tryz.prog 157 ⟨[vp ob0 0, vstr a1]⟩ w (OPost (R_parser_is g m F ob0) r) := by
 refine calls_enter Tryz.func157 rfl rfl ?_
 unfold parser_is at h
 refine qr (s0 1 [vb false] (nl (tn (qr (sg 7 [vp ob0 0, vp ob0 2, vp ob0 2, vi a0.t_.kind, vb (a0.t_.kind == 1)] _ (hst.q 0 2 1) ?_)))))
 rcases sp h with ⟨hc1, h⟩ | ⟨hc1, h⟩
 ·rw [hc1]
  refine sk 6 (sg 8 [vb true, vp ob0 0, vp ob0 2, vp ob0 4, vstr a0.t_.s_] _ (hst.q 0 4 1) (vl (re a0.t_.s_ a1) (s0 2 [vb (a0.t_.s_ == a1)] (nl (tn (wp_ret (wr [vb (a0.t_.s_ == a1)] ?_)))))))
  cases h
  exact ⟨_, rfl, m, rfl, (Mem.le.refl _), hst⟩
 rw [hc1]
 refine sg 8 [vp ob0 0, vp ob0 2, vp ob0 2, vi a0.t_.kind, vb (a0.t_.kind == 4), vb (a0.t_.kind == 4)] _ (hst.q 0 2 1) ?_
 rcases sp h with ⟨hc2, h⟩ | ⟨hc2, h⟩
 ·rw [hc2]
  refine sg 6 [vp ob0 0, vp ob0 2, vp ob0 4, vstr a0.t_.s_] _ (hst.q 0 4 1) (vl (re a0.t_.s_ a1) (s0 2 [vb (a0.t_.s_ == a1)] (nl (tn (wp_ret (wr [vb (a0.t_.s_ == a1)] ?_))))))
  cases h
  exact ⟨_, rfl, m, rfl, (Mem.le.refl _), hst⟩
 rw [hc2]
 refine sk 7 (s0 2 [vb false] (nl (tn (wp_ret (wr [vb false] ?_)))))
 cases h
 exact ⟨_, rfl, m, rfl, (Mem.le.refl _), hst⟩
def R_parser_takes (g : World) (m : Mem) (F : List Asr) (ob0 : Nat) (r : SParser × Bool) (v : Value) (w' : World) : Prop := ∃ m', v = vb r.2 ∧ m.le m' ∧ St g m' (oo ob0 155 (cSParser r.1) :: F) w'
theorem c_parser_takes {a0 : SParser} {a1 : Str} {r : Except Pan (SParser × Bool)} (h : parser_takes k a0 a1 = some r) (hst : St g m (oo ob0 155 (cSParser a0) :: F) w) :
    Calls Tryz.prog 108 ⟨[vp ob0 0, vstr a1]⟩ w (XPost (R_parser_takes g m F ob0) g m F r) := by
 refine calls_enter Tryz.func108 rfl rfl ?_
 unfold parser_takes at h
 refine qr (s0 1 [vb false] (nl (tn (sq (qr (s0 2 [] ?_))))))
 obtain ⟨r1, hq2, h⟩ := bs h
 refine cal (c_parser_is hq2 hst) ?_
 rintro _ _ ⟨m3, rfl, hl4, hst⟩
 refine s0 1 [vb (!r1.2)] (nl (tn (cn h (fun h => ?_) (fun h => ?_))))
 ·refine qr (s0 1 [vb false] (nl (tn (wp_ret (tr (wr [vb false] ?_))))))
  cases h
  exact ⟨_, rfl, m3, rfl, hl4, hst⟩
 refine wp_skip (tn (qr (s0 1 [] ?_)))
 rcases xbind_some h with ⟨p9, hq6, rfl⟩ | ⟨r5, hq6, h⟩
 ·exact cpa (c_parser_advance hq6 hst) (fun _ _ hp => ⟨rfl, _, rfl, hp.p hl4 0 []⟩)
 refine cal (c_parser_advance hq6 hst) ?_
 rintro _ _ ⟨m7, rfl, hl8, hst⟩
 refine nl (tn (qr (s0 1 [vb true] (nl (tn (wp_ret (wr [vb true] ?_)))))))
 have e10 := hl4.trans hl8
 cases h
 exact ⟨_, rfl, m7, rfl, e10, hst⟩
def R_parser_wrong (g : World) (m : Mem) (F : List Asr) (ob0 : Nat) (r : SParser) (v : Value) (w' : World) : Prop := ∃ m', v = vt [] ∧ m.le m' ∧ St g m' (oo ob0 155 (cSParser r) :: F) w'
theorem c_parser_wrong {a0 : SParser} {r : Except Pan SParser} (h : parser_wrong a0 = some r) (hst : St g m (oo ob0 155 (cSParser a0) :: F) w) :
    Calls Tryz.prog 103 ⟨[vp ob0 0]⟩ w (XPost (R_parser_wrong g m F ob0) g m (oo ob0 155 (cSParser a0) :: F) r) := by
 refine calls_enter Tryz.func103 rfl rfl ?_
 unfold parser_wrong at h
 refine rg (sg 7 [vp ob0 0, vp ob0 2, vp ob0 3, vi a0.t_.at_, va [vi a0.t_.at_, vi 14], .iface 84 (va [vi a0.t_.at_, vi 14])] _ (hst.q 0 3 1) (pa (v := .iface 84 (va [vi a0.t_.at_, vi 14])) (wpn ?_)))
 cases h
 exact ⟨_, rfl, rfl, m, (Mem.le.refl _), hst.pick 1 [0] (by kernel_rfl)⟩
def R_parser_need (g : World) (m : Mem) (F : List Asr) (ob0 : Nat) (r : SParser) (v : Value) (w' : World) : Prop := ∃ m', v = vt [] ∧ m.le m' ∧ St g m' (oo ob0 155 (cSParser r) :: F) w'
theorem c_parser_need {a0 : SParser} {a1 : Str} {r : Except Pan SParser} (h : parser_need k a0 a1 = some r) (hst : St g m (oo ob0 155 (cSParser a0) :: F) w) :
    Calls Tryz.prog 104 ⟨[vp ob0 0, vstr a1]⟩ w (XPost (R_parser_need g m F ob0) g m F r) := by
 refine calls_enter Tryz.func104 rfl rfl ?_
 unfold parser_need at h
 refine qr (s0 2 [] ?_)
 rcases xbind_some h with ⟨p5, hq2, rfl⟩ | ⟨r1, hq2, h⟩
 ·exact cpa (c_parser_takes hq2 hst) (fun _ _ hp => ⟨rfl, _, rfl, hp.p (Mem.le.refl _) 0 []⟩)
 refine cal (c_parser_takes hq2 hst) ?_
 rintro _ _ ⟨m3, rfl, hl4, hst⟩
 refine s0 1 [vb (!r1.2)] (nl (tn (cn h (fun h => ?_) (fun h => ?_))))
 ·refine rg (s0 1 [] ?_)
  rcases xbind_some h with ⟨p10, hq7, rfl⟩ | ⟨r6, hq7, h⟩
  ·exact cpa (c_parser_wrong hq7 hst) (fun _ _ hp => ⟨rfl, _, rfl, hp.p hl4 1 []⟩)
  cases h
 refine wp_skip (we [] ?_)
 cases h
 exact ⟨_, rfl, m3, rfl, hl4, hst⟩
abbrev R_syntax_isWord := RBool
theorem c_syntax_isWord {a0 : Str} {r : Bool} (h : syntax_isWord k a0 = some r) (hst : St g m (F) w) :
    Calls Tryz.prog 43 ⟨[vstr a0]⟩ w (OPost (R_syntax_isWord g m F) r) := by
 refine calls_enter Tryz.func43 rfl rfl ?_
 unfold syntax_isWord at h
 refine qr (s0 1 [vb false] (nl (tn (sq (wc_join (fun a w => ∃ f0 k19 m21 x17, a = act Tryz.f43.ntmps (upds f0 [(0, vstr a0), (2, vb false), (11, vb x17)]) ∧ k19 ≤ k ∧ syntax_isWord_j1 k19 a0 x17 = some r ∧ m.le m21 ∧ St g m21 (F) w) ?_ ?_)))))
 ·rintro _ _ ⟨f0, k19, m21, x17, rfl, hk20, h, hl18, hst⟩
  unfold syntax_isWord_j1 at h
  refine cn h (fun h => ?_) (fun h => ?_)
  ·refine qr (s0 1 [vb false] (nl (tn (wp_ret (tr (wr [vb false] ?_))))))
   have h := Option.some.inj h; subst h
   exact ⟨_, rfl, m21, rfl, hl18, hst⟩
  refine wp_skip (tn (sq (qr (s0 3 [vi ((a0).length : Int), vi 0] (nl (tn (bk (wc_loop (fun kk a w => ∃ f0 m43 x30, a = act Tryz.f43.ntmps (upds f0 [(0, vstr a0), (2, vb false), (13, vi ((a0).length : Int)), (14, vi x30)]) ∧ kk ≤ k19 ∧ syntax_isWord_l2 kk a0 x30 = some r ∧ m21.le m43 ∧ St g m43 (F) w) k19 ?_ ?_))))))))
  ·exact ⟨_, m21, (0), au, (Nat.le_refl _), h, (Mem.le.refl _), hst⟩
  rintro k41 ih42 _ _ ⟨f0, m43, x30, rfl, hk40, h, hl39, hst⟩
  obtain _ | k45 := k41
  ·simp [syntax_isWord_l2] at h
  rw [syntax_isWord_l2] at h
  refine qr (s0 1 [vb (decide (x30 < ((a0).length : Int)))] (nl (tn (sq (cn h (fun h => ?_) (fun h => ?_))))))
  ·refine wp_skip (tn (sq (bk (qr (s0 2 [] (nl (tn (qr (s0 2 [] ?_)))))))))
   obtain ⟨c47, hc48, h⟩ := ix h
   refine vl (ria hc48.1 hc48.2) ?_
   obtain ⟨r49, hq50, h⟩ := bs h
   refine cal (c_syntax_inner hq50 hst) ?_
   rintro _ _ ⟨m51, rfl, hl52, hst⟩
   refine s0 1 [vb (!r49)] (nl (tn (cn h (fun h => ?_) (fun h => ?_))))
   ·refine qr (s0 1 [vb false] (nl (tn (wp_ret (br (tr (tr (br (tr (wr [vb false] ?_))))))))))
    have e53 := hl18.trans (hl39.trans hl52)
    have h := Option.some.inj h; subst h
    exact ⟨_, rfl, m51, rfl, e53, hst⟩
   refine wp_skip (bn (tn (rg (s0 2 [vi (w64 (x30 + 1))] (nl (tn ?_))))))
   have e54 := hl39.trans hl52
   exact ih42 k45 (by omega) _ _ ⟨_, m51, (w64 (x30 + 1)), au, (by omega), h, e54, hst⟩
  refine wp_exit (tx (tx (bx (tn (qr (s0 1 [vb true] (nl (tn (wp_ret (wr [vb true] ?_))))))))))
  have e55 := hl18.trans hl39
  have h := Option.some.inj h; subst h
  exact ⟨_, rfl, m43, rfl, e55, hst⟩
 refine rg (s0 1 [] (vl (re a0 w_0) (s0 1 [] ?_)))
 rcases sp h with ⟨hc56, h⟩ | ⟨hc56, h⟩
 ·rw [hc56]
  refine sk 4 (s0 1 [vb true] (nl (tn ?_)))
  exact ⟨_, k, m, (true), au, (by omega), h, (Mem.le.refl _), hst⟩
 rw [hc56]
 refine s0 1 [] ?_
 obtain ⟨c58, hc59, h⟩ := ix h
 refine vl (ria hc59.1 hc59.2) ?_
 obtain ⟨r60, hq61, h⟩ := bs h
 refine cal (c_syntax_letter hq61 hst) ?_
 rintro _ _ ⟨m62, rfl, hl63, hst⟩
 refine s0 2 [vb (!r60), vb (!r60)] (nl (tn ?_))
 exact ⟨_, k, m62, (!r60), au, (by omega), h, hl63, hst⟩
abbrev R_syntax_IsVariable := RBool
theorem c_syntax_IsVariable {a0 : Str} {r : Bool} (h : syntax_IsVariable k a0 = some r) (hst : St g m (F) w) (hG : Glob m) :
    Calls Tryz.prog 15 ⟨[vstr a0]⟩ w (OPost (R_syntax_IsVariable g m F) r) := by
 refine calls_enter Tryz.func15 rfl rfl ?_
 unfold syntax_IsVariable at h
 refine qr (s0 1 [vb false] (nl (tn (qr (s0 1 [] ?_)))))
 obtain ⟨r1, hq2, h⟩ := bs h
 refine cal (c_syntax_isWord hq2 hst) ?_
 rintro _ _ ⟨m3, rfl, hl4, hst⟩
 refine s0 1 [] ?_
 rcases sp h with ⟨hc5, h⟩ | ⟨hc5, h⟩
 ·rw [hc5]
  refine s0 5 [vi ((a0).length : Int), vb (decide (((a0).length : Int) ≤ 64)), vb (decide (((a0).length : Int) ≤ 64))] ?_
  rcases sp h with ⟨hc6, h⟩ | ⟨hc6, h⟩
  ·rw [hc6]
   refine cal (c_reserved hst (Glob.mono hl4 hG)) ?_
   rintro _ _ ⟨mb7, rfl, hst, hmap8⟩
   refine s0 1 [] (vl (run_lookup_ents (k := 9) (e := 4) (xs := resWords) (s := a0) rfl (by kernel_rfl) (by kernel_rfl) (by kernel_rfl) (by kernel_rfl) (by kernel_rfl) hmap8) (s0 3 [vb (!(resWords.contains a0)), vb (!(resWords.contains a0))] (nl (tn (wp_ret (wr [vb (!(resWords.contains a0))] ?_))))))
   cases h
   exact ⟨_, rfl, m3, rfl, hl4, hst⟩
  rw [hc6]
  refine sk 4 (s0 2 [vb false] (nl (tn (wp_ret (wr [vb false] ?_)))))
  have h := Option.some.inj h; subst h
  exact ⟨_, rfl, m3, rfl, hl4, hst⟩
 rw [hc5]
 refine sk 3 (s0 2 [vb false] (sk 4 (s0 2 [vb false] (nl (tn (wp_ret (wr [vb false] ?_)))))))
 have h := Option.some.inj h; subst h
 exact ⟨_, rfl, m3, rfl, hl4, hst⟩
def R_parser_name (g : World) (m : Mem) (F : List Asr) (ob0 : Nat) (r : SParser × Str) (v : Value) (w' : World) : Prop := ∃ m', v = vstr r.2 ∧ m.le m' ∧ St g m' (oo ob0 155 (cSParser r.1) :: F) w'
theorem c_parser_name {a0 : SParser} {r : Except Pan (SParser × Str)} (h : parser_name k a0 = some r) (hst : St g m (oo ob0 155 (cSParser a0) :: F) w) (hG : Glob m) :
    Calls Tryz.prog 156 ⟨[vp ob0 0, vf 15 [] []]⟩ w (XPost (R_parser_name g m F ob0) g m F r) := by
 refine calls_enter Tryz.func156 rfl rfl ?_
 unfold parser_name at h
 refine qr (s0 1 [vstr w_0] (nl (tn (sq (wc_join (fun a w => ∃ f0 k23 m25 x21, a = act Tryz.f156.ntmps (upds f0 [(0, vp ob0 0), (4, vstr w_0), (21, vb x21)]) ∧ k23 ≤ k ∧ parser_name_j1 k23 a0 x21 = some r ∧ m.le m25 ∧ St g m25 (oo ob0 155 (cSParser a0) :: F) w) ?_ ?_)))))
 ·rintro _ _ ⟨f0, k23, m25, x21, rfl, hk24, h, hl22, hst⟩
  unfold parser_name_j1 at h
  refine cn h (fun h => ?_) (fun h => ?_)
  ·refine rg (s0 1 [] ?_)
   rcases xbind_some h with ⟨p30, hq27, rfl⟩ | ⟨r26, hq27, h⟩
   ·exact cpa (c_parser_wrong hq27 hst) (fun _ _ hp => ⟨rfl, _, rfl, hp.p hl22 1 []⟩)
   cases h
  refine wp_skip (tn (qr (sg 6 [vp ob0 0, vp ob0 2, vp ob0 4, vstr a0.t_.s_] _ (hst.q 0 4 1) (nl (tn (qr (s0 1 [] ?_)))))))
  rcases xbind_some h with ⟨p35, hq32, rfl⟩ | ⟨r31, hq32, h⟩
  ·exact cpa (c_parser_advance hq32 hst) (fun _ _ hp => ⟨rfl, _, rfl, hp.p hl22 0 []⟩)
  refine cal (c_parser_advance hq32 hst) ?_
  rintro _ _ ⟨m33, rfl, hl34, hst⟩
  refine nl (tn (qr (s0 2 [] (nl (tn (wp_ret (wr [vstr a0.t_.s_] ?_)))))))
  have e36 := hl22.trans hl34
  cases h
  exact ⟨_, rfl, m33, rfl, e36, hst⟩
 refine rg (sg 7 [vp ob0 0, vp ob0 2, vp ob0 2, vi a0.t_.kind, vb (a0.t_.kind != 1)] _ (hst.q 0 2 1) ?_)
 rcases sp h with ⟨hc37, h⟩ | ⟨hc37, h⟩
 ·rw [hc37]
  refine sk 8 (s0 1 [vb true] (nl (tn ?_)))
  exact ⟨_, k, m, (true), au, (by omega), h, (Mem.le.refl _), hst⟩
 rw [hc37]
 refine sg 6 [vp ob0 0, vp ob0 2, vp ob0 4, vstr a0.t_.s_] _ (hst.q 0 4 1) ?_
 obtain ⟨r38, hq39, h⟩ := bs h
 refine cal (c_syntax_IsVariable hq39 hst hG) ?_
 rintro _ _ ⟨m40, rfl, hl41, hst⟩
 refine s0 2 [vb (!r38), vb (!r38)] (nl (tn ?_))
 exact ⟨_, k, m40, (!r38), au, (by omega), h, hl41, hst⟩
def R_parser_label (g : World) (m : Mem) (F : List Asr) (ob0 : Nat) (r : SParser × Str) (v : Value) (w' : World) : Prop := ∃ m', v = vstr r.2 ∧ m.le m' ∧ St g m' (oo ob0 155 (cSParser r.1) :: F) w'
theorem c_parser_label {a0 : SParser} {r : Except Pan (SParser × Str)} (h : parser_label k a0 = some r) (hst : St g m (oo ob0 155 (cSParser a0) :: F) w) :
    Calls Tryz.prog 177 ⟨[vp ob0 0]⟩ w (XPost (R_parser_label g m F ob0) g m F r) := by
 refine calls_enter Tryz.func177 rfl rfl ?_
 unfold parser_label at h
 refine qr (s0 1 [vstr w_0] (nl (tn (wc_join (fun a w => ∃ f0 k8 m10, a = act Tryz.f177.ntmps (upds f0 [(0, vp ob0 0), (2, vstr w_0)]) ∧ k8 ≤ k ∧ parser_label_j1 k8 a0 = some r ∧ m.le m10 ∧ St g m10 (oo ob0 155 (cSParser a0) :: F) w) ?_ ?_))))
 ·rintro _ _ ⟨f0, k8, m10, rfl, hk9, h, hl7, hst⟩
  unfold parser_label_j1 at h
  refine qr (sg 6 [vp ob0 0, vp ob0 2, vp ob0 4, vstr a0.t_.s_] _ (hst.q 0 4 1) (nl (tn (qr (s0 1 [] ?_)))))
  rcases xbind_some h with ⟨p15, hq12, rfl⟩ | ⟨r11, hq12, h⟩
  ·exact cpa (c_parser_advance hq12 hst) (fun _ _ hp => ⟨rfl, _, rfl, hp.p hl7 0 []⟩)
  refine cal (c_parser_advance hq12 hst) ?_
  rintro _ _ ⟨m13, rfl, hl14, hst⟩
  refine nl (tn (qr (s0 2 [] (nl (tn (wp_ret (wr [vstr a0.t_.s_] ?_)))))))
  have e16 := hl7.trans hl14
  cases h
  exact ⟨_, rfl, m13, rfl, e16, hst⟩
 refine qr (sg 7 [vp ob0 0, vp ob0 2, vp ob0 2, vi a0.t_.kind, vb (a0.t_.kind != 1)] _ (hst.q 0 2 1) ?_)
 rcases sp h with ⟨hc17, h⟩ | ⟨hc17, h⟩
 ·rw [hc17]
  refine sg 7 [vp ob0 0, vp ob0 2, vp ob0 2, vi a0.t_.kind, vb (a0.t_.kind != 3), vb (a0.t_.kind != 3)] _ (hst.q 0 2 1) (nl (tn (cn h (fun h => ?_) (fun h => ?_))))
  ·refine rg (s0 1 [] ?_)
   rcases xbind_some h with ⟨p22, hq19, rfl⟩ | ⟨r18, hq19, h⟩
   ·exact cpa (c_parser_wrong hq19 hst) (fun _ _ hp => ⟨rfl, _, rfl, hp.p (Mem.le.refl _) 1 []⟩)
   cases h
  refine wp_skip (tn ?_)
  exact ⟨_, k, m, au, (by omega), h, (Mem.le.refl _), hst⟩
 rw [hc17]
 refine sk 6 (s0 1 [vb false] (nl (tn (cf (wp_skip (tn ?_))))))
 exact ⟨_, k, m, au, (by omega), h, (Mem.le.refl _), hst⟩
abbrev R_syntax_IsField := RBool
theorem c_syntax_IsField {a0 : Str} {r : Bool} (h : syntax_IsField k a0 = some r) (hst : St g m (F) w) :
    Calls Tryz.prog 17 ⟨[vstr a0]⟩ w (OPost (R_syntax_IsField g m F) r) := by
 refine calls_enter Tryz.func17 rfl rfl ?_
 unfold syntax_IsField at h
 refine qr (s0 1 [vb false] (nl (tn (sq (wc_join (fun a w => ∃ f0 m15 x11, a = act Tryz.f17.ntmps (upds f0 [(0, vstr a0), (2, vb false), (10, vb x11)]) ∧ syntax_IsField_j1 a0 x11 = some r ∧ m.le m15 ∧ St g m15 (F) w) ?_ ?_)))))
 ·rintro _ _ ⟨f0, m15, x11, rfl, h, hl12, hst⟩
  unfold syntax_IsField_j1 at h
  refine cn h (fun h => ?_) (fun h => ?_)
  ·refine qr (s0 1 [vb false] (nl (tn (wp_ret (tr (wr [vb false] ?_))))))
   have h := Option.some.inj h; subst h
   exact ⟨_, rfl, m15, rfl, hl12, hst⟩
  refine wp_skip (tn (sq (qr (s0 1 [] (nl (tn (bk (sq (qr (vl (re a0 w_and) (s0 1 [] (nl (tn (cn h (fun h => ?_) (fun h => ?_)))))))))))))))
  ·refine wp_skip (tn (cn h (fun h => ?_) (fun h => ?_)))
   ·refine qr (s0 1 [vb false] (nl (tn (wp_ret (br (tr (wr [vb false] ?_)))))))
    have h := Option.some.inj h; subst h
    exact ⟨_, rfl, m15, rfl, hl12, hst⟩
   refine wp_skip (bn (tn (qr (s0 1 [vb true] (nl (tn (wp_ret (wr [vb true] ?_))))))))
   have h := Option.some.inj h; subst h
   exact ⟨_, rfl, m15, rfl, hl12, hst⟩
  refine qr (vl (re a0 w_attr) (s0 1 [] (nl (tn (cn h (fun h => ?_) (fun h => ?_))))))
  ·refine wp_skip (tn (cn h (fun h => ?_) (fun h => ?_)))
   ·refine qr (s0 1 [vb false] (nl (tn (wp_ret (br (tr (wr [vb false] ?_)))))))
    have h := Option.some.inj h; subst h
    exact ⟨_, rfl, m15, rfl, hl12, hst⟩
   refine wp_skip (bn (tn (qr (s0 1 [vb true] (nl (tn (wp_ret (wr [vb true] ?_))))))))
   have h := Option.some.inj h; subst h
   exact ⟨_, rfl, m15, rfl, hl12, hst⟩
  refine qr (vl (re a0 w_false) (s0 1 [] (nl (tn (cn h (fun h => ?_) (fun h => ?_))))))
  ·refine wp_skip (tn (cn h (fun h => ?_) (fun h => ?_)))
   ·refine qr (s0 1 [vb false] (nl (tn (wp_ret (br (tr (wr [vb false] ?_)))))))
    have h := Option.some.inj h; subst h
    exact ⟨_, rfl, m15, rfl, hl12, hst⟩
   refine wp_skip (bn (tn (qr (s0 1 [vb true] (nl (tn (wp_ret (wr [vb true] ?_))))))))
   have h := Option.some.inj h; subst h
   exact ⟨_, rfl, m15, rfl, hl12, hst⟩
  refine qr (vl (re a0 w_has) (s0 1 [] (nl (tn (cn h (fun h => ?_) (fun h => ?_))))))
  ·refine wp_skip (tn (cn h (fun h => ?_) (fun h => ?_)))
   ·refine qr (s0 1 [vb false] (nl (tn (wp_ret (br (tr (wr [vb false] ?_)))))))
    have h := Option.some.inj h; subst h
    exact ⟨_, rfl, m15, rfl, hl12, hst⟩
   refine wp_skip (bn (tn (qr (s0 1 [vb true] (nl (tn (wp_ret (wr [vb true] ?_))))))))
   have h := Option.some.inj h; subst h
   exact ⟨_, rfl, m15, rfl, hl12, hst⟩
  refine qr (vl (re a0 w_not) (s0 1 [] (nl (tn (cn h (fun h => ?_) (fun h => ?_))))))
  ·refine wp_skip (tn (cn h (fun h => ?_) (fun h => ?_)))
   ·refine qr (s0 1 [vb false] (nl (tn (wp_ret (br (tr (wr [vb false] ?_)))))))
    have h := Option.some.inj h; subst h
    exact ⟨_, rfl, m15, rfl, hl12, hst⟩
   refine wp_skip (bn (tn (qr (s0 1 [vb true] (nl (tn (wp_ret (wr [vb true] ?_))))))))
   have h := Option.some.inj h; subst h
   exact ⟨_, rfl, m15, rfl, hl12, hst⟩
  refine qr (vl (re a0 w_or) (s0 1 [] (nl (tn (cn h (fun h => ?_) (fun h => ?_))))))
  ·refine wp_skip (tn (cn h (fun h => ?_) (fun h => ?_)))
   ·refine qr (s0 1 [vb false] (nl (tn (wp_ret (br (tr (wr [vb false] ?_)))))))
    have h := Option.some.inj h; subst h
    exact ⟨_, rfl, m15, rfl, hl12, hst⟩
   refine wp_skip (bn (tn (qr (s0 1 [vb true] (nl (tn (wp_ret (wr [vb true] ?_))))))))
   have h := Option.some.inj h; subst h
   exact ⟨_, rfl, m15, rfl, hl12, hst⟩
  refine qr (vl (re a0 w_prefix) (s0 1 [] (nl (tn (cn h (fun h => ?_) (fun h => ?_))))))
  ·refine wp_skip (tn (cn h (fun h => ?_) (fun h => ?_)))
   ·refine qr (s0 1 [vb false] (nl (tn (wp_ret (br (tr (wr [vb false] ?_)))))))
    have h := Option.some.inj h; subst h
    exact ⟨_, rfl, m15, rfl, hl12, hst⟩
   refine wp_skip (bn (tn (qr (s0 1 [vb true] (nl (tn (wp_ret (wr [vb true] ?_))))))))
   have h := Option.some.inj h; subst h
   exact ⟨_, rfl, m15, rfl, hl12, hst⟩
  refine rg (vl (re a0 w_true) (s0 1 [] (nl (tn (cn h (fun h => ?_) (fun h => ?_))))))
  ·refine qr (s0 1 [vb false] (nl (tn (wp_ret (br (tr (wr [vb false] ?_)))))))
   have h := Option.some.inj h; subst h
   exact ⟨_, rfl, m15, rfl, hl12, hst⟩
  refine wp_skip (bn (tn (qr (s0 1 [vb true] (nl (tn (wp_ret (wr [vb true] ?_))))))))
  have h := Option.some.inj h; subst h
  exact ⟨_, rfl, m15, rfl, hl12, hst⟩
 refine rg (s0 1 [] ?_)
 obtain ⟨r16, hq17, h⟩ := bs h
 refine cal (c_syntax_isWord hq17 hst) ?_
 rintro _ _ ⟨m18, rfl, hl19, hst⟩
 refine s0 2 [vb (!r16)] ?_
 rcases sp h with ⟨hc20, h⟩ | ⟨hc20, h⟩
 ·rw [hc20]
  refine sk 3 (s0 1 [vb true] (nl (tn ?_)))
  exact ⟨_, m18, (true), au, h, hl19, hst⟩
 rw [hc20]
 refine s0 4 [vi ((a0).length : Int), vb (decide (((a0).length : Int) > 64)), vb (decide (((a0).length : Int) > 64))] (nl (tn ?_))
 exact ⟨_, m18, (decide (((a0).length : Int) > 64)), au, h, hl19, hst⟩
def R_parser_name_i1 (g : World) (m : Mem) (F : List Asr) (ob0 : Nat) (r : SParser × Str) (v : Value) (w' : World) : Prop := ∃ m', v = vstr r.2 ∧ m.le m' ∧ St g m' (oo ob0 155 (cSParser r.1) :: F) w'
theorem c_parser_name_i1 {a0 : SParser} {r : Except Pan (SParser × Str)} (h : parser_name_i1 k a0 = some r) (hst : St g m (oo ob0 155 (cSParser a0) :: F) w) :
    Calls Tryz.prog 156 ⟨[vp ob0 0, vf 17 [] []]⟩ w (XPost (R_parser_name_i1 g m F ob0) g m F r) := by
 refine calls_enter Tryz.func156 rfl rfl ?_
 unfold parser_name_i1 at h
 refine qr (s0 1 [vstr w_0] (nl (tn (sq (wc_join (fun a w => ∃ f0 k23 m25 x21, a = act Tryz.f156.ntmps (upds f0 [(0, vp ob0 0), (4, vstr w_0), (21, vb x21)]) ∧ k23 ≤ k ∧ parser_name_i1_j1 k23 a0 x21 = some r ∧ m.le m25 ∧ St g m25 (oo ob0 155 (cSParser a0) :: F) w) ?_ ?_)))))
 ·rintro _ _ ⟨f0, k23, m25, x21, rfl, hk24, h, hl22, hst⟩
  unfold parser_name_i1_j1 at h
  refine cn h (fun h => ?_) (fun h => ?_)
  ·refine rg (s0 1 [] ?_)
   rcases xbind_some h with ⟨p30, hq27, rfl⟩ | ⟨r26, hq27, h⟩
   ·exact cpa (c_parser_wrong hq27 hst) (fun _ _ hp => ⟨rfl, _, rfl, hp.p hl22 1 []⟩)
   cases h
  refine wp_skip (tn (qr (sg 6 [vp ob0 0, vp ob0 2, vp ob0 4, vstr a0.t_.s_] _ (hst.q 0 4 1) (nl (tn (qr (s0 1 [] ?_)))))))
  rcases xbind_some h with ⟨p35, hq32, rfl⟩ | ⟨r31, hq32, h⟩
  ·exact cpa (c_parser_advance hq32 hst) (fun _ _ hp => ⟨rfl, _, rfl, hp.p hl22 0 []⟩)
  refine cal (c_parser_advance hq32 hst) ?_
  rintro _ _ ⟨m33, rfl, hl34, hst⟩
  refine nl (tn (qr (s0 2 [] (nl (tn (wp_ret (wr [vstr a0.t_.s_] ?_)))))))
  have e36 := hl22.trans hl34
  cases h
  exact ⟨_, rfl, m33, rfl, e36, hst⟩
 refine rg (sg 7 [vp ob0 0, vp ob0 2, vp ob0 2, vi a0.t_.kind, vb (a0.t_.kind != 1)] _ (hst.q 0 2 1) ?_)
 rcases sp h with ⟨hc37, h⟩ | ⟨hc37, h⟩
 ·rw [hc37]
  refine sk 8 (s0 1 [vb true] (nl (tn ?_)))
  exact ⟨_, k, m, (true), au, (by omega), h, (Mem.le.refl _), hst⟩
 rw [hc37]
 refine sg 6 [vp ob0 0, vp ob0 2, vp ob0 4, vstr a0.t_.s_] _ (hst.q 0 4 1) ?_
 obtain ⟨r38, hq39, h⟩ := bs h
 refine cal (c_syntax_IsField hq39 hst) ?_
 rintro _ _ ⟨m40, rfl, hl41, hst⟩
 refine s0 2 [vb (!r38), vb (!r38)] (nl (tn ?_))
 exact ⟨_, k, m40, (!r38), au, (by omega), h, hl41, hst⟩
def R_parser_path (g : World) (m : Mem) (F : List Asr) (ob0 : Nat) (r : SParser × Str × Str) (v : Value) (w' : World) : Prop := ∃ m', v = vt [vstr r.2.1, vstr r.2.2] ∧ m.le m' ∧ St g m' (oo ob0 155 (cSParser r.1) :: F) w'
theorem c_parser_path {a0 : SParser} {r : Except Pan (SParser × Str × Str)} (h : parser_path k a0 = some r) (hst : St g m (oo ob0 155 (cSParser a0) :: F) w) :
    Calls Tryz.prog 159 ⟨[vp ob0 0]⟩ w (XPost (R_parser_path g m F ob0) g m F r) := by
 refine calls_enter Tryz.func159 rfl rfl ?_
 unfold parser_path at h
 refine qr (s0 2 [vstr w_0, vstr w_0] (nl (tn (sq (qr (s0 1 [] ?_))))))
 rcases xbind_some h with ⟨p5, hq2, rfl⟩ | ⟨r1, hq2, h⟩
 ·exact cpa (c_parser_takes hq2 hst) (fun _ _ hp => ⟨rfl, _, rfl, hp.p (Mem.le.refl _) 0 []⟩)
 refine cal (c_parser_takes hq2 hst) ?_
 rintro _ _ ⟨m3, rfl, hl4, hst⟩
 refine nl (tn (cn h (fun h => ?_) (fun h => ?_)))
 ·refine qr (s0 1 [] ?_)
  rcases xbind_some h with ⟨p10, hq7, rfl⟩ | ⟨r6, hq7, h⟩
  ·exact cpa (c_parser_need hq7 hst) (fun _ _ hp => ⟨rfl, _, rfl, hp.p hl4 0 []⟩)
  refine cal (c_parser_need hq7 hst) ?_
  rintro _ _ ⟨m8, rfl, hl9, hst⟩
  refine nl (tn (qr (s0 1 [] ?_)))
  rcases xbind_some h with ⟨p15, hq12, rfl⟩ | ⟨r11, hq12, h⟩
  ·have e16 := hl4.trans hl9
   exact cpa (c_parser_label hq12 hst) (fun _ _ hp => ⟨rfl, _, rfl, hp.p e16 0 []⟩)
  refine cal (c_parser_label hq12 hst) ?_
  rintro _ _ ⟨m13, rfl, hl14, hst⟩
  refine s0 2 [vstr w_attr] (nl (tn (wp_ret (tr (wr [vstr w_attr, vstr r11.2] ?_)))))
  have e17 := hl4.trans (hl9.trans hl14)
  cases h
  exact ⟨_, rfl, m13, rfl, e17, hst⟩
 refine wp_skip (tn (qr (s0 1 [] ?_)))
 rcases xbind_some h with ⟨p22, hq19, rfl⟩ | ⟨r18, hq19, h⟩
 ·exact cpa (c_parser_name_i1 hq19 hst) (fun _ _ hp => ⟨rfl, _, rfl, hp.p hl4 0 []⟩)
 refine cal (c_parser_name_i1 hq19 hst) ?_
 rintro _ _ ⟨m20, rfl, hl21, hst⟩
 refine s0 2 [vstr w_0] (nl (tn (wp_ret (wr [vstr r18.2, vstr w_0] ?_))))
 have e23 := hl4.trans hl21
 cases h
 exact ⟨_, rfl, m20, rfl, e23, hst⟩
def R_parser_int (g : World) (m : Mem) (F : List Asr) (ob0 : Nat) (r : SParser × Int) (v : Value) (w' : World) : Prop := ∃ m', v = vi r.2 ∧ m.le m' ∧ St g m' (oo ob0 155 (cSParser r.1) :: F) w'
theorem c_parser_int {a0 : SParser} {r : Except Pan (SParser × Int)} (h : parser_int k a0 = some r) (hst : St g m (oo ob0 155 (cSParser a0) :: F) w) :
    Calls Tryz.prog 111 ⟨[vp ob0 0]⟩ w (XPost (R_parser_int g m F ob0) g m F r) := by
 refine calls_enter Tryz.func111 rfl rfl ?_
 unfold parser_int at h
 refine qr (s0 1 [vi 0] (nl (tn (sq (qr (sg 6 [vp ob0 0, vp ob0 2, vp ob0 2, vi a0.t_.kind, vb (a0.t_.kind != 2)] _ (hst.q 0 2 1) (nl (tn (cn h (fun h => ?_) (fun h => ?_))))))))))
 ·refine rg (s0 1 [] ?_)
  rcases xbind_some h with ⟨p10, hq7, rfl⟩ | ⟨r6, hq7, h⟩
  ·exact cpa (c_parser_wrong hq7 hst) (fun _ _ hp => ⟨rfl, _, rfl, hp.p (Mem.le.refl _) 1 []⟩)
  cases h
 refine wp_skip (tn (qr (sg 6 [vp ob0 0, vp ob0 2, vp ob0 5, vi a0.t_.n_] _ (hst.q 0 5 1) (nl (tn (qr (s0 1 [] ?_)))))))
 rcases xbind_some h with ⟨p15, hq12, rfl⟩ | ⟨r11, hq12, h⟩
 ·exact cpa (c_parser_advance hq12 hst) (fun _ _ hp => ⟨rfl, _, rfl, hp.p (Mem.le.refl _) 0 []⟩)
 refine cal (c_parser_advance hq12 hst) ?_
 rintro _ _ ⟨m13, rfl, hl14, hst⟩
 refine nl (tn (qr (s0 2 [] (nl (tn (wp_ret (wr [vi a0.t_.n_] ?_)))))))
 cases h
 exact ⟨_, rfl, m13, rfl, hl14, hst⟩
def R_parser_value (g : World) (m : Mem) (F : List Asr) (ob0 : Nat) (r : SParser × GValue) (v : Value) (w' : World) : Prop := ∃ m', v = va (cGValue r.2) ∧ m.le m' ∧ St g m' (oo ob0 155 (cSParser r.1) :: F) w'
theorem c_parser_value {a0 : SParser} {r : Except Pan (SParser × GValue)} (h : parser_value k a0 = some r) (hst : St g m (oo ob0 155 (cSParser a0) :: F) w) :
    Calls Tryz.prog 186 ⟨[vp ob0 0]⟩ w (XPost (R_parser_value g m F ob0) g m F r) := by
 refine calls_enter Tryz.func186 rfl rfl ?_
 unfold parser_value at h
 refine qr (al [vi 0, vstr w_0, vi 0] hst (fun b1 _ hst => ?_))
 refine nl (tn (sq (bk (qr (sg 7 [vp ob0 0, vp ob0 2, vp ob0 2, vi a0.t_.kind, vb (a0.t_.kind == 3)] _ (hst.q 1 2 1) (nl (tn (cn h (fun h => ?_) (fun h => ?_)))))))))
 ·refine qr (s0 1 [] ?_)
  have hst := pk1 hst
  rcases xbind_some h with ⟨p6, hq3, rfl⟩ | ⟨r2, hq3, h⟩
  ·exact cpa (c_parser_label hq3 hst) (fun _ _ hp => ⟨rfl, _, rfl, hp.p (Mem.le.refl _) 1 []⟩)
  refine cal (c_parser_label hq3 hst) ?_
  rintro _ _ ⟨m4, rfl, hl5, hst⟩
  refine s0 1 [va [vi 1, vstr r2.2, vi 0]] (so1 0 [vi 1, vstr r2.2, vi 0] hst (fun _ hst => ?_))
  refine nl (tn (wp_ret (br (tr (wrr [va [vi 1, vstr r2.2, vi 0]] _ (hst.q 1 0 3) ?_)))))
  have hst := pk3 hst
  cases h
  exact ⟨_, rfl, m4, rfl, hl5, hst⟩
 refine qr (s0 1 [] ?_)
 have hst := pk1 hst
 rcases xbind_some h with ⟨p11, hq8, rfl⟩ | ⟨r7, hq8, h⟩
 ·exact cpa (c_parser_takes hq8 hst) (fun _ _ hp => ⟨rfl, _, rfl, hp.p (Mem.le.refl _) 1 []⟩)
 refine cal (c_parser_takes hq8 hst) ?_
 rintro _ _ ⟨m9, rfl, hl10, hst⟩
 refine s0 1 [] (nl (tn (cn h (fun h => ?_) (fun h => ?_))))
 ·refine qr (s0 1 [va [vi 3, vstr w_0, vi 1]] (so1 0 [vi 3, vstr w_0, vi 1] hst (fun _ hst => ?_)))
  refine nl (tn (wp_ret (br (tr (wrr [va [vi 3, vstr w_0, vi 1]] _ (hst.q 1 0 3) ?_)))))
  have hst := pk3 hst
  cases h
  exact ⟨_, rfl, m9, rfl, hl10, hst⟩
 refine qr (s0 1 [] ?_)
 rcases xbind_some h with ⟨p16, hq13, rfl⟩ | ⟨r12, hq13, h⟩
 ·exact cpa (c_parser_takes hq13 hst) (fun _ _ hp => ⟨rfl, _, rfl, hp.p hl10 1 []⟩)
 refine cal (c_parser_takes hq13 hst) ?_
 rintro _ _ ⟨m14, rfl, hl15, hst⟩
 refine s0 1 [] (nl (tn (cn h (fun h => ?_) (fun h => ?_))))
 ·refine qr (s0 1 [va [vi 3, vstr w_0, vi 0]] (so1 0 [vi 3, vstr w_0, vi 0] hst (fun _ hst => ?_)))
  refine nl (tn (wp_ret (br (tr (wrr [va [vi 3, vstr w_0, vi 0]] _ (hst.q 1 0 3) ?_)))))
  have hst := pk3 hst
  have e17 := hl10.trans hl15
  cases h
  exact ⟨_, rfl, m14, rfl, e17, hst⟩
 refine qr (s0 1 [] ?_)
 rcases xbind_some h with ⟨p22, hq19, rfl⟩ | ⟨r18, hq19, h⟩
 ·have e23 := hl10.trans hl15
  exact cpa (c_parser_takes hq19 hst) (fun _ _ hp => ⟨rfl, _, rfl, hp.p e23 1 []⟩)
 refine cal (c_parser_takes hq19 hst) ?_
 rintro _ _ ⟨m20, rfl, hl21, hst⟩
 refine s0 1 [] (nl (tn (cn h (fun h => ?_) (fun h => ?_))))
 ·refine qr (s0 1 [] ?_)
  rcases xbind_some h with ⟨p28, hq25, rfl⟩ | ⟨r24, hq25, h⟩
  ·have e29 := hl10.trans (hl15.trans hl21)
   exact cpa (c_parser_int hq25 hst) (fun _ _ hp => ⟨rfl, _, rfl, hp.p e29 1 []⟩)
  refine cal (c_parser_int hq25 hst) ?_
  rintro _ _ ⟨m26, rfl, hl27, hst⟩
  refine s0 2 [vi (w64 (0 - r24.2)), va [vi 2, vstr w_0, vi (w64 (0 - r24.2))]] (so1 0 [vi 2, vstr w_0, vi (w64 (0 - r24.2))] hst (fun _ hst => ?_))
  refine nl (tn (wp_ret (br (tr (wrr [va [vi 2, vstr w_0, vi (w64 (0 - r24.2))]] _ (hst.q 1 0 3) ?_)))))
  have hst := pk3 hst
  have e30 := hl10.trans (hl15.trans (hl21.trans hl27))
  cases h
  exact ⟨_, rfl, m26, rfl, e30, hst⟩
 refine wp_skip (bn (tn (qr (s0 1 [] ?_))))
 rcases xbind_some h with ⟨p35, hq32, rfl⟩ | ⟨r31, hq32, h⟩
 ·have e36 := hl10.trans (hl15.trans hl21)
  exact cpa (c_parser_int hq32 hst) (fun _ _ hp => ⟨rfl, _, rfl, hp.p e36 1 []⟩)
 refine cal (c_parser_int hq32 hst) ?_
 rintro _ _ ⟨m33, rfl, hl34, hst⟩
 refine s0 1 [va [vi 2, vstr w_0, vi r31.2]] (so1 0 [vi 2, vstr w_0, vi r31.2] hst (fun _ hst => ?_))
 refine nl (tn (wp_ret (wrr [va [vi 2, vstr w_0, vi r31.2]] _ (hst.q 1 0 3) ?_)))
 have hst := pk3 hst
 have e37 := hl10.trans (hl15.trans (hl21.trans hl34))
 cases h
 exact ⟨_, rfl, m33, rfl, e37, hst⟩
def R_parser_test (g : World) (m : Mem) (F : List Asr) (ob0 : Nat) (r : SParser × GPred) (v : Value) (w' : World) : Prop := ∃ m' Av0 cv0, v = va (cGPred r.2 (vs Av0 r.2.Args cv0)) ∧ m.le m' ∧ St g m' (oo ob0 155 (cSParser r.1) :: F) w' ∧ RS (TGPred) m' (vs Av0 r.2.Args cv0) r.2.Args
theorem c_parser_test {a0 : SParser} {r : Except Pan (SParser × GPred)} (h : parser_test k a0 = some r) (hst : St g m (oo ob0 155 (cSParser a0) :: F) w) :
    Calls Tryz.prog 178 ⟨[vp ob0 0]⟩ w (XPost (R_parser_test g m F ob0) g m F r) := by
 refine calls_enter Tryz.func178 rfl rfl ?_
 unfold parser_test at h
 refine qr (al [vi 0, vstr w_0, vstr w_0, vi 0, vstr w_0, vi 0, vn] hst (fun b1 _ hst => ?_))
 have hrc3 := RC.nil (TGPred) m
 have hst := hst.nil_row 44 7
 refine nl (tn (qr (al [vi 0, vstr w_0, vstr w_0, vi 0, vstr w_0, vi 0, vn] hst (fun b4 _ hst => ?_))))
 have hrc6 := RC.nil (TGPred) m
 have hst := hst.nil_row 44 7
 refine nl (tn (qr (s0 1 [] ?_)))
 have hst := pk8 hst
 rcases xbind_some h with ⟨p11, hq8, rfl⟩ | ⟨r7, hq8, h⟩
 ·exact cpa (c_parser_path hq8 hst) (fun _ _ hp => ⟨rfl, _, rfl, hp.p (Mem.le.refl _) 4 []⟩)
 refine cal (c_parser_path hq8 hst) ?_
 rintro _ _ ⟨m9, rfl, hl10, hst⟩
 refine s0 4 [vstr r7.2.1, vstr r7.2.2, vp b4 1] (so2 1 [vstr r7.2.1] hst (fun _ hst => ?_))
 refine s0 1 [vp b4 2] (so2 2 [vstr r7.2.2] hst (fun _ hst => ?_))
 refine nl (tn (qr (sg 6 [vp ob0 0, vp ob0 2, vp ob0 4, vstr r7.1.t_.s_] _ (hst.q 0 4 1) (nl (tn (wc_join (fun a w => ∃ f0 k106 m108 x98 x99 x100 x101 x102 x103 x104, a = act Tryz.f178.ntmps (upds f0 [(0, vp ob0 0), (2, vp b1 0), (3, vp b4 0), (4, vstr r7.1.t_.s_)]) ∧ k106 ≤ k ∧ parser_test_j3 k106 r7 x98 x99 x100 x101 x102 x103 x104 = some r ∧ m9.le m108 ∧ St g m108 (oo ob0 155 [vstr x98, vi x99, vi x100, vi x101, vstr x102, vi x103] :: rn 44 7 :: oo b4 44 [vi x104, vstr r7.2.1, vstr r7.2.2, vi 0, vstr w_0, vi 0, vn] :: rn 44 7 :: oo b1 44 [vi 0, vstr w_0, vstr w_0, vi 0, vstr w_0, vi 0, vn] :: F) w) ?_ ?_))))))
 ·rintro _ _ ⟨f0, k106, m108, x98, x99, x100, x101, x102, x103, x104, rfl, hk107, h, hl105, hst⟩
  unfold parser_test_j3 at h
  refine qr (s0 1 [] ?_)
  rcases xbind_some h with ⟨p113, hq110, rfl⟩ | ⟨r109, hq110, h⟩
  ·have e114 := hl10.trans hl105
   exact cpa (c_parser_value hq110 hst) (fun _ _ hp => ⟨rfl, _, rfl, hp.p e114 4 []⟩)
  refine cal (c_parser_value hq110 hst) ?_
  rintro _ _ ⟨m111, rfl, hl112, hst⟩
  refine s0 1 [vp b4 3] (so2 3 (cGValue r109.2) hst (fun _ hst => ?_))
  refine nl (tn (sq (qr (s0 1 [] (vl (re r7.1.t_.s_ wx213d) (s0 1 [] ?_))))))
  rcases sp h with ⟨hc115, h⟩ | ⟨hc115, h⟩
  ·rw [hc115]
   refine sk 2 (s0 1 [vb true] (nl (tn (ct (qr (sg 1 [va [vi x104, vstr r7.2.1, vstr r7.2.2, vi r109.2.Kind, vstr r109.2.Text, vi r109.2.Int, vn]] _ (hst.q 2 0 7) ?_))))))
   have hst := pk1 hst
   have e120 := hl10.trans (hl105.trans hl112)
   obtain ⟨m117, hl118, hst, hs119⟩ := hst.seal_row (T := TGPred) (xs := ([] : List GPred)) rfl (RC.mono e120 hrc6)
   refine li 44 1 [vi x104, vstr r7.2.1, vstr r7.2.2, vi r109.2.Kind, vstr r109.2.Text, vi r109.2.Int, vn] hst (fun b116 _ hst => ?_)
   have hrc122 : RC (TGPred) m117 [(GPred.mk x104 r7.2.1 r7.2.2 r109.2 ([] : List GPred))] [vi x104, vstr r7.2.1, vstr r7.2.2, vi r109.2.Kind, vstr r109.2.Text, vi r109.2.Int, vn] := (RC.k7 (TGPred.close_ (GPred.mk x104 r7.2.1 r7.2.2 r109.2 ([] : List GPred)) hs119) (RC.nil _ _))
   have hst := hst.obj_row (size := 7) (k := 1) rfl (Nat.le_of_ble_eq_true rfl)
   refine s0 1 [va [vi 3, vstr w_0, vstr w_0, vi 0, vstr w_0, vi 0, .slice (some ⟨b116, 0, none⟩) 1 1]] (so4 0 [vi 3, vstr w_0, vstr w_0, vi 0, vstr w_0, vi 0, .slice (some ⟨b116, 0, none⟩) 1 1] hst (fun _ hst => ?_))
   refine nl (tn (wp_ret (tr ?_)))
   obtain ⟨m123, hl124, hst, hs125⟩ := hst.seal_row (T := TGPred) (xs := [(GPred.mk x104 r7.2.1 r7.2.2 r109.2 ([] : List GPred))]) rfl hrc122
   refine wrr [va [vi 3, vstr w_0, vstr w_0, vi 0, vstr w_0, vi 0, .slice (some ⟨b116, 0, none⟩) 1 1]] _ (hst.q 3 0 7) ?_
   have hst := pk9 hst
   have e126 := e120.trans (hl118.trans hl124)
   cases h
   exact ⟨_, rfl, m123, (some ⟨b116, 0, none⟩), 1, rfl, e126, hst, hs125⟩
  rw [hc115]
  refine s0 1 [] (vl (re r7.1.t_.s_ wx3e3d) (s0 1 [vb (r7.1.t_.s_ == wx3e3d)] (nl (tn (cn h (fun h => ?_) (fun h => ?_))))))
  ·refine qr (sg 1 [va [vi x104, vstr r7.2.1, vstr r7.2.2, vi r109.2.Kind, vstr r109.2.Text, vi r109.2.Int, vn]] _ (hst.q 2 0 7) ?_)
   have hst := pk1 hst
   have e131 := hl10.trans (hl105.trans hl112)
   obtain ⟨m128, hl129, hst, hs130⟩ := hst.seal_row (T := TGPred) (xs := ([] : List GPred)) rfl (RC.mono e131 hrc6)
   refine li 44 1 [vi x104, vstr r7.2.1, vstr r7.2.2, vi r109.2.Kind, vstr r109.2.Text, vi r109.2.Int, vn] hst (fun b127 _ hst => ?_)
   have hrc133 : RC (TGPred) m128 [(GPred.mk x104 r7.2.1 r7.2.2 r109.2 ([] : List GPred))] [vi x104, vstr r7.2.1, vstr r7.2.2, vi r109.2.Kind, vstr r109.2.Text, vi r109.2.Int, vn] := (RC.k7 (TGPred.close_ (GPred.mk x104 r7.2.1 r7.2.2 r109.2 ([] : List GPred)) hs130) (RC.nil _ _))
   have hst := hst.obj_row (size := 7) (k := 1) rfl (Nat.le_of_ble_eq_true rfl)
   refine s0 1 [va [vi 3, vstr w_0, vstr w_0, vi 0, vstr w_0, vi 0, .slice (some ⟨b127, 0, none⟩) 1 1]] (so4 0 [vi 3, vstr w_0, vstr w_0, vi 0, vstr w_0, vi 0, .slice (some ⟨b127, 0, none⟩) 1 1] hst (fun _ hst => ?_))
   refine nl (tn (wp_ret (tr ?_)))
   obtain ⟨m134, hl135, hst, hs136⟩ := hst.seal_row (T := TGPred) (xs := [(GPred.mk x104 r7.2.1 r7.2.2 r109.2 ([] : List GPred))]) rfl hrc133
   refine wrr [va [vi 3, vstr w_0, vstr w_0, vi 0, vstr w_0, vi 0, .slice (some ⟨b127, 0, none⟩) 1 1]] _ (hst.q 3 0 7) ?_
   have hst := pk9 hst
   have e137 := e131.trans (hl129.trans hl135)
   cases h
   exact ⟨_, rfl, m134, (some ⟨b127, 0, none⟩), 1, rfl, e137, hst, hs136⟩
  refine wp_skip (tn (qr (sg 1 [va [vi x104, vstr r7.2.1, vstr r7.2.2, vi r109.2.Kind, vstr r109.2.Text, vi r109.2.Int, vn]] _ (hst.q 2 0 7) (so4 0 [vi x104, vstr r7.2.1, vstr r7.2.2, vi r109.2.Kind, vstr r109.2.Text, vi r109.2.Int, vn] hst (fun _ hst => ?_)))))
  refine nl (tn (wp_ret ?_))
  have hst := pk1 hst
  have e141 := hl10.trans (hl105.trans hl112)
  obtain ⟨m138, hl139, hst, hs140⟩ := hst.seal_row (T := TGPred) (xs := ([] : List GPred)) rfl (RC.mono e141 hrc6)
  refine wrr [va [vi x104, vstr r7.2.1, vstr r7.2.2, vi r109.2.Kind, vstr r109.2.Text, vi r109.2.Int, vn]] _ (hst.q 3 0 7) ?_
  have hst := pk9 hst
  have e142 := e141.trans hl139
  cases h
  exact ⟨_, rfl, m138, none, 0, rfl, e142, hst, hs140⟩
 refine bk (wc_join (fun a w => ∃ f0 k162 m164 x154 x155 x156 x157 x158 x159 x160, a = act Tryz.f178.ntmps (upds f0 [(0, vp ob0 0), (2, vp b1 0), (3, vp b4 0), (4, vstr r7.1.t_.s_), (19, vb x160)]) ∧ k162 ≤ k ∧ parser_test_j4 k162 r7 x154 x155 x156 x157 x158 x159 x160 = some r ∧ m9.le m164 ∧ St g m164 (oo ob0 155 [vstr x154, vi x155, vi x156, vi x157, vstr x158, vi x159] :: rn 44 7 :: oo b4 44 [vi 0, vstr r7.2.1, vstr r7.2.2, vi 0, vstr w_0, vi 0, vn] :: rn 44 7 :: oo b1 44 [vi 0, vstr w_0, vstr w_0, vi 0, vstr w_0, vi 0, vn] :: F) w) ?_ ?_)
 ·rintro _ _ ⟨f0, k162, m164, x154, x155, x156, x157, x158, x159, x160, rfl, hk163, h, hl161, hst⟩
  unfold parser_test_j4 at h
  refine cn h (fun h => ?_) (fun h => ?_)
  ·refine rg (s0 1 [vp b4 0] (so2 0 [vi 5] hst (fun _ hst => ?_)))
   refine nl (bn (tn ?_))
   exact ⟨_, k162, m164, (x154), (x155), (x156), (x157), (x158), (x159), (5), au, (by omega), h, hl161, hst⟩
  refine wc_join (fun a w => ∃ f0 k185 m187 x177 x178 x179 x180 x181 x182 x183, a = act Tryz.f178.ntmps (upds f0 [(0, vp ob0 0), (2, vp b1 0), (3, vp b4 0), (4, vstr r7.1.t_.s_), (25, vb x183)]) ∧ k185 ≤ k162 ∧ parser_test_j5 k185 r7 x177 x178 x179 x180 x181 x182 x183 = some r ∧ m164.le m187 ∧ St g m187 (oo ob0 155 [vstr x177, vi x178, vi x179, vi x180, vstr x181, vi x182] :: rn 44 7 :: oo b4 44 [vi 0, vstr r7.2.1, vstr r7.2.2, vi 0, vstr w_0, vi 0, vn] :: rn 44 7 :: oo b1 44 [vi 0, vstr w_0, vstr w_0, vi 0, vstr w_0, vi 0, vn] :: F) w) ?_ ?_
  ·rintro _ _ ⟨f0, k185, m187, x177, x178, x179, x180, x181, x182, x183, rfl, hk186, h, hl184, hst⟩
   unfold parser_test_j5 at h
   refine cn h (fun h => ?_) (fun h => ?_)
   ·refine rg (s0 1 [vp b4 0] (so2 0 [vi 6] hst (fun _ hst => ?_)))
    refine nl (bn (tn ?_))
    have e188 := hl161.trans hl184
    exact ⟨_, k185, m187, (x177), (x178), (x179), (x180), (x181), (x182), (6), au, (by omega), h, e188, hst⟩
   refine qr (s0 1 [] ?_)
   rcases xbind_some h with ⟨p193, hq190, rfl⟩ | ⟨r189, hq190, h⟩
   ·have e194 := hl10.trans (hl161.trans hl184)
    exact cpa (c_parser_takes hq190 hst) (fun _ _ hp => ⟨rfl, _, rfl, hp.p e194 4 []⟩)
   refine cal (c_parser_takes hq190 hst) ?_
   rintro _ _ ⟨m191, rfl, hl192, hst⟩
   refine s0 1 [] (nl (tn (cn h (fun h => ?_) (fun h => ?_))))
   ·refine qr (s0 1 [vp b4 0] (so2 0 [vi 7] hst (fun _ hst => ?_)))
    refine nl (tn (qr (sg 6 [vp ob0 0, vp ob0 2, vp ob0 2, vi r189.1.t_.kind, vb (r189.1.t_.kind != 3)] _ (hst.q 0 2 1) (nl (tn (cn h (fun h => ?_) (fun h => ?_)))))))
    ·refine rg (s0 1 [] ?_)
     rcases xbind_some h with ⟨p199, hq196, rfl⟩ | ⟨r195, hq196, h⟩
     ·have e200 := hl10.trans (hl161.trans (hl184.trans hl192))
      exact cpa (c_parser_wrong hq196 hst) (fun _ _ hp => ⟨rfl, _, rfl, hp.p e200 5 []⟩)
     cases h
    refine wp_skip (bn (tn ?_))
    have e201 := hl161.trans (hl184.trans hl192)
    exact ⟨_, k185, m191, (r189.1.x_.s_), (r189.1.x_.at_), (r189.1.t_.kind), (r189.1.t_.at_), (r189.1.t_.s_), (r189.1.t_.n_), (7), au, (by omega), h, e201, hst⟩
   refine rg (s0 1 [] ?_)
   rcases xbind_some h with ⟨p206, hq203, rfl⟩ | ⟨r202, hq203, h⟩
   ·have e207 := hl10.trans (hl161.trans (hl184.trans hl192))
    exact cpa (c_parser_wrong hq203 hst) (fun _ _ hp => ⟨rfl, _, rfl, hp.p e207 5 []⟩)
   cases h
  refine qr (s0 1 [] ?_)
  rcases xbind_some h with ⟨p212, hq209, rfl⟩ | ⟨r208, hq209, h⟩
  ·have e213 := hl10.trans hl161
   exact cpa (c_parser_takes hq209 hst) (fun _ _ hp => ⟨rfl, _, rfl, hp.p e213 4 []⟩)
  refine cal (c_parser_takes hq209 hst) ?_
  rintro _ _ ⟨m210, rfl, hl211, hst⟩
  refine s0 1 [] (nl (tn (cn h (fun h => ?_) (fun h => ?_))))
  ·refine wp_skip (tn ?_)
   exact ⟨_, k162, m210, (r208.1.x_.s_), (r208.1.x_.at_), (r208.1.t_.kind), (r208.1.t_.at_), (r208.1.t_.s_), (r208.1.t_.n_), (r208.2), au, (by omega), h, hl211, hst⟩
  refine rg (s0 1 [] ?_)
  rcases xbind_some h with ⟨p218, hq215, rfl⟩ | ⟨r214, hq215, h⟩
  ·have e219 := hl10.trans (hl161.trans hl211)
   exact cpa (c_parser_takes hq215 hst) (fun _ _ hp => ⟨rfl, _, rfl, hp.p e219 4 []⟩)
  refine cal (c_parser_takes hq215 hst) ?_
  rintro _ _ ⟨m216, rfl, hl217, hst⟩
  refine s0 1 [] (nl (tn ?_))
  have e220 := hl211.trans hl217
  exact ⟨_, k162, m216, (r214.1.x_.s_), (r214.1.x_.at_), (r214.1.t_.kind), (r214.1.t_.at_), (r214.1.t_.s_), (r214.1.t_.n_), (r214.2), au, (by omega), h, e220, hst⟩
 refine qr (s0 1 [] ?_)
 rcases xbind_some h with ⟨p225, hq222, rfl⟩ | ⟨r221, hq222, h⟩
 ·exact cpa (c_parser_takes hq222 hst) (fun _ _ hp => ⟨rfl, _, rfl, hp.p hl10 4 []⟩)
 refine cal (c_parser_takes hq222 hst) ?_
 rintro _ _ ⟨m223, rfl, hl224, hst⟩
 refine s0 1 [] (nl (tn (cn h (fun h => ?_) (fun h => ?_))))
 ·refine wp_skip (tn ?_)
  exact ⟨_, k, m223, (r221.1.x_.s_), (r221.1.x_.at_), (r221.1.t_.kind), (r221.1.t_.at_), (r221.1.t_.s_), (r221.1.t_.n_), (r221.2), au, (by omega), h, hl224, hst⟩
 refine rg (s0 1 [] ?_)
 rcases xbind_some h with ⟨p230, hq227, rfl⟩ | ⟨r226, hq227, h⟩
 ·have e231 := hl10.trans hl224
  exact cpa (c_parser_takes hq227 hst) (fun _ _ hp => ⟨rfl, _, rfl, hp.p e231 4 []⟩)
 refine cal (c_parser_takes hq227 hst) ?_
 rintro _ _ ⟨m228, rfl, hl229, hst⟩
 refine s0 1 [] (nl (tn ?_))
 have e232 := hl224.trans hl229
 exact ⟨_, k, m228, (r226.1.x_.s_), (r226.1.x_.at_), (r226.1.t_.kind), (r226.1.t_.at_), (r226.1.t_.s_), (r226.1.t_.n_), (r226.2), au, (by omega), h, e232, hst⟩
def R_parser_predicate (g : World) (m : Mem) (F : List Asr) (ob0 : Nat) (r : SParser × GPred) (v : Value) (w' : World) : Prop := ∃ m' Av0 cv0, v = va (cGPred r.2 (vs Av0 r.2.Args cv0)) ∧ m.le m' ∧ St g m' (oo ob0 155 (cSParser r.1) :: F) w' ∧ RS (TGPred) m' (vs Av0 r.2.Args cv0) r.2.Args
def R_parser_joined (g : World) (m : Mem) (F : List Asr) (ob0 : Nat) (r : SParser × GPred) (v : Value) (w' : World) : Prop := ∃ m' Av0 cv0, v = va (cGPred r.2 (vs Av0 r.2.Args cv0)) ∧ m.le m' ∧ St g m' (oo ob0 155 (cSParser r.1) :: F) w' ∧ RS (TGPred) m' (vs Av0 r.2.Args cv0) r.2.Args
def R_parser_conjunct (g : World) (m : Mem) (F : List Asr) (ob0 : Nat) (r : SParser × GPred) (v : Value) (w' : World) : Prop := ∃ m' Av0 cv0, v = va (cGPred r.2 (vs Av0 r.2.Args cv0)) ∧ m.le m' ∧ St g m' (oo ob0 155 (cSParser r.1) :: F) w' ∧ RS (TGPred) m' (vs Av0 r.2.Args cv0) r.2.Args
def R_parser_joined_i1 (g : World) (m : Mem) (F : List Asr) (ob0 : Nat) (r : SParser × GPred) (v : Value) (w' : World) : Prop := ∃ m' Av0 cv0, v = va (cGPred r.2 (vs Av0 r.2.Args cv0)) ∧ m.le m' ∧ St g m' (oo ob0 155 (cSParser r.1) :: F) w' ∧ RS (TGPred) m' (vs Av0 r.2.Args cv0) r.2.Args
def R_parser_factor (g : World) (m : Mem) (F : List Asr) (ob0 : Nat) (r : SParser × GPred) (v : Value) (w' : World) : Prop := ∃ m' Av0 cv0, v = va (cGPred r.2 (vs Av0 r.2.Args cv0)) ∧ m.le m' ∧ St g m' (oo ob0 155 (cSParser r.1) :: F) w' ∧ RS (TGPred) m' (vs Av0 r.2.Args cv0) r.2.Args
structure I_parser_predicate (k : Nat) : Prop where
  c_parser_predicate : ∀ {a0 : SParser} {r : Except Pan (SParser × GPred)} {g : World} {m : Mem} {F : List Asr} {w : World} {ob0 : Nat} (h : parser_predicate k a0 = some r) (hst : St g m (oo ob0 155 (cSParser a0) :: F) w),
    Calls Tryz.prog 51 ⟨[vp ob0 0]⟩ w (XPost (R_parser_predicate g m F ob0) g m F r)
  c_parser_joined : ∀ {a0 : SParser} {a1 : Int} {a2 : Str} {r : Except Pan (SParser × GPred)} {g : World} {m : Mem} {F : List Asr} {w : World} {ob0 : Nat} (h : parser_joined k a0 a1 a2 = some r) (hst : St g m (oo ob0 155 (cSParser a0) :: F) w),
    Calls Tryz.prog 117 ⟨[vp ob0 0, vi a1, vstr a2, vf 118 [vp ob0 0] []]⟩ w (XPost (R_parser_joined g m F ob0) g m F r)
  c_parser_conjunct : ∀ {a0 : SParser} {r : Except Pan (SParser × GPred)} {g : World} {m : Mem} {F : List Asr} {w : World} {ob0 : Nat} (h : parser_conjunct k a0 = some r) (hst : St g m (oo ob0 155 (cSParser a0) :: F) w),
    Calls Tryz.prog 118 ⟨[vp ob0 0]⟩ w (XPost (R_parser_conjunct g m F ob0) g m F r)
  c_parser_joined_i1 : ∀ {a0 : SParser} {a1 : Int} {a2 : Str} {r : Except Pan (SParser × GPred)} {g : World} {m : Mem} {F : List Asr} {w : World} {ob0 : Nat} (h : parser_joined_i1 k a0 a1 a2 = some r) (hst : St g m (oo ob0 155 (cSParser a0) :: F) w),
    Calls Tryz.prog 117 ⟨[vp ob0 0, vi a1, vstr a2, vf 163 [vp ob0 0] []]⟩ w (XPost (R_parser_joined_i1 g m F ob0) g m F r)
  c_parser_factor : ∀ {a0 : SParser} {r : Except Pan (SParser × GPred)} {g : World} {m : Mem} {F : List Asr} {w : World} {ob0 : Nat} (h : parser_factor k a0 = some r) (hst : St g m (oo ob0 155 (cSParser a0) :: F) w),
    Calls Tryz.prog 163 ⟨[vp ob0 0]⟩ w (XPost (R_parser_factor g m F ob0) g m F r)
theorem s_parser_predicate (ih : ∀ j, j < k → I_parser_predicate j) {a0 : SParser} {r : Except Pan (SParser × GPred)} (h : parser_predicate k a0 = some r) (hst : St g m (oo ob0 155 (cSParser a0) :: F) w) :
    Calls Tryz.prog 51 ⟨[vp ob0 0]⟩ w (XPost (R_parser_predicate g m F ob0) g m F r) := by
 refine calls_enter Tryz.func51 rfl rfl ?_
 obtain _ | k1 := k
 ·simp [parser_predicate] at h
 rw [parser_predicate] at h
 refine qr (al [vi 0, vstr w_0, vstr w_0, vi 0, vstr w_0, vi 0, vn] hst (fun b1 _ hst => ?_))
 have hrc3 := RC.nil (TGPred) m
 have hst := hst.nil_row 44 7
 refine nl (tn (qr (s0 3 [vf 118 [vp ob0 0] []] ?_)))
 have hst := pk5 hst
 rcases xbind_some h with ⟨p8, hq5, rfl⟩ | ⟨r4, hq5, h⟩
 ·exact cpa ((ih k1 (by omega)).c_parser_joined hq5 hst) (fun _ _ hp => ⟨rfl, _, rfl, hp.p (Mem.le.refl _) 2 []⟩)
 refine cal ((ih k1 (by omega)).c_parser_joined hq5 hst) ?_
 rintro _ _ ⟨m6, Aq9, cq9, rfl, hl7, hst, hq9⟩
 refine so2 0 (cGPred r4.2 (vs Aq9 r4.2.Args cq9)) hst (fun _ hst => ?_)
 refine nl (tn (wp_ret (wrr [va (cGPred r4.2 (vs Aq9 r4.2.Args cq9))] _ (hst.q 2 0 7) ?_)))
 have hst := pk6 hst
 cases h
 exact ⟨_, rfl, m6, Aq9, cq9, rfl, hl7, hst, hq9⟩
theorem s_parser_joined (ih : ∀ j, j < k → I_parser_predicate j) {a0 : SParser} {a1 : Int} {a2 : Str} {r : Except Pan (SParser × GPred)} (h : parser_joined k a0 a1 a2 = some r) (hst : St g m (oo ob0 155 (cSParser a0) :: F) w) :
    Calls Tryz.prog 117 ⟨[vp ob0 0, vi a1, vstr a2, vf 118 [vp ob0 0] []]⟩ w (XPost (R_parser_joined g m F ob0) g m F r) := by
 refine calls_enter Tryz.func117 rfl rfl ?_
 obtain _ | k1 := k
 ·simp [parser_joined] at h
 rw [parser_joined] at h
 refine qr (al [vi 0, vstr w_0, vstr w_0, vi 0, vstr w_0, vi 0, vn] hst (fun b1 _ hst => ?_))
 have hrc3 := RC.nil (TGPred) m
 have hst := hst.nil_row 44 7
 refine nl (tn (qr (s0 2 [] ?_)))
 have hst := pk5 hst
 rcases xbind_some h with ⟨p8, hq5, rfl⟩ | ⟨r4, hq5, h⟩
 ·exact cpa ((ih k1 (by omega)).c_parser_conjunct hq5 hst) (fun _ _ hp => ⟨rfl, _, rfl, hp.p (Mem.le.refl _) 2 []⟩)
 refine cal ((ih k1 (by omega)).c_parser_conjunct hq5 hst) ?_
 rintro _ _ ⟨m6, Aq9, cq9, rfl, hl7, hst, hq9⟩
 refine li 44 1 [vi r4.2.Op, vstr r4.2.Field, vstr r4.2.Key, vi r4.2.Value.Kind, vstr r4.2.Value.Text, vi r4.2.Value.Int, vs Aq9 r4.2.Args cq9] hst (fun b10 _ hst => ?_)
 have hrc12 : RC (TGPred) m6 [r4.2] [vi r4.2.Op, vstr r4.2.Field, vstr r4.2.Key, vi r4.2.Value.Kind, vstr r4.2.Value.Text, vi r4.2.Value.Int, vs Aq9 r4.2.Args cq9] := (RC.k7 (TGPred.close_ r4.2 hq9) (RC.nil _ _))
 have hst := hst.obj_row (size := 7) (k := 1) rfl (Nat.le_of_ble_eq_true rfl)
 refine s0 1 [va [vi a1, vstr w_0, vstr w_0, vi 0, vstr w_0, vi 0, .slice (some ⟨b10, 0, none⟩) 1 1]] (al [vi 0, vstr w_0, vstr w_0, vi 0, vstr w_0, vi 0, vn] hst (fun b13 _ hst => ?_))
 have hrc15 := RC.nil (TGPred) m6
 have hst := hst.nil_row 44 7
 refine so1 0 [vi a1, vstr w_0, vstr w_0, vi 0, vstr w_0, vi 0, .slice (some ⟨b10, 0, none⟩) 1 1] hst (fun _ hst => ?_)
 refine nl (tn ?_)
 have hst := pk0 hst
 refine sq (bk (wc_loop (fun kk a w => ∃ f0 m251 x192 A193 c194 cs195 x197 x198 x199 x200 x201 x202, a = act Tryz.f117.ntmps (upds f0 [(0, vp ob0 0), (2, vstr a2), (3, vf 118 [vp ob0 0] []), (8, vp b1 0), (9, vp b13 0)]) ∧ kk ≤ k1 ∧ parser_joined_l1 kk a1 a2 x192 x197 x198 x199 x200 x201 x202 = some r ∧ m6.le m251 ∧ St g m251 (oo b13 44 [vi a1, vstr w_0, vstr w_0, vi 0, vstr w_0, vi 0, vs A193 x192 c194] :: rw_ 44 7 A193 x192 c194 cs195 :: oo ob0 155 [vstr x197, vi x198, vi x199, vi x200, vstr x201, vi x202] :: rn 44 7 :: oo b1 44 [vi 0, vstr w_0, vstr w_0, vi 0, vstr w_0, vi 0, vn] :: F) w ∧ RC (TGPred) m251 x192 cs195) k1 ?_ ?_))
 ·exact ⟨_, m6, ([r4.2]), (some ⟨b10, 0, none⟩), 1, [vi r4.2.Op, vstr r4.2.Field, vstr r4.2.Key, vi r4.2.Value.Kind, vstr r4.2.Value.Text, vi r4.2.Value.Int, vs Aq9 r4.2.Args cq9], (r4.1.x_.s_), (r4.1.x_.at_), (r4.1.t_.kind), (r4.1.t_.at_), (r4.1.t_.s_), (r4.1.t_.n_), au, (Nat.le_refl _), h, (Mem.le.refl _), hst, hrc12⟩
 rintro k249 ih250 _ _ ⟨f0, m251, x192, A193, c194, cs195, x197, x198, x199, x200, x201, x202, rfl, hk248, h, hl247, hst, hrc196⟩
 obtain _ | k253 := k249
 ·simp [parser_joined_l1] at h
 rw [parser_joined_l1] at h
 refine sq (qr (s0 2 [] ?_))
 have hst := pk5 hst
 rcases xbind_some h with ⟨p258, hq255, rfl⟩ | ⟨r254, hq255, h⟩
 ·have e259 := hl7.trans hl247
  exact cpa (c_parser_takes hq255 hst) (fun _ _ hp => ⟨rfl, _, rfl, hp.p e259 4 []⟩)
 refine cal (c_parser_takes hq255 hst) ?_
 rintro _ _ ⟨m256, rfl, hl257, hst⟩
 refine nl (tn (cn h (fun h => ?_) (fun h => ?_)))
 ·refine wp_skip (tn (bk (dr false (fun x => Rd m256 (oo b13 44 [vi a1, vstr w_0, vstr w_0, vi 0, vstr w_0, vi 0, vs A193 x192 c194] :: []) x) ?_)))
  have hst := hst.drew
  refine gs [0, 2, 1] [vp b13 6, vs A193 x192 c194] _ 5 (pqk (pqt (pqk (pqt pqb)))) (hst.rd.with_ 1 rfl (hst.rd.none_)) (fun x hx => (hx.q 0 6 1)) ?_
  refine ge 3 rfl ?_
  rcases xbind_some h with ⟨p278, hq275, rfl⟩ | ⟨r274, hq275, h⟩
  ·have e279 := hl7.trans (hl247.trans hl257)
   exact cpa ((ih k253 (by omega)).c_parser_conjunct hq275 hst) (fun _ _ hp => ⟨rfl, _, rfl, hp.p e279 4 []⟩)
  refine cal ((ih k253 (by omega)).c_parser_conjunct hq275 hst) ?_
  rintro _ _ ⟨m276, Aq280, cq280, rfl, hl277, hst, hq280⟩
  refine gn (Rd.lower hl277 (hst.rd.with_ 1 rfl (hst.rd.none_))) (ge 4 rfl (li 44 1 [vi r274.2.Op, vstr r274.2.Field, vstr r274.2.Key, vi r274.2.Value.Kind, vstr r274.2.Value.Text, vi r274.2.Value.Int, vs Aq280 r274.2.Args cq280] hst (fun b281 _ hst => ?_)))
  refine gn (Rd.lower hl277 (hst.rd.with_ 2 rfl (hst.rd.none_))) (ge 5 rfl ?_)
  obtain ⟨hb282, h⟩ := chk_some h
  have e287 := hl257.trans hl277
  refine ap3 (TGPred) (xs := x192) (ys := [r274.2]) 96 1 0 hst (RC.mono e287 hrc196) (RC.k7 (TGPred.close_ r274.2 hq280) (RC.nil _ _)) hb282 (fun A283 c284 cs285 _ hrc286 hst => ?_)
  have hst := pk0 hst
  refine gn (Rd.lower hl277 (hst.rd.with_ 1 rfl (hst.rd.none_))) (wpG_strong (S2 := fun x => Rd m276 (oo b13 44 [vi a1, vstr w_0, vstr w_0, vi 0, vstr w_0, vi 0, vs A193 x192 c194] :: []) x) (fun x hx => Rd.lower hl277 hx) ?_)
  refine gs [6] [vp b13 6] [] 1 (pqk (pqt (pqk (pqt pqb)))) (hst.rd.with_ 1 rfl (hst.rd.none_)) (fun x hx => trivial) ?_
  refine ge 7 rfl (so1 6 [vs A283 (x192 ++ [r274.2]) c284] hst (fun _ hst => ?_))
  refine nl (tn (⟨_, fun _ h => h, .inl ⟨rfl, allListed_of _ (by kernel_rfl)⟩, ?_⟩))
  refine gd (bn (tn ?_))
  have e288 := hl247.trans (hl257.trans hl277)
  have hst := pk10 hst
  exact ih250 k253 (by omega) _ _ ⟨_, m276, ((x192 ++ [r274.2])), A283, c284, cs285, (r274.1.x_.s_), (r274.1.x_.at_), (r274.1.t_.kind), (r274.1.t_.at_), (r274.1.t_.s_), (r274.1.t_.n_), au, (by omega), h, e288, hst, hrc286⟩
 refine wp_exit (tx (tx (bx (tn (sq (qr (sg 4 [vp b13 6, vs A193 x192 c194, vi ((x192).length : Int), vb (((x192).length : Int) == 1)] _ (hst.q 1 6 1) (nl (tn (cn h (fun h => ?_) (fun h => ?_)))))))))))
 ·refine qr (sg 2 [vp b13 6, vs A193 x192 c194] _ (hst.q 1 6 1) ?_)
  have hst := pk5 hst
  obtain ⟨m289, hl290, hst, hs291⟩ := hst.seal_row (T := TGPred) (xs := x192) rfl (RC.mono hl257 hrc196)
  obtain ⟨x293, hx294, h⟩ := ix h
  obtain ⟨b295, o296, cs297, hR298, hA299, hI300⟩ := RS.ix (P := Tryz.prog) hs291 hx294
  obtain ⟨Aq301, cq301, rfl, hq301⟩ := TGPred.opn hR298
  refine vl (hI300.r .i64) (sg 1 [va (cGPred x293 (vs Aq301 x293.Args cq301))] _ (hst.f hA299 0 7) (so3 0 (cGPred x293 (vs Aq301 x293.Args cq301)) hst (fun _ hst => ?_)))
  refine nl (tn (wp_ret (tr (wrr [va (cGPred x293 (vs Aq301 x293.Args cq301))] _ (hst.q 3 0 7) ?_))))
  have hst := pk9 hst
  have e302 := hl7.trans (hl247.trans (hl257.trans hl290))
  cases h
  exact ⟨_, rfl, m289, Aq301, cq301, rfl, e302, hst, hq301⟩
 refine wp_skip (tn (qr (sg 1 [va [vi a1, vstr w_0, vstr w_0, vi 0, vstr w_0, vi 0, vs A193 x192 c194]] _ (hst.q 1 0 7) (so4 0 [vi a1, vstr w_0, vstr w_0, vi 0, vstr w_0, vi 0, vs A193 x192 c194] hst (fun _ hst => ?_)))))
 refine nl (tn (wp_ret ?_))
 have hst := pk5 hst
 obtain ⟨m303, hl304, hst, hs305⟩ := hst.seal_row (T := TGPred) (xs := x192) rfl (RC.mono hl257 hrc196)
 refine wrr [va [vi a1, vstr w_0, vstr w_0, vi 0, vstr w_0, vi 0, vs A193 x192 c194]] _ (hst.q 3 0 7) ?_
 have hst := pk9 hst
 have e306 := hl7.trans (hl247.trans (hl257.trans hl304))
 cases h
 exact ⟨_, rfl, m303, A193, c194, rfl, e306, hst, hs305⟩
theorem s_parser_conjunct (ih : ∀ j, j < k → I_parser_predicate j) {a0 : SParser} {r : Except Pan (SParser × GPred)} (h : parser_conjunct k a0 = some r) (hst : St g m (oo ob0 155 (cSParser a0) :: F) w) :
    Calls Tryz.prog 118 ⟨[vp ob0 0]⟩ w (XPost (R_parser_conjunct g m F ob0) g m F r) := by
 refine calls_enter Tryz.func118 rfl rfl ?_
 obtain _ | k1 := k
 ·simp [parser_conjunct] at h
 rw [parser_conjunct] at h
 refine qr (al [vi 0, vstr w_0, vstr w_0, vi 0, vstr w_0, vi 0, vn] hst (fun b1 _ hst => ?_))
 have hrc3 := RC.nil (TGPred) m
 have hst := hst.nil_row 44 7
 refine nl (tn (qr (s0 3 [vf 163 [vp ob0 0] []] ?_)))
 have hst := pk5 hst
 rcases xbind_some h with ⟨p8, hq5, rfl⟩ | ⟨r4, hq5, h⟩
 ·exact cpa ((ih k1 (by omega)).c_parser_joined_i1 hq5 hst) (fun _ _ hp => ⟨rfl, _, rfl, hp.p (Mem.le.refl _) 2 []⟩)
 refine cal ((ih k1 (by omega)).c_parser_joined_i1 hq5 hst) ?_
 rintro _ _ ⟨m6, Aq9, cq9, rfl, hl7, hst, hq9⟩
 refine so2 0 (cGPred r4.2 (vs Aq9 r4.2.Args cq9)) hst (fun _ hst => ?_)
 refine nl (tn (wp_ret (wrr [va (cGPred r4.2 (vs Aq9 r4.2.Args cq9))] _ (hst.q 2 0 7) ?_)))
 have hst := pk6 hst
 cases h
 exact ⟨_, rfl, m6, Aq9, cq9, rfl, hl7, hst, hq9⟩
theorem s_parser_joined_i1 (ih : ∀ j, j < k → I_parser_predicate j) {a0 : SParser} {a1 : Int} {a2 : Str} {r : Except Pan (SParser × GPred)} (h : parser_joined_i1 k a0 a1 a2 = some r) (hst : St g m (oo ob0 155 (cSParser a0) :: F) w) :
    Calls Tryz.prog 117 ⟨[vp ob0 0, vi a1, vstr a2, vf 163 [vp ob0 0] []]⟩ w (XPost (R_parser_joined_i1 g m F ob0) g m F r) := by
 refine calls_enter Tryz.func117 rfl rfl ?_
 obtain _ | k1 := k
 ·simp [parser_joined_i1] at h
 rw [parser_joined_i1] at h
 refine qr (al [vi 0, vstr w_0, vstr w_0, vi 0, vstr w_0, vi 0, vn] hst (fun b1 _ hst => ?_))
 have hrc3 := RC.nil (TGPred) m
 have hst := hst.nil_row 44 7
 refine nl (tn (qr (s0 2 [] ?_)))
 have hst := pk5 hst
 rcases xbind_some h with ⟨p8, hq5, rfl⟩ | ⟨r4, hq5, h⟩
 ·exact cpa ((ih k1 (by omega)).c_parser_factor hq5 hst) (fun _ _ hp => ⟨rfl, _, rfl, hp.p (Mem.le.refl _) 2 []⟩)
 refine cal ((ih k1 (by omega)).c_parser_factor hq5 hst) ?_
 rintro _ _ ⟨m6, Aq9, cq9, rfl, hl7, hst, hq9⟩
 refine li 44 1 [vi r4.2.Op, vstr r4.2.Field, vstr r4.2.Key, vi r4.2.Value.Kind, vstr r4.2.Value.Text, vi r4.2.Value.Int, vs Aq9 r4.2.Args cq9] hst (fun b10 _ hst => ?_)
 have hrc12 : RC (TGPred) m6 [r4.2] [vi r4.2.Op, vstr r4.2.Field, vstr r4.2.Key, vi r4.2.Value.Kind, vstr r4.2.Value.Text, vi r4.2.Value.Int, vs Aq9 r4.2.Args cq9] := (RC.k7 (TGPred.close_ r4.2 hq9) (RC.nil _ _))
 have hst := hst.obj_row (size := 7) (k := 1) rfl (Nat.le_of_ble_eq_true rfl)
 refine s0 1 [va [vi a1, vstr w_0, vstr w_0, vi 0, vstr w_0, vi 0, .slice (some ⟨b10, 0, none⟩) 1 1]] (al [vi 0, vstr w_0, vstr w_0, vi 0, vstr w_0, vi 0, vn] hst (fun b13 _ hst => ?_))
 have hrc15 := RC.nil (TGPred) m6
 have hst := hst.nil_row 44 7
 refine so1 0 [vi a1, vstr w_0, vstr w_0, vi 0, vstr w_0, vi 0, .slice (some ⟨b10, 0, none⟩) 1 1] hst (fun _ hst => ?_)
 refine nl (tn ?_)
 have hst := pk0 hst
 refine sq (bk (wc_loop (fun kk a w => ∃ f0 m251 x192 A193 c194 cs195 x197 x198 x199 x200 x201 x202, a = act Tryz.f117.ntmps (upds f0 [(0, vp ob0 0), (2, vstr a2), (3, vf 163 [vp ob0 0] []), (8, vp b1 0), (9, vp b13 0)]) ∧ kk ≤ k1 ∧ parser_joined_i1_l1 kk a1 a2 x192 x197 x198 x199 x200 x201 x202 = some r ∧ m6.le m251 ∧ St g m251 (oo b13 44 [vi a1, vstr w_0, vstr w_0, vi 0, vstr w_0, vi 0, vs A193 x192 c194] :: rw_ 44 7 A193 x192 c194 cs195 :: oo ob0 155 [vstr x197, vi x198, vi x199, vi x200, vstr x201, vi x202] :: rn 44 7 :: oo b1 44 [vi 0, vstr w_0, vstr w_0, vi 0, vstr w_0, vi 0, vn] :: F) w ∧ RC (TGPred) m251 x192 cs195) k1 ?_ ?_))
 ·exact ⟨_, m6, ([r4.2]), (some ⟨b10, 0, none⟩), 1, [vi r4.2.Op, vstr r4.2.Field, vstr r4.2.Key, vi r4.2.Value.Kind, vstr r4.2.Value.Text, vi r4.2.Value.Int, vs Aq9 r4.2.Args cq9], (r4.1.x_.s_), (r4.1.x_.at_), (r4.1.t_.kind), (r4.1.t_.at_), (r4.1.t_.s_), (r4.1.t_.n_), au, (Nat.le_refl _), h, (Mem.le.refl _), hst, hrc12⟩
 rintro k249 ih250 _ _ ⟨f0, m251, x192, A193, c194, cs195, x197, x198, x199, x200, x201, x202, rfl, hk248, h, hl247, hst, hrc196⟩
 obtain _ | k253 := k249
 ·simp [parser_joined_i1_l1] at h
 rw [parser_joined_i1_l1] at h
 refine sq (qr (s0 2 [] ?_))
 have hst := pk5 hst
 rcases xbind_some h with ⟨p258, hq255, rfl⟩ | ⟨r254, hq255, h⟩
 ·have e259 := hl7.trans hl247
  exact cpa (c_parser_takes hq255 hst) (fun _ _ hp => ⟨rfl, _, rfl, hp.p e259 4 []⟩)
 refine cal (c_parser_takes hq255 hst) ?_
 rintro _ _ ⟨m256, rfl, hl257, hst⟩
 refine nl (tn (cn h (fun h => ?_) (fun h => ?_)))
 ·refine wp_skip (tn (bk (dr false (fun x => Rd m256 (oo b13 44 [vi a1, vstr w_0, vstr w_0, vi 0, vstr w_0, vi 0, vs A193 x192 c194] :: []) x) ?_)))
  have hst := hst.drew
  refine gs [0, 2, 1] [vp b13 6, vs A193 x192 c194] _ 5 (pqk (pqt (pqk (pqt pqb)))) (hst.rd.with_ 1 rfl (hst.rd.none_)) (fun x hx => (hx.q 0 6 1)) ?_
  refine ge 3 rfl ?_
  rcases xbind_some h with ⟨p278, hq275, rfl⟩ | ⟨r274, hq275, h⟩
  ·have e279 := hl7.trans (hl247.trans hl257)
   exact cpa ((ih k253 (by omega)).c_parser_factor hq275 hst) (fun _ _ hp => ⟨rfl, _, rfl, hp.p e279 4 []⟩)
  refine cal ((ih k253 (by omega)).c_parser_factor hq275 hst) ?_
  rintro _ _ ⟨m276, Aq280, cq280, rfl, hl277, hst, hq280⟩
  refine gn (Rd.lower hl277 (hst.rd.with_ 1 rfl (hst.rd.none_))) (ge 4 rfl (li 44 1 [vi r274.2.Op, vstr r274.2.Field, vstr r274.2.Key, vi r274.2.Value.Kind, vstr r274.2.Value.Text, vi r274.2.Value.Int, vs Aq280 r274.2.Args cq280] hst (fun b281 _ hst => ?_)))
  refine gn (Rd.lower hl277 (hst.rd.with_ 2 rfl (hst.rd.none_))) (ge 5 rfl ?_)
  obtain ⟨hb282, h⟩ := chk_some h
  have e287 := hl257.trans hl277
  refine ap3 (TGPred) (xs := x192) (ys := [r274.2]) 96 1 0 hst (RC.mono e287 hrc196) (RC.k7 (TGPred.close_ r274.2 hq280) (RC.nil _ _)) hb282 (fun A283 c284 cs285 _ hrc286 hst => ?_)
  have hst := pk0 hst
  refine gn (Rd.lower hl277 (hst.rd.with_ 1 rfl (hst.rd.none_))) (wpG_strong (S2 := fun x => Rd m276 (oo b13 44 [vi a1, vstr w_0, vstr w_0, vi 0, vstr w_0, vi 0, vs A193 x192 c194] :: []) x) (fun x hx => Rd.lower hl277 hx) ?_)
  refine gs [6] [vp b13 6] [] 1 (pqk (pqt (pqk (pqt pqb)))) (hst.rd.with_ 1 rfl (hst.rd.none_)) (fun x hx => trivial) ?_
  refine ge 7 rfl (so1 6 [vs A283 (x192 ++ [r274.2]) c284] hst (fun _ hst => ?_))
  refine nl (tn (⟨_, fun _ h => h, .inl ⟨rfl, allListed_of _ (by kernel_rfl)⟩, ?_⟩))
  refine gd (bn (tn ?_))
  have e288 := hl247.trans (hl257.trans hl277)
  have hst := pk10 hst
  exact ih250 k253 (by omega) _ _ ⟨_, m276, ((x192 ++ [r274.2])), A283, c284, cs285, (r274.1.x_.s_), (r274.1.x_.at_), (r274.1.t_.kind), (r274.1.t_.at_), (r274.1.t_.s_), (r274.1.t_.n_), au, (by omega), h, e288, hst, hrc286⟩
 refine wp_exit (tx (tx (bx (tn (sq (qr (sg 4 [vp b13 6, vs A193 x192 c194, vi ((x192).length : Int), vb (((x192).length : Int) == 1)] _ (hst.q 1 6 1) (nl (tn (cn h (fun h => ?_) (fun h => ?_)))))))))))
 ·refine qr (sg 2 [vp b13 6, vs A193 x192 c194] _ (hst.q 1 6 1) ?_)
  have hst := pk5 hst
  obtain ⟨m289, hl290, hst, hs291⟩ := hst.seal_row (T := TGPred) (xs := x192) rfl (RC.mono hl257 hrc196)
  obtain ⟨x293, hx294, h⟩ := ix h
  obtain ⟨b295, o296, cs297, hR298, hA299, hI300⟩ := RS.ix (P := Tryz.prog) hs291 hx294
  obtain ⟨Aq301, cq301, rfl, hq301⟩ := TGPred.opn hR298
  refine vl (hI300.r .i64) (sg 1 [va (cGPred x293 (vs Aq301 x293.Args cq301))] _ (hst.f hA299 0 7) (so3 0 (cGPred x293 (vs Aq301 x293.Args cq301)) hst (fun _ hst => ?_)))
  refine nl (tn (wp_ret (tr (wrr [va (cGPred x293 (vs Aq301 x293.Args cq301))] _ (hst.q 3 0 7) ?_))))
  have hst := pk9 hst
  have e302 := hl7.trans (hl247.trans (hl257.trans hl290))
  cases h
  exact ⟨_, rfl, m289, Aq301, cq301, rfl, e302, hst, hq301⟩
 refine wp_skip (tn (qr (sg 1 [va [vi a1, vstr w_0, vstr w_0, vi 0, vstr w_0, vi 0, vs A193 x192 c194]] _ (hst.q 1 0 7) (so4 0 [vi a1, vstr w_0, vstr w_0, vi 0, vstr w_0, vi 0, vs A193 x192 c194] hst (fun _ hst => ?_)))))
 refine nl (tn (wp_ret ?_))
 have hst := pk5 hst
 obtain ⟨m303, hl304, hst, hs305⟩ := hst.seal_row (T := TGPred) (xs := x192) rfl (RC.mono hl257 hrc196)
 refine wrr [va [vi a1, vstr w_0, vstr w_0, vi 0, vstr w_0, vi 0, vs A193 x192 c194]] _ (hst.q 3 0 7) ?_
 have hst := pk9 hst
 have e306 := hl7.trans (hl247.trans (hl257.trans hl304))
 cases h
 exact ⟨_, rfl, m303, A193, c194, rfl, e306, hst, hs305⟩
theorem s_parser_factor (ih : ∀ j, j < k → I_parser_predicate j) {a0 : SParser} {r : Except Pan (SParser × GPred)} (h : parser_factor k a0 = some r) (hst : St g m (oo ob0 155 (cSParser a0) :: F) w) :
    Calls Tryz.prog 163 ⟨[vp ob0 0]⟩ w (XPost (R_parser_factor g m F ob0) g m F r) := by
 refine calls_enter Tryz.func163 rfl rfl ?_
 obtain _ | k1 := k
 ·simp [parser_factor] at h
 rw [parser_factor] at h
 refine qr (al [vi 0, vstr w_0, vstr w_0, vi 0, vstr w_0, vi 0, vn] hst (fun b1 _ hst => ?_))
 have hrc3 := RC.nil (TGPred) m
 have hst := hst.nil_row 44 7
 refine nl (tn (sq (bk (qr (s0 1 [] ?_)))))
 have hst := pk5 hst
 rcases xbind_some h with ⟨p8, hq5, rfl⟩ | ⟨r4, hq5, h⟩
 ·exact cpa (c_parser_takes hq5 hst) (fun _ _ hp => ⟨rfl, _, rfl, hp.p (Mem.le.refl _) 2 []⟩)
 refine cal (c_parser_takes hq5 hst) ?_
 rintro _ _ ⟨m6, rfl, hl7, hst⟩
 refine s0 1 [] (nl (tn (cn h (fun h => ?_) (fun h => ?_))))
 ·refine qr (s0 1 [] ?_)
  rcases xbind_some h with ⟨p13, hq10, rfl⟩ | ⟨r9, hq10, h⟩
  ·exact cpa ((ih k1 (by omega)).c_parser_factor hq10 hst) (fun _ _ hp => ⟨rfl, _, rfl, hp.p hl7 2 []⟩)
  refine cal ((ih k1 (by omega)).c_parser_factor hq10 hst) ?_
  rintro _ _ ⟨m11, Aq14, cq14, rfl, hl12, hst, hq14⟩
  refine li 44 1 [vi r9.2.Op, vstr r9.2.Field, vstr r9.2.Key, vi r9.2.Value.Kind, vstr r9.2.Value.Text, vi r9.2.Value.Int, vs Aq14 r9.2.Args cq14] hst (fun b15 _ hst => ?_)
  have hrc17 : RC (TGPred) m11 [r9.2] [vi r9.2.Op, vstr r9.2.Field, vstr r9.2.Key, vi r9.2.Value.Kind, vstr r9.2.Value.Text, vi r9.2.Value.Int, vs Aq14 r9.2.Args cq14] := (RC.k7 (TGPred.close_ r9.2 hq14) (RC.nil _ _))
  have hst := hst.obj_row (size := 7) (k := 1) rfl (Nat.le_of_ble_eq_true rfl)
  refine s0 1 [va [vi 3, vstr w_0, vstr w_0, vi 0, vstr w_0, vi 0, .slice (some ⟨b15, 0, none⟩) 1 1]] (so3 0 [vi 3, vstr w_0, vstr w_0, vi 0, vstr w_0, vi 0, .slice (some ⟨b15, 0, none⟩) 1 1] hst (fun _ hst => ?_))
  refine nl (tn (wp_ret (br (tr ?_))))
  obtain ⟨m18, hl19, hst, hs20⟩ := hst.seal_row (T := TGPred) (xs := [r9.2]) rfl hrc17
  refine wrr [va [vi 3, vstr w_0, vstr w_0, vi 0, vstr w_0, vi 0, .slice (some ⟨b15, 0, none⟩) 1 1]] _ (hst.q 2 0 7) ?_
  have hst := pk6 hst
  have e21 := hl7.trans (hl12.trans hl19)
  cases h
  exact ⟨_, rfl, m18, (some ⟨b15, 0, none⟩), 1, rfl, e21, hst, hs20⟩
 refine qr (s0 1 [] ?_)
 rcases xbind_some h with ⟨p26, hq23, rfl⟩ | ⟨r22, hq23, h⟩
 ·exact cpa (c_parser_takes hq23 hst) (fun _ _ hp => ⟨rfl, _, rfl, hp.p hl7 2 []⟩)
 refine cal (c_parser_takes hq23 hst) ?_
 rintro _ _ ⟨m24, rfl, hl25, hst⟩
 refine s0 1 [] (nl (tn (cn h (fun h => ?_) (fun h => ?_))))
 ·refine qr (s0 1 [] ?_)
  rcases xbind_some h with ⟨p31, hq28, rfl⟩ | ⟨r27, hq28, h⟩
  ·have e32 := hl7.trans hl25
   exact cpa ((ih k1 (by omega)).c_parser_predicate hq28 hst) (fun _ _ hp => ⟨rfl, _, rfl, hp.p e32 2 []⟩)
  refine cal ((ih k1 (by omega)).c_parser_predicate hq28 hst) ?_
  rintro _ _ ⟨m29, Aq33, cq33, rfl, hl30, hst, hq33⟩
  refine al [vi 0, vstr w_0, vstr w_0, vi 0, vstr w_0, vi 0, vn] hst (fun b34 _ hst => ?_)
  have hrc36 := RC.nil (TGPred) m29
  have hst := hst.nil_row 44 7
  refine so1 0 (cGPred r27.2 (vs Aq33 r27.2.Args cq33)) hst (fun _ hst => ?_)
  refine nl (tn (qr (s0 1 [] ?_)))
  have hst := pk5 hst
  rcases xbind_some h with ⟨p41, hq38, rfl⟩ | ⟨r37, hq38, h⟩
  ·have e42 := hl7.trans (hl25.trans hl30)
   exact cpa (c_parser_need hq38 hst) (fun _ _ hp => ⟨rfl, _, rfl, hp.p e42 4 []⟩)
  refine cal (c_parser_need hq38 hst) ?_
  rintro _ _ ⟨m39, rfl, hl40, hst⟩
  refine nl (tn (qr (sg 1 [va (cGPred r27.2 (vs Aq33 r27.2.Args cq33))] _ (hst.q 2 0 7) (so4 0 (cGPred r27.2 (vs Aq33 r27.2.Args cq33)) hst (fun _ hst => ?_)))))
  refine nl (tn (wp_ret (br (tr (wrr [va (cGPred r27.2 (vs Aq33 r27.2.Args cq33))] _ (hst.q 4 0 7) ?_)))))
  have hst := pk7 hst
  have e43 := hl7.trans (hl25.trans (hl30.trans hl40))
  cases h
  exact ⟨_, rfl, m39, Aq33, cq33, rfl, e43, hst, (RS.mono hl40 hq33)⟩
 refine qr (s0 1 [] ?_)
 rcases xbind_some h with ⟨p48, hq45, rfl⟩ | ⟨r44, hq45, h⟩
 ·have e49 := hl7.trans hl25
  exact cpa (c_parser_takes hq45 hst) (fun _ _ hp => ⟨rfl, _, rfl, hp.p e49 2 []⟩)
 refine cal (c_parser_takes hq45 hst) ?_
 rintro _ _ ⟨m46, rfl, hl47, hst⟩
 refine s0 1 [] (nl (tn (cn h (fun h => ?_) (fun h => ?_))))
 ·refine qr (s0 1 [va [vi 0, vstr w_0, vstr w_0, vi 0, vstr w_0, vi 0, vn]] ?_)
  have hrc51 := RC.nil (TGPred) m46
  have hst := hst.nil_row 44 7
  refine so3 0 [vi 0, vstr w_0, vstr w_0, vi 0, vstr w_0, vi 0, vn] hst (fun _ hst => ?_)
  refine nl (tn (wp_ret (br (tr ?_))))
  obtain ⟨m52, hl53, hst, hs54⟩ := hst.seal_row (T := TGPred) (xs := ([] : List GPred)) rfl hrc51
  refine wrr [va [vi 0, vstr w_0, vstr w_0, vi 0, vstr w_0, vi 0, vn]] _ (hst.q 2 0 7) ?_
  have hst := pk6 hst
  have e55 := hl7.trans (hl25.trans (hl47.trans hl53))
  cases h
  exact ⟨_, rfl, m52, none, 0, rfl, e55, hst, hs54⟩
 refine qr (s0 1 [] ?_)
 rcases xbind_some h with ⟨p60, hq57, rfl⟩ | ⟨r56, hq57, h⟩
 ·have e61 := hl7.trans (hl25.trans hl47)
  exact cpa (c_parser_takes hq57 hst) (fun _ _ hp => ⟨rfl, _, rfl, hp.p e61 2 []⟩)
 refine cal (c_parser_takes hq57 hst) ?_
 rintro _ _ ⟨m58, rfl, hl59, hst⟩
 refine s0 1 [] (nl (tn (cn h (fun h => ?_) (fun h => ?_))))
 ·refine qr (s0 1 [] ?_)
  rcases xbind_some h with ⟨p66, hq63, rfl⟩ | ⟨r62, hq63, h⟩
  ·have e67 := hl7.trans (hl25.trans (hl47.trans hl59))
   exact cpa (c_parser_label hq63 hst) (fun _ _ hp => ⟨rfl, _, rfl, hp.p e67 2 []⟩)
  refine cal (c_parser_label hq63 hst) ?_
  rintro _ _ ⟨m64, rfl, hl65, hst⟩
  refine s0 1 [va [vi 4, vstr w_0, vstr r62.2, vi 0, vstr w_0, vi 0, vn]] ?_
  have hrc69 := RC.nil (TGPred) m64
  have hst := hst.nil_row 44 7
  refine so3 0 [vi 4, vstr w_0, vstr r62.2, vi 0, vstr w_0, vi 0, vn] hst (fun _ hst => ?_)
  refine nl (tn (wp_ret (br (tr ?_))))
  obtain ⟨m70, hl71, hst, hs72⟩ := hst.seal_row (T := TGPred) (xs := ([] : List GPred)) rfl hrc69
  refine wrr [va [vi 4, vstr w_0, vstr r62.2, vi 0, vstr w_0, vi 0, vn]] _ (hst.q 2 0 7) ?_
  have hst := pk6 hst
  have e73 := hl7.trans (hl25.trans (hl47.trans (hl59.trans (hl65.trans hl71))))
  cases h
  exact ⟨_, rfl, m70, none, 0, rfl, e73, hst, hs72⟩
 refine wp_skip (bn (tn (qr (s0 1 [] ?_))))
 rcases xbind_some h with ⟨p78, hq75, rfl⟩ | ⟨r74, hq75, h⟩
 ·have e79 := hl7.trans (hl25.trans (hl47.trans hl59))
  exact cpa (c_parser_test hq75 hst) (fun _ _ hp => ⟨rfl, _, rfl, hp.p e79 2 []⟩)
 refine cal (c_parser_test hq75 hst) ?_
 rintro _ _ ⟨m76, Aq80, cq80, rfl, hl77, hst, hq80⟩
 refine so2 0 (cGPred r74.2 (vs Aq80 r74.2.Args cq80)) hst (fun _ hst => ?_)
 refine nl (tn (wp_ret (wrr [va (cGPred r74.2 (vs Aq80 r74.2.Args cq80))] _ (hst.q 2 0 7) ?_)))
 have hst := pk6 hst
 have e81 := hl7.trans (hl25.trans (hl47.trans (hl59.trans hl77)))
 cases h
 exact ⟨_, rfl, m76, Aq80, cq80, rfl, e81, hst, hq80⟩
theorem i_parser_predicate (k : Nat) : I_parser_predicate k := by
  induction k using Nat.strongRecOn with
  | ind k ih => exact ⟨s_parser_predicate ih, s_parser_joined ih, s_parser_conjunct ih, s_parser_joined_i1 ih, s_parser_factor ih⟩
theorem c_parser_predicate {a0 : SParser} {r : Except Pan (SParser × GPred)} (h : parser_predicate k a0 = some r) (hst : St g m (oo ob0 155 (cSParser a0) :: F) w) :
    Calls Tryz.prog 51 ⟨[vp ob0 0]⟩ w (XPost (R_parser_predicate g m F ob0) g m F r) := (i_parser_predicate k).c_parser_predicate h hst
theorem c_parser_joined {a0 : SParser} {a1 : Int} {a2 : Str} {r : Except Pan (SParser × GPred)} (h : parser_joined k a0 a1 a2 = some r) (hst : St g m (oo ob0 155 (cSParser a0) :: F) w) :
    Calls Tryz.prog 117 ⟨[vp ob0 0, vi a1, vstr a2, vf 118 [vp ob0 0] []]⟩ w (XPost (R_parser_joined g m F ob0) g m F r) := (i_parser_predicate k).c_parser_joined h hst
theorem c_parser_conjunct {a0 : SParser} {r : Except Pan (SParser × GPred)} (h : parser_conjunct k a0 = some r) (hst : St g m (oo ob0 155 (cSParser a0) :: F) w) :
    Calls Tryz.prog 118 ⟨[vp ob0 0]⟩ w (XPost (R_parser_conjunct g m F ob0) g m F r) := (i_parser_predicate k).c_parser_conjunct h hst
theorem c_parser_joined_i1 {a0 : SParser} {a1 : Int} {a2 : Str} {r : Except Pan (SParser × GPred)} (h : parser_joined_i1 k a0 a1 a2 = some r) (hst : St g m (oo ob0 155 (cSParser a0) :: F) w) :
    Calls Tryz.prog 117 ⟨[vp ob0 0, vi a1, vstr a2, vf 163 [vp ob0 0] []]⟩ w (XPost (R_parser_joined_i1 g m F ob0) g m F r) := (i_parser_predicate k).c_parser_joined_i1 h hst
theorem c_parser_factor {a0 : SParser} {r : Except Pan (SParser × GPred)} (h : parser_factor k a0 = some r) (hst : St g m (oo ob0 155 (cSParser a0) :: F) w) :
    Calls Tryz.prog 163 ⟨[vp ob0 0]⟩ w (XPost (R_parser_factor g m F ob0) g m F r) := (i_parser_predicate k).c_parser_factor h hst
def R_parser_variable (g : World) (m : Mem) (F : List Asr) (ob0 : Nat) (r : SParser × GVariable) (v : Value) (w' : World) : Prop := ∃ m' Av0 cv0, v = va (cGVariable r.2 (vs Av0 r.2.Where.Args cv0)) ∧ m.le m' ∧ St g m' (oo ob0 155 (cSParser r.1) :: F) w' ∧ RS (TGPred) m' (vs Av0 r.2.Where.Args cv0) r.2.Where.Args
theorem c_parser_variable {a0 : SParser} {r : Except Pan (SParser × GVariable)} (h : parser_variable k a0 = some r) (hst : St g m (oo ob0 155 (cSParser a0) :: F) w) (hG : Glob m) :
    Calls Tryz.prog 107 ⟨[vp ob0 0]⟩ w (XPost (R_parser_variable g m F ob0) g m F r) := by
 refine calls_enter Tryz.func107 rfl rfl ?_
 unfold parser_variable at h
 refine qr (al [vstr w_0, vi 0, vstr w_0, vstr w_0, vi 0, vstr w_0, vi 0, vn] hst (fun b1 _ hst => ?_))
 refine nl (tn (qr (s0 1 [] ?_)))
 have hst := pk1 hst
 rcases xbind_some h with ⟨p6, hq3, rfl⟩ | ⟨r2, hq3, h⟩
 ·exact cpa (c_parser_name hq3 hst hG) (fun _ _ hp => ⟨rfl, _, rfl, hp.p (Mem.le.refl _) 1 []⟩)
 refine cal (c_parser_name hq3 hst hG) ?_
 rintro _ _ ⟨m4, rfl, hl5, hst⟩
 refine s0 1 [va [vstr r2.2, vi 0, vstr w_0, vstr w_0, vi 0, vstr w_0, vi 0, vn]] (al [vstr w_0, vi 0, vstr w_0, vstr w_0, vi 0, vstr w_0, vi 0, vn] hst (fun b7 _ hst => ?_))
 refine so0 0 [vstr r2.2, vi 0, vstr w_0, vstr w_0, vi 0, vstr w_0, vi 0, vn] hst (fun _ hst => ?_)
 refine nl (tn (sq (qr (s0 1 [] ?_))))
 have hst := pk1 hst
 rcases xbind_some h with ⟨p12, hq9, rfl⟩ | ⟨r8, hq9, h⟩
 ·exact cpa (c_parser_takes hq9 hst) (fun _ _ hp => ⟨rfl, _, rfl, hp.p hl5 2 []⟩)
 refine cal (c_parser_takes hq9 hst) ?_
 rintro _ _ ⟨m10, rfl, hl11, hst⟩
 refine nl (tn (cn h (fun h => ?_) (fun h => ?_)))
 ·refine qr (s0 1 [] ?_)
  rcases xbind_some h with ⟨p17, hq14, rfl⟩ | ⟨r13, hq14, h⟩
  ·have e18 := hl5.trans hl11
   exact cpa (c_parser_predicate hq14 hst) (fun _ _ hp => ⟨rfl, _, rfl, hp.p e18 2 []⟩)
  refine cal (c_parser_predicate hq14 hst) ?_
  rintro _ _ ⟨m15, Aq19, cq19, rfl, hl16, hst, hq19⟩
  refine s0 1 [vp b7 1] (so1 1 (cGPred r13.2 (vs Aq19 r13.2.Args cq19)) hst (fun _ hst => ?_))
  refine nl (tn (rg (s0 1 [] ?_)))
  rcases xbind_some h with ⟨p24, hq21, rfl⟩ | ⟨r20, hq21, h⟩
  ·have e25 := hl5.trans (hl11.trans hl16)
   exact cpa (c_parser_need hq21 hst) (fun _ _ hp => ⟨rfl, _, rfl, hp.p e25 2 []⟩)
  refine cal (c_parser_need hq21 hst) ?_
  rintro _ _ ⟨m22, rfl, hl23, hst⟩
  refine nl (tn (qr (sg 1 [va [vstr r2.2, vi r13.2.Op, vstr r13.2.Field, vstr r13.2.Key, vi r13.2.Value.Kind, vstr r13.2.Value.Text, vi r13.2.Value.Int, vs Aq19 r13.2.Args cq19]] _ (hst.q 1 0 8) (so2 0 [vstr r2.2, vi r13.2.Op, vstr r13.2.Field, vstr r13.2.Key, vi r13.2.Value.Kind, vstr r13.2.Value.Text, vi r13.2.Value.Int, vs Aq19 r13.2.Args cq19] hst (fun _ hst => ?_)))))
  refine nl (tn (wp_ret (wrr [va [vstr r2.2, vi r13.2.Op, vstr r13.2.Field, vstr r13.2.Key, vi r13.2.Value.Kind, vstr r13.2.Value.Text, vi r13.2.Value.Int, vs Aq19 r13.2.Args cq19]] _ (hst.q 2 0 8) ?_)))
  have hst := pk6 hst
  have e26 := hl5.trans (hl11.trans (hl16.trans hl23))
  cases h
  exact ⟨_, rfl, m22, Aq19, cq19, rfl, e26, hst, (RS.mono hl23 hq19)⟩
 refine wp_skip (tn (qr (sg 1 [va [vstr r2.2, vi 0, vstr w_0, vstr w_0, vi 0, vstr w_0, vi 0, vn]] _ (hst.q 1 0 8) (so2 0 [vstr r2.2, vi 0, vstr w_0, vstr w_0, vi 0, vstr w_0, vi 0, vn] hst (fun _ hst => ?_)))))
 refine nl (tn (wp_ret (wrr [va [vstr r2.2, vi 0, vstr w_0, vstr w_0, vi 0, vstr w_0, vi 0, vn]] _ (hst.q 2 0 8) ?_)))
 have hst := pk6 hst
 have e27 := hl5.trans hl11
 cases h
 exact ⟨_, rfl, m10, none, 0, rfl, e27, hst, (RS.nil _ _)⟩
def R_parser_query_c1 (g : World) (m : Mem) (F : List Asr) (ob0 : Nat) (ob1 : Nat) (ob2 : Nat) (r : GQuery × SParser) (v : Value) (w' : World) : Prop := ∃ m' A6 c6 cs6 A7 c7 cs7 A8 c8 cs8 A9 c9 cs9 A10 c10 cs10 A11 c11 cs11, v = vt [] ∧ m.le m' ∧ St g m' (oo ob0 36 (cGQuery r.1 (vs A6 r.1.Variables c6) (vs A7 r.1.Relations c7) (vs A8 r.1.Absences c8) (vs A9 r.1.Group c9) (vs A10 r.1.Compute c10) (vs A11 r.1.Order c11)) :: rw_ 95 8 A6 r.1.Variables c6 cs6 :: rw_ 104 3 A7 r.1.Relations c7 cs7 :: rw_ 106 11 A8 r.1.Absences c8 cs8 :: rw_ 101 3 A9 r.1.Group c9 cs9 :: rw_ 110 6 A10 r.1.Compute c10 cs10 :: rw_ 112 2 A11 r.1.Order c11 cs11 :: oo ob1 86 [vp ob2 0] :: oo ob2 155 (cSParser r.2) :: F) w' ∧ RC (TGVariable) m' r.1.Variables cs6 ∧ RC (TGRelation) m' r.1.Relations cs7 ∧ RC (TGAbsence) m' r.1.Absences cs8 ∧ RC (TGColumn) m' r.1.Group cs9 ∧ RC (TGAggregate) m' r.1.Compute cs10 ∧ RC (TGOrderKey) m' r.1.Order cs11
theorem c_parser_query_c1 {a0 : GQuery} {a2 : SParser} {r : Except Pan (GQuery × SParser)} {A6_ : Option Addr} {c6_ : Nat} {cs6_ : List Value} {A7_ : Option Addr} {c7_ : Nat} {cs7_ : List Value} {A8_ : Option Addr} {c8_ : Nat} {cs8_ : List Value} {A9_ : Option Addr} {c9_ : Nat} {cs9_ : List Value} {A10_ : Option Addr} {c10_ : Nat} {cs10_ : List Value} {A11_ : Option Addr} {c11_ : Nat} {cs11_ : List Value} (h : parser_query_c1 k a0 a2 = some r) (hst : St g m (oo ob0 36 (cGQuery a0 (vs A6_ a0.Variables c6_) (vs A7_ a0.Relations c7_) (vs A8_ a0.Absences c8_) (vs A9_ a0.Group c9_) (vs A10_ a0.Compute c10_) (vs A11_ a0.Order c11_)) :: rw_ 95 8 A6_ a0.Variables c6_ cs6_ :: rw_ 104 3 A7_ a0.Relations c7_ cs7_ :: rw_ 106 11 A8_ a0.Absences c8_ cs8_ :: rw_ 101 3 A9_ a0.Group c9_ cs9_ :: rw_ 110 6 A10_ a0.Compute c10_ cs10_ :: rw_ 112 2 A11_ a0.Order c11_ cs11_ :: oo ob1 86 [vp ob2 0] :: oo ob2 155 (cSParser a2) :: F) w) (hrc6_ : RC (TGVariable) m a0.Variables cs6_) (hrc7_ : RC (TGRelation) m a0.Relations cs7_) (hrc8_ : RC (TGAbsence) m a0.Absences cs8_) (hrc9_ : RC (TGColumn) m a0.Group cs9_) (hrc10_ : RC (TGAggregate) m a0.Compute cs10_) (hrc11_ : RC (TGOrderKey) m a0.Order cs11_) (hG : Glob m) :
    Calls Tryz.prog 106 ⟨[vp ob0 0, vp ob1 0]⟩ w (XPost (R_parser_query_c1 g m F ob0 ob1 ob2) g m (oo ob0 36 (cGQuery a0 (vs A6_ a0.Variables c6_) (vs A7_ a0.Relations c7_) (vs A8_ a0.Absences c8_) (vs A9_ a0.Group c9_) (vs A10_ a0.Compute c10_) (vs A11_ a0.Order c11_)) :: rw_ 95 8 A6_ a0.Variables c6_ cs6_ :: rw_ 104 3 A7_ a0.Relations c7_ cs7_ :: rw_ 106 11 A8_ a0.Absences c8_ cs8_ :: rw_ 101 3 A9_ a0.Group c9_ cs9_ :: rw_ 110 6 A10_ a0.Compute c10_ cs10_ :: rw_ 112 2 A11_ a0.Order c11_ cs11_ :: oo ob1 86 [vp ob2 0] :: F) r) := by
 refine calls_enter Tryz.func106 rfl rfl ?_
 unfold parser_query_c1 at h
 refine dr false (fun x => Rd m (oo ob0 36 (cGQuery a0 (vs A6_ a0.Variables c6_) (vs A7_ a0.Relations c7_) (vs A8_ a0.Absences c8_) (vs A9_ a0.Group c9_) (vs A10_ a0.Compute c10_) (vs A11_ a0.Order c11_)) :: oo ob1 86 [vp ob2 0] :: []) x) ?_
 have hst := hst.drew
 refine gs [0, 2, 1] [vp ob0 0, vp ob2 0, vs A6_ a0.Variables c6_] _ 5 pqb (hst.rd.with_ 0 rfl (hst.rd.with_ 7 rfl (hst.rd.none_))) (fun x hx => (AllC.app (hx.q 1 0 1) (hx.q 0 0 1))) ?_
 refine ge 3 rfl ?_
 have hst := pk11 hst
 rcases xbind_some h with ⟨p17, hq14, rfl⟩ | ⟨r13, hq14, h⟩
 ·exact cpa (c_parser_variable hq14 hst hG) (fun _ _ hp => ⟨rfl, _, rfl, hp.p (Mem.le.refl _) 8 [0, 0, 0, 0, 0, 0, 0, 0]⟩)
 refine cal (c_parser_variable hq14 hst hG) ?_
 rintro _ _ ⟨m15, Aq18, cq18, rfl, hl16, hst, hq18⟩
 refine gn (Rd.lower hl16 (hst.rd.with_ 1 rfl (hst.rd.with_ 8 rfl (hst.rd.none_)))) (ge 4 rfl (li 95 1 [vstr r13.2.Name, vi r13.2.Where.Op, vstr r13.2.Where.Field, vstr r13.2.Where.Key, vi r13.2.Where.Value.Kind, vstr r13.2.Where.Value.Text, vi r13.2.Where.Value.Int, vs Aq18 r13.2.Where.Args cq18] hst (fun b19 _ hst => ?_)))
 refine gn (Rd.lower hl16 (hst.rd.with_ 2 rfl (hst.rd.with_ 9 rfl (hst.rd.none_)))) (ge 5 rfl ?_)
 obtain ⟨hb20, h⟩ := chk_some h
 refine ap3 (TGVariable) (xs := a0.Variables) (ys := [r13.2]) 112 1 0 hst (RC.mono hl16 hrc6_) (RC.k8 (TGVariable.close_ r13.2 hq18) (RC.nil _ _)) hb20 (fun A21 c22 cs23 _ hrc24 hst => ?_)
 have hst := pk0 hst
 refine gn (Rd.lower hl16 (hst.rd.with_ 1 rfl (hst.rd.with_ 8 rfl (hst.rd.none_)))) (wpG_strong (S2 := fun x => Rd m15 (oo ob0 36 (cGQuery a0 (vs A6_ a0.Variables c6_) (vs A7_ a0.Relations c7_) (vs A8_ a0.Absences c8_) (vs A9_ a0.Group c9_) (vs A10_ a0.Compute c10_) (vs A11_ a0.Order c11_)) :: oo ob1 86 [vp ob2 0] :: []) x) (fun x hx => Rd.lower hl16 hx) ?_)
 refine gs [6] [vp ob0 0] [] 1 pqb (hst.rd.with_ 1 rfl (hst.rd.with_ 8 rfl (hst.rd.none_))) (fun x hx => trivial) ?_
 refine ge 7 rfl (so1 0 [vs A21 (a0.Variables ++ [r13.2]) c22] hst (fun _ hst => ?_))
 refine nl (tn (⟨_, fun _ h => h, .inl ⟨rfl, allListed_of _ (by kernel_rfl)⟩, ?_⟩))
 refine gd (we [] ?_)
 have hst := pk12 hst
 cases h
 exact ⟨_, rfl, m15, A21, c22, cs23, A7_, c7_, cs7_, A8_, c8_, cs8_, A9_, c9_, cs9_, A10_, c10_, cs10_, A11_, c11_, cs11_, rfl, hl16, hst, hrc24, (RC.mono hl16 hrc7_), (RC.mono hl16 hrc8_), (RC.mono hl16 hrc9_), (RC.mono hl16 hrc10_), (RC.mono hl16 hrc11_)⟩
def R_parser_list (g : World) (m : Mem) (F : List Asr) (ob0 : Nat) (ob1 : Nat) (ob2 : Nat) (r : SParser × GQuery) (v : Value) (w' : World) : Prop := ∃ m' A6 c6 cs6 A7 c7 cs7 A8 c8 cs8 A9 c9 cs9 A10 c10 cs10 A11 c11 cs11, v = vt [] ∧ m.le m' ∧ St g m' (oo ob0 155 (cSParser r.1) :: oo ob1 36 (cGQuery r.2 (vs A6 r.2.Variables c6) (vs A7 r.2.Relations c7) (vs A8 r.2.Absences c8) (vs A9 r.2.Group c9) (vs A10 r.2.Compute c10) (vs A11 r.2.Order c11)) :: rw_ 95 8 A6 r.2.Variables c6 cs6 :: rw_ 104 3 A7 r.2.Relations c7 cs7 :: rw_ 106 11 A8 r.2.Absences c8 cs8 :: rw_ 101 3 A9 r.2.Group c9 cs9 :: rw_ 110 6 A10 r.2.Compute c10 cs10 :: rw_ 112 2 A11 r.2.Order c11 cs11 :: oo ob2 86 [vp ob0 0] :: F) w' ∧ RC (TGVariable) m' r.2.Variables cs6 ∧ RC (TGRelation) m' r.2.Relations cs7 ∧ RC (TGAbsence) m' r.2.Absences cs8 ∧ RC (TGColumn) m' r.2.Group cs9 ∧ RC (TGAggregate) m' r.2.Compute cs10 ∧ RC (TGOrderKey) m' r.2.Order cs11
theorem c_parser_list {a0 : SParser} {a1 : GQuery} {r : Except Pan (SParser × GQuery)} {A6_ : Option Addr} {c6_ : Nat} {cs6_ : List Value} {A7_ : Option Addr} {c7_ : Nat} {cs7_ : List Value} {A8_ : Option Addr} {c8_ : Nat} {cs8_ : List Value} {A9_ : Option Addr} {c9_ : Nat} {cs9_ : List Value} {A10_ : Option Addr} {c10_ : Nat} {cs10_ : List Value} {A11_ : Option Addr} {c11_ : Nat} {cs11_ : List Value} (h : parser_list k a0 a1 = some r) (hst : St g m (oo ob0 155 (cSParser a0) :: oo ob1 36 (cGQuery a1 (vs A6_ a1.Variables c6_) (vs A7_ a1.Relations c7_) (vs A8_ a1.Absences c8_) (vs A9_ a1.Group c9_) (vs A10_ a1.Compute c10_) (vs A11_ a1.Order c11_)) :: rw_ 95 8 A6_ a1.Variables c6_ cs6_ :: rw_ 104 3 A7_ a1.Relations c7_ cs7_ :: rw_ 106 11 A8_ a1.Absences c8_ cs8_ :: rw_ 101 3 A9_ a1.Group c9_ cs9_ :: rw_ 110 6 A10_ a1.Compute c10_ cs10_ :: rw_ 112 2 A11_ a1.Order c11_ cs11_ :: oo ob2 86 [vp ob0 0] :: F) w) (hrc6_ : RC (TGVariable) m a1.Variables cs6_) (hrc7_ : RC (TGRelation) m a1.Relations cs7_) (hrc8_ : RC (TGAbsence) m a1.Absences cs8_) (hrc9_ : RC (TGColumn) m a1.Group cs9_) (hrc10_ : RC (TGAggregate) m a1.Compute cs10_) (hrc11_ : RC (TGOrderKey) m a1.Order cs11_) (hG : Glob m) :
    Calls Tryz.prog 105 ⟨[vp ob0 0, vf 106 [] [vp ob1 0, vp ob2 0]]⟩ w (XPost (R_parser_list g m F ob0 ob1 ob2) g m (oo ob2 86 [vp ob0 0] :: F) r) := by
 refine calls_enter Tryz.func105 rfl rfl ?_
 unfold parser_list at h
 refine qr (s0 1 [] ?_)
 have hst := pk12 hst
 rcases xbind_some h with ⟨p5, hq2, rfl⟩ | ⟨r1, hq2, h⟩
 ·exact cpa (c_parser_query_c1 hq2 hst hrc6_ hrc7_ hrc8_ hrc9_ hrc10_ hrc11_ hG) (fun _ _ hp => ⟨rfl, _, rfl, hp.p (Mem.le.refl _) 8 [7]⟩)
 refine cal (c_parser_query_c1 hq2 hst hrc6_ hrc7_ hrc8_ hrc9_ hrc10_ hrc11_ hG) ?_
 rintro _ _ ⟨m3, A12, c13, cs14, A16, c17, cs18, A20, c21, cs22, A24, c25, cs26, A28, c29, cs30, A32, c33, cs34, rfl, hl4, hst, hrc15, hrc19, hrc23, hrc27, hrc31, hrc35⟩
 refine nl (tn (bk (wc_loop (fun kk a w => ∃ f0 m239 x116 A117 c118 cs119 x121 A122 c123 cs124 x126 A127 c128 cs129 x131 A132 c133 cs134 x136 A137 c138 cs139 x141 A142 c143 cs144 x146 x147 x148 x149 x150 x151 x152 x153 x154, a = act Tryz.f105.ntmps (upds f0 [(0, vp ob0 0), (1, vf 106 [] [vp ob1 0, vp ob2 0])]) ∧ kk ≤ k ∧ parser_list_l1 kk x116 x121 x126 x131 x136 x141 x146 x147 x148 x149 x150 x151 x152 x153 x154 = some r ∧ m3.le m239 ∧ St g m239 (oo ob1 36 [vs A117 x116 c118, vs A122 x121 c123, vs A127 x126 c128, vi x146, vi x147, vs A132 x131 c133, vs A137 x136 c138, vs A142 x141 c143, vi x148] :: rw_ 95 8 A117 x116 c118 cs119 :: rw_ 104 3 A122 x121 c123 cs124 :: rw_ 106 11 A127 x126 c128 cs129 :: rw_ 101 3 A132 x131 c133 cs134 :: rw_ 110 6 A137 x136 c138 cs139 :: rw_ 112 2 A142 x141 c143 cs144 :: oo ob2 86 [vp ob0 0] :: oo ob0 155 [vstr x149, vi x150, vi x151, vi x152, vstr x153, vi x154] :: F) w ∧ RC (TGVariable) m239 x116 cs119 ∧ RC (TGRelation) m239 x121 cs124 ∧ RC (TGAbsence) m239 x126 cs129 ∧ RC (TGColumn) m239 x131 cs134 ∧ RC (TGAggregate) m239 x136 cs139 ∧ RC (TGOrderKey) m239 x141 cs144) k ?_ ?_)))
 ·exact ⟨_, m3, (r1.1.Variables), A12, c13, cs14, (r1.1.Relations), A16, c17, cs18, (r1.1.Absences), A20, c21, cs22, (r1.1.Group), A24, c25, cs26, (r1.1.Compute), A28, c29, cs30, (r1.1.Order), A32, c33, cs34, (r1.1.Slots.From), (r1.1.Slots.To), (r1.1.Limit), (r1.2.x_.s_), (r1.2.x_.at_), (r1.2.t_.kind), (r1.2.t_.at_), (r1.2.t_.s_), (r1.2.t_.n_), au, (Nat.le_refl _), h, (Mem.le.refl _), hst, hrc15, hrc19, hrc23, hrc27, hrc31, hrc35⟩
 rintro k237 ih238 _ _ ⟨f0, m239, x116, A117, c118, cs119, x121, A122, c123, cs124, x126, A127, c128, cs129, x131, A132, c133, cs134, x136, A137, c138, cs139, x141, A142, c143, cs144, x146, x147, x148, x149, x150, x151, x152, x153, x154, rfl, hk236, h, hl235, hst, hrc120, hrc125, hrc130, hrc135, hrc140, hrc145⟩
 obtain _ | k241 := k237
 ·simp [parser_list_l1] at h
 rw [parser_list_l1] at h
 refine sq (qr (s0 1 [] ?_))
 have hst := pk11 hst
 rcases xbind_some h with ⟨p246, hq243, rfl⟩ | ⟨r242, hq243, h⟩
 ·have e247 := hl4.trans hl235
  exact cpa (c_parser_takes hq243 hst) (fun _ _ hp => ⟨rfl, _, rfl, hp.p e247 8 [7]⟩)
 refine cal (c_parser_takes hq243 hst) ?_
 rintro _ _ ⟨m244, rfl, hl245, hst⟩
 refine nl (tn (cn h (fun h => ?_) (fun h => ?_)))
 ·refine wp_skip (tn (bk (rg (s0 1 [] ?_))))
  have hst := pk12 hst
  have e252 := hl4.trans (hl235.trans hl245)
  rcases xbind_some h with ⟨p253, hq249, rfl⟩ | ⟨r248, hq249, h⟩
  ·exact cpa (c_parser_query_c1 hq249 hst (RC.mono hl245 hrc120) (RC.mono hl245 hrc125) (RC.mono hl245 hrc130) (RC.mono hl245 hrc135) (RC.mono hl245 hrc140) (RC.mono hl245 hrc145) (Glob.mono e252 hG)) (fun _ _ hp => ⟨rfl, _, rfl, hp.p e252 8 [7]⟩)
  refine cal (c_parser_query_c1 hq249 hst (RC.mono hl245 hrc120) (RC.mono hl245 hrc125) (RC.mono hl245 hrc130) (RC.mono hl245 hrc135) (RC.mono hl245 hrc140) (RC.mono hl245 hrc145) (Glob.mono e252 hG)) ?_
  rintro _ _ ⟨m250, A260, c261, cs262, A264, c265, cs266, A268, c269, cs270, A272, c273, cs274, A276, c277, cs278, A280, c281, cs282, rfl, hl251, hst, hrc263, hrc267, hrc271, hrc275, hrc279, hrc283⟩
  refine nl (bn (tn ?_))
  have e284 := hl235.trans (hl245.trans hl251)
  exact ih238 k241 (by omega) _ _ ⟨_, m250, (r248.1.Variables), A260, c261, cs262, (r248.1.Relations), A264, c265, cs266, (r248.1.Absences), A268, c269, cs270, (r248.1.Group), A272, c273, cs274, (r248.1.Compute), A276, c277, cs278, (r248.1.Order), A280, c281, cs282, (r248.1.Slots.From), (r248.1.Slots.To), (r248.1.Limit), (r248.2.x_.s_), (r248.2.x_.at_), (r248.2.t_.kind), (r248.2.t_.at_), (r248.2.t_.s_), (r248.2.t_.n_), au, (by omega), h, e284, hst, hrc263, hrc267, hrc271, hrc275, hrc279, hrc283⟩
 refine wp_exit (tx (tx (bx (we [] ?_))))
 have e285 := hl4.trans (hl235.trans hl245)
 cases h
 exact ⟨_, rfl, m244, A117, c118, cs119, A122, c123, cs124, A127, c128, cs129, A132, c133, cs134, A137, c138, cs139, A142, c143, cs144, rfl, e285, hst, (RC.mono hl245 hrc120), (RC.mono hl245 hrc125), (RC.mono hl245 hrc130), (RC.mono hl245 hrc135), (RC.mono hl245 hrc140), (RC.mono hl245 hrc145)⟩
abbrev R_slices_Index_string := RInt
theorem c_slices_Index_string {a0 : List Str} {a1 : Str} {r : Int} (h : slices_Index_string k a0 a1 = some r) (hst : St g m (F) w) (hu0 : RS (TStr) m (vs Au0 a0 cu0) a0) :
    Calls Tryz.prog 162 ⟨[vs Au0 a0 cu0, vstr a1]⟩ w (OPost (R_slices_Index_string g m F) r) := by
 refine calls_enter Tryz.func162 rfl rfl ?_
 unfold slices_Index_string at h
 refine qr (s0 1 [vi 0] (nl (tn (sq (qr (s0 3 [vi ((a0).length : Int), vi 0] (nl (tn (bk (wc_loop (fun kk a w => ∃ f0 m26 x11, a = act Tryz.f162.ntmps (upds f0 [(0, vs Au0 a0 cu0), (1, vstr a1), (4, vi 0), (7, vi ((a0).length : Int)), (8, vi x11)]) ∧ kk ≤ k ∧ slices_Index_string_l1 kk a0 a1 x11 = some r ∧ m.le m26 ∧ St g m26 (F) w) k ?_ ?_))))))))))
 ·exact ⟨_, m, (0), au, (Nat.le_refl _), h, (Mem.le.refl _), hst⟩
 rintro k24 ih25 _ _ ⟨f0, m26, x11, rfl, hk23, h, hl22, hst⟩
 obtain _ | k28 := k24
 ·simp [slices_Index_string_l1] at h
 rw [slices_Index_string_l1] at h
 refine qr (s0 1 [vb (decide (x11 < ((a0).length : Int)))] (nl (tn (sq (cn h (fun h => ?_) (fun h => ?_))))))
 ·refine wp_skip (tn (sq (bk (qr (s0 2 [] (nl (tn (qr (s0 3 [] ?_)))))))))
  obtain ⟨x30, hx31, h⟩ := ix h
  obtain ⟨b32, o33, cs34, hR35, hA36, hI37⟩ := RS.ix (P := Tryz.prog) (RS.mono hl22 hu0) hx31
  obtain rfl : cs34 = [vstr x30] := hR35
  refine vl (hI37.r .i64) (sg 1 [vstr x30] _ (hst.f hA36 0 1) (vl (re a1 x30) (nl (tn (cn h (fun h => ?_) (fun h => ?_))))))
  ·refine qr (s0 2 [] (nl (tn (wp_ret (br (tr (tr (br (tr (wr [vi x11] ?_))))))))))
   have h := Option.some.inj h; subst h
   exact ⟨_, rfl, m26, rfl, hl22, hst⟩
  refine wp_skip (bn (tn (rg (s0 2 [vi (w64 (x11 + 1))] (nl (tn ?_))))))
  exact ih25 k28 (by omega) _ _ ⟨_, m26, (w64 (x11 + 1)), au, (by omega), h, hl22, hst⟩
 refine wp_exit (tx (tx (bx (tn (qr (s0 1 [vi (-1)] (nl (tn (wp_ret (wr [vi (-1)] ?_))))))))))
 cases h
 exact ⟨_, rfl, m26, rfl, hl22, hst⟩
abbrev R_slices_Contains_string := RBool
theorem c_slices_Contains_string {a0 : List Str} {a1 : Str} {r : Bool} (h : slices_Contains_string k a0 a1 = some r) (hst : St g m (F) w) (hu0 : RS (TStr) m (vs Au0 a0 cu0) a0) :
    Calls Tryz.prog 161 ⟨[vs Au0 a0 cu0, vstr a1]⟩ w (OPost (R_slices_Contains_string g m F) r) := by
 refine calls_enter Tryz.func161 rfl rfl ?_
 unfold slices_Contains_string at h
 refine qr (s0 1 [vb false] (nl (tn (qr (s0 2 [] ?_)))))
 obtain ⟨r1, hq2, h⟩ := bs h
 refine cal (c_slices_Index_string hq2 hst hu0) ?_
 rintro _ _ ⟨m3, rfl, hl4, hst⟩
 refine s0 2 [vb (decide (r1 ≥ 0))] (nl (tn (wp_ret (wr [vb (decide (r1 ≥ 0))] ?_))))
 cases h
 exact ⟨_, rfl, m3, rfl, hl4, hst⟩
abbrev R_parser_relation_c1 := RBool
theorem c_parser_relation_c1 {a0 : Str} {r : Bool} (h : parser_relation_c1 k a0 = some r) (hst : St g m (F) w) (hG : Glob m) :
    Calls Tryz.prog 176 ⟨[vstr a0]⟩ w (OPost (R_parser_relation_c1 g m F) r) := by
 refine calls_enter Tryz.func176 rfl rfl ?_
 unfold parser_relation_c1 at h
 refine qr (s0 1 [vb false] (nl (tn (qr ?_))))
 obtain ⟨v1, hA2, hv3⟩ := hG.r
 obtain ⟨A4, c5, rfl⟩ := hv3.shape
 refine sg 1 [vs A4 namesR c5] _ (hst.f hA2 0 1) ?_
 obtain ⟨hb6, h⟩ := chk_some h
 obtain ⟨A7, c8, hs9, hI10⟩ := RS.sub (P := Tryz.prog) hv3 hb6
 refine vl (hI10.r .i64) (s0 1 [] ?_)
 obtain ⟨r11, hq12, h⟩ := bs h
 refine cal (c_slices_Contains_string hq12 hst hs9) ?_
 rintro _ _ ⟨m13, rfl, hl14, hst⟩
 refine s0 1 [] (nl (tn (wp_ret (wr [vb r11] ?_))))
 have h := Option.some.inj h; subst h
 exact ⟨_, rfl, m13, rfl, hl14, hst⟩
def R_parser_name_i2 (g : World) (m : Mem) (F : List Asr) (ob0 : Nat) (r : SParser × Str) (v : Value) (w' : World) : Prop := ∃ m', v = vstr r.2 ∧ m.le m' ∧ St g m' (oo ob0 155 (cSParser r.1) :: F) w'
theorem c_parser_name_i2 {a0 : SParser} {r : Except Pan (SParser × Str)} (h : parser_name_i2 k a0 = some r) (hst : St g m (oo ob0 155 (cSParser a0) :: F) w) (hG : Glob m) :
    Calls Tryz.prog 156 ⟨[vp ob0 0, vf 176 [] []]⟩ w (XPost (R_parser_name_i2 g m F ob0) g m F r) := by
 refine calls_enter Tryz.func156 rfl rfl ?_
 unfold parser_name_i2 at h
 refine qr (s0 1 [vstr w_0] (nl (tn (sq (wc_join (fun a w => ∃ f0 k23 m25 x21, a = act Tryz.f156.ntmps (upds f0 [(0, vp ob0 0), (4, vstr w_0), (21, vb x21)]) ∧ k23 ≤ k ∧ parser_name_i2_j1 k23 a0 x21 = some r ∧ m.le m25 ∧ St g m25 (oo ob0 155 (cSParser a0) :: F) w) ?_ ?_)))))
 ·rintro _ _ ⟨f0, k23, m25, x21, rfl, hk24, h, hl22, hst⟩
  unfold parser_name_i2_j1 at h
  refine cn h (fun h => ?_) (fun h => ?_)
  ·refine rg (s0 1 [] ?_)
   rcases xbind_some h with ⟨p30, hq27, rfl⟩ | ⟨r26, hq27, h⟩
   ·exact cpa (c_parser_wrong hq27 hst) (fun _ _ hp => ⟨rfl, _, rfl, hp.p hl22 1 []⟩)
   cases h
  refine wp_skip (tn (qr (sg 6 [vp ob0 0, vp ob0 2, vp ob0 4, vstr a0.t_.s_] _ (hst.q 0 4 1) (nl (tn (qr (s0 1 [] ?_)))))))
  rcases xbind_some h with ⟨p35, hq32, rfl⟩ | ⟨r31, hq32, h⟩
  ·exact cpa (c_parser_advance hq32 hst) (fun _ _ hp => ⟨rfl, _, rfl, hp.p hl22 0 []⟩)
  refine cal (c_parser_advance hq32 hst) ?_
  rintro _ _ ⟨m33, rfl, hl34, hst⟩
  refine nl (tn (qr (s0 2 [] (nl (tn (wp_ret (wr [vstr a0.t_.s_] ?_)))))))
  have e36 := hl22.trans hl34
  cases h
  exact ⟨_, rfl, m33, rfl, e36, hst⟩
 refine rg (sg 7 [vp ob0 0, vp ob0 2, vp ob0 2, vi a0.t_.kind, vb (a0.t_.kind != 1)] _ (hst.q 0 2 1) ?_)
 rcases sp h with ⟨hc37, h⟩ | ⟨hc37, h⟩
 ·rw [hc37]
  refine sk 8 (s0 1 [vb true] (nl (tn ?_)))
  exact ⟨_, k, m, (true), au, (by omega), h, (Mem.le.refl _), hst⟩
 rw [hc37]
 refine sg 6 [vp ob0 0, vp ob0 2, vp ob0 4, vstr a0.t_.s_] _ (hst.q 0 4 1) ?_
 obtain ⟨r38, hq39, h⟩ := bs h
 refine cal (c_parser_relation_c1 hq39 hst hG) ?_
 rintro _ _ ⟨m40, rfl, hl41, hst⟩
 refine s0 2 [vb (!r38), vb (!r38)] (nl (tn ?_))
 exact ⟨_, k, m40, (!r38), au, (by omega), h, hl41, hst⟩
def R_parser_relation (g : World) (m : Mem) (F : List Asr) (ob0 : Nat) (r : SParser × Int) (v : Value) (w' : World) : Prop := ∃ m', v = vi r.2 ∧ m.le m' ∧ St g m' (oo ob0 155 (cSParser r.1) :: F) w'
theorem c_parser_relation {a0 : SParser} {r : Except Pan (SParser × Int)} (h : parser_relation k a0 = some r) (hst : St g m (oo ob0 155 (cSParser a0) :: F) w) (hG : Glob m) :
    Calls Tryz.prog 158 ⟨[vp ob0 0]⟩ w (XPost (R_parser_relation g m F ob0) g m F r) := by
 refine calls_enter Tryz.func158 rfl rfl ?_
 unfold parser_relation at h
 refine qr (s0 1 [vi 0] (nl (tn (qr (s0 1 [] ?_)))))
 rcases xbind_some h with ⟨p5, hq2, rfl⟩ | ⟨r1, hq2, h⟩
 ·exact cpa (c_parser_name_i2 hq2 hst hG) (fun _ _ hp => ⟨rfl, _, rfl, hp.p (Mem.le.refl _) 0 []⟩)
 refine cal (c_parser_name_i2 hq2 hst hG) ?_
 rintro _ _ ⟨m3, rfl, hl4, hst⟩
 refine s0 1 [] (nl (tn (qr ?_)))
 obtain ⟨v6, hA7, hv8⟩ := (Glob.mono hl4 hG).r
 obtain ⟨A9, c10, rfl⟩ := hv8.shape
 refine sg 2 [vs A9 namesR c10] _ (hst.f hA7 0 1) ?_
 obtain ⟨r11, hq12, h⟩ := bs h
 refine cal (c_slices_Index_string hq12 hst hv8) ?_
 rintro _ _ ⟨m13, rfl, hl14, hst⟩
 refine s0 1 [] (nl (tn (wp_ret (wr [vi r11] ?_))))
 have e15 := hl4.trans hl14
 cases h
 exact ⟨_, rfl, m13, rfl, e15, hst⟩
def R_parser_clause (g : World) (m : Mem) (F : List Asr) (ob0 : Nat) (ob1 : Nat) (r : SParser × GQuery) (v : Value) (w' : World) : Prop := ∃ m' A6 c6 cs6 A7 c7 cs7 A8 c8 cs8 A9 c9 cs9 A10 c10 cs10 A11 c11 cs11, v = vt [] ∧ m.le m' ∧ St g m' (oo ob0 155 (cSParser r.1) :: oo ob1 36 (cGQuery r.2 (vs A6 r.2.Variables c6) (vs A7 r.2.Relations c7) (vs A8 r.2.Absences c8) (vs A9 r.2.Group c9) (vs A10 r.2.Compute c10) (vs A11 r.2.Order c11)) :: rw_ 95 8 A6 r.2.Variables c6 cs6 :: rw_ 104 3 A7 r.2.Relations c7 cs7 :: rw_ 106 11 A8 r.2.Absences c8 cs8 :: rw_ 101 3 A9 r.2.Group c9 cs9 :: rw_ 110 6 A10 r.2.Compute c10 cs10 :: rw_ 112 2 A11 r.2.Order c11 cs11 :: F) w' ∧ RC (TGVariable) m' r.2.Variables cs6 ∧ RC (TGRelation) m' r.2.Relations cs7 ∧ RC (TGAbsence) m' r.2.Absences cs8 ∧ RC (TGColumn) m' r.2.Group cs9 ∧ RC (TGAggregate) m' r.2.Compute cs10 ∧ RC (TGOrderKey) m' r.2.Order cs11
theorem c_parser_clause {a0 : SParser} {a1 : GQuery} {r : Except Pan (SParser × GQuery)} {A6_ : Option Addr} {c6_ : Nat} {cs6_ : List Value} {A7_ : Option Addr} {c7_ : Nat} {cs7_ : List Value} {A8_ : Option Addr} {c8_ : Nat} {cs8_ : List Value} {A9_ : Option Addr} {c9_ : Nat} {cs9_ : List Value} {A10_ : Option Addr} {c10_ : Nat} {cs10_ : List Value} {A11_ : Option Addr} {c11_ : Nat} {cs11_ : List Value} (h : parser_clause k a0 a1 = some r) (hst : St g m (oo ob0 155 (cSParser a0) :: oo ob1 36 (cGQuery a1 (vs A6_ a1.Variables c6_) (vs A7_ a1.Relations c7_) (vs A8_ a1.Absences c8_) (vs A9_ a1.Group c9_) (vs A10_ a1.Compute c10_) (vs A11_ a1.Order c11_)) :: rw_ 95 8 A6_ a1.Variables c6_ cs6_ :: rw_ 104 3 A7_ a1.Relations c7_ cs7_ :: rw_ 106 11 A8_ a1.Absences c8_ cs8_ :: rw_ 101 3 A9_ a1.Group c9_ cs9_ :: rw_ 110 6 A10_ a1.Compute c10_ cs10_ :: rw_ 112 2 A11_ a1.Order c11_ cs11_ :: F) w) (hrc6_ : RC (TGVariable) m a1.Variables cs6_) (hrc7_ : RC (TGRelation) m a1.Relations cs7_) (hrc8_ : RC (TGAbsence) m a1.Absences cs8_) (hrc9_ : RC (TGColumn) m a1.Group cs9_) (hrc10_ : RC (TGAggregate) m a1.Compute cs10_) (hrc11_ : RC (TGOrderKey) m a1.Order cs11_) (hG : Glob m) :
    Calls Tryz.prog 110 ⟨[vp ob0 0, vp ob1 0]⟩ w (XPost (R_parser_clause g m F ob0 ob1) g m (oo ob1 36 (cGQuery a1 (vs A6_ a1.Variables c6_) (vs A7_ a1.Relations c7_) (vs A8_ a1.Absences c8_) (vs A9_ a1.Group c9_) (vs A10_ a1.Compute c10_) (vs A11_ a1.Order c11_)) :: rw_ 95 8 A6_ a1.Variables c6_ cs6_ :: rw_ 104 3 A7_ a1.Relations c7_ cs7_ :: rw_ 106 11 A8_ a1.Absences c8_ cs8_ :: rw_ 101 3 A9_ a1.Group c9_ cs9_ :: rw_ 110 6 A10_ a1.Compute c10_ cs10_ :: rw_ 112 2 A11_ a1.Order c11_ cs11_ :: F) r) := by
 refine calls_enter Tryz.func110 rfl rfl ?_
 unfold parser_clause at h
 refine sq (qr (s0 1 [] ?_))
 rcases xbind_some h with ⟨p51, hq48, rfl⟩ | ⟨r47, hq48, h⟩
 ·exact cpa (c_parser_takes hq48 hst) (fun _ _ hp => ⟨rfl, _, rfl, hp.p (Mem.le.refl _) 7 [0, 0, 0, 0, 0, 0, 0]⟩)
 refine cal (c_parser_takes hq48 hst) ?_
 rintro _ _ ⟨m49, rfl, hl50, hst⟩
 refine nl (tn (cn h (fun h => ?_) (fun h => ?_)))
 ·refine qr (s0 1 [] ?_)
  rcases xbind_some h with ⟨p56, hq53, rfl⟩ | ⟨r52, hq53, h⟩
  ·exact cpa (c_parser_variable hq53 hst (Glob.mono hl50 hG)) (fun _ _ hp => ⟨rfl, _, rfl, hp.p hl50 7 [0, 0, 0, 0, 0, 0, 0]⟩)
  refine cal (c_parser_variable hq53 hst (Glob.mono hl50 hG)) ?_
  rintro _ _ ⟨m54, Aq57, cq57, rfl, hl55, hst, hq57⟩
  refine al [vstr w_0, vi 0, vstr w_0, vstr w_0, vi 0, vstr w_0, vi 0, vn] hst (fun b58 _ hst => ?_)
  refine so0 0 (cGVariable r52.2 (vs Aq57 r52.2.Where.Args cq57)) hst (fun _ hst => ?_)
  refine nl (tn (qr (s0 1 [] ?_)))
  have hst := pk1 hst
  have e63 := hl50.trans hl55
  rcases xbind_some h with ⟨p64, hq60, rfl⟩ | ⟨r59, hq60, h⟩
  ·exact cpa (c_parser_relation hq60 hst (Glob.mono e63 hG)) (fun _ _ hp => ⟨rfl, _, rfl, hp.p e63 8 [1, 1, 1, 1, 1, 1, 1]⟩)
  refine cal (c_parser_relation hq60 hst (Glob.mono e63 hG)) ?_
  rintro _ _ ⟨m61, rfl, hl62, hst⟩
  refine s0 1 [] (nl (tn (sq (dr false (fun x => Rd m61 (oo ob1 36 (cGQuery a1 (vs A6_ a1.Variables c6_) (vs A7_ a1.Relations c7_) (vs A8_ a1.Absences c8_) (vs A9_ a1.Group c9_) (vs A10_ a1.Compute c10_) (vs A11_ a1.Order c11_)) :: oo b58 95 (cGVariable r52.2 (vs Aq57 r52.2.Where.Args cq57)) :: []) x) ?_))))
  have hst := hst.drew
  refine gs [0, 1, 5, 6, 7, 2, 3, 4] [va (cGVariable r52.2 (vs Aq57 r52.2.Where.Args cq57)), vp ob1 0, vp ob1 2, vs A8_ a1.Absences c8_] _ 7 (pqt (pqt pqb)) (hst.rd.with_ 2 rfl (hst.rd.with_ 1 rfl (hst.rd.none_))) (fun x hx => (AllC.app (hx.q 1 0 8) (hx.q 0 2 1))) ?_
  refine ge 8 rfl ?_
  have e83 := e63.trans hl62
  rcases xbind_some h with ⟨p84, hq80, rfl⟩ | ⟨r79, hq80, h⟩
  ·exact cpa (c_parser_name hq80 hst (Glob.mono e83 hG)) (fun _ _ hp => ⟨rfl, _, rfl, hp.p e83 8 [1, 1, 1, 1, 1, 1, 1]⟩)
  refine cal (c_parser_name hq80 hst (Glob.mono e83 hG)) ?_
  rintro _ _ ⟨m81, rfl, hl82, hst⟩
  refine gn (Rd.lower hl82 (hst.rd.with_ 2 rfl (hst.rd.with_ 1 rfl (hst.rd.none_)))) (wpG_strong (S2 := fun x => Rd m81 (oo ob1 36 (cGQuery a1 (vs A6_ a1.Variables c6_) (vs A7_ a1.Relations c7_) (vs A8_ a1.Absences c8_) (vs A9_ a1.Group c9_) (vs A10_ a1.Compute c10_) (vs A11_ a1.Order c11_)) :: oo b58 95 (cGVariable r52.2 (vs Aq57 r52.2.Where.Args cq57)) :: []) x) (fun x hx => Rd.lower hl82 hx) ?_)
  refine gs [9] [va [vstr r52.2.Name, vi r52.2.Where.Op, vstr r52.2.Where.Field, vstr r52.2.Where.Key, vi r52.2.Where.Value.Kind, vstr r52.2.Where.Value.Text, vi r52.2.Where.Value.Int, vs Aq57 r52.2.Where.Args cq57, vi r59.2, vstr r79.2, vb true]] [] 5 (pqt (pqt pqb)) (hst.rd.with_ 2 rfl (hst.rd.with_ 1 rfl (hst.rd.none_))) (fun x hx => trivial) ?_
  refine ge 10 rfl (li 106 1 [vstr r52.2.Name, vi r52.2.Where.Op, vstr r52.2.Where.Field, vstr r52.2.Where.Key, vi r52.2.Where.Value.Kind, vstr r52.2.Where.Value.Text, vi r52.2.Where.Value.Int, vs Aq57 r52.2.Where.Args cq57, vi r59.2, vstr r79.2, vb true] hst (fun b85 _ hst => ?_))
  refine gn (hst.rd.with_ 3 rfl (hst.rd.with_ 2 rfl (hst.rd.none_))) (ge 11 rfl ?_)
  obtain ⟨hb86, h⟩ := chk_some h
  have e91 := e83.trans hl82
  have e92 := hl62.trans hl82
  refine ap6 (TGAbsence) (xs := a1.Absences) (ys := [(GAbsence.mk r52.2 r59.2 r79.2 true)]) 144 1 0 hst (RC.mono e91 hrc8_) (RC.k11 (TGAbsence.close_ (GAbsence.mk r52.2 r59.2 r79.2 true) (RS.mono e92 hq57)) (RC.nil _ _)) hb86 (fun A87 c88 cs89 _ hrc90 hst => ?_)
  have hst := pk0 hst
  refine gn (hst.rd.with_ 2 rfl (hst.rd.with_ 1 rfl (hst.rd.none_))) (gs [12, 13] [vp ob1 0, vp ob1 2] [] 1 (pqt (pqt pqb)) (hst.rd.with_ 2 rfl (hst.rd.with_ 1 rfl (hst.rd.none_))) (fun x hx => trivial) ?_)
  refine ge 14 rfl (so2 2 [vs A87 (a1.Absences ++ [(GAbsence.mk r52.2 r59.2 r79.2 true)]) c88] hst (fun _ hst => ?_))
  refine nl (tn (⟨_, fun _ h => h, .inl ⟨rfl, allListed_of _ (by kernel_rfl)⟩, ?_⟩))
  refine gd (tn (wp_ret (tr (wr [] ?_))))
  have hst := pk3 hst
  cases h
  exact ⟨_, rfl, m81, A6_, c6_, cs6_, A7_, c7_, cs7_, A87, c88, cs89, A9_, c9_, cs9_, A10_, c10_, cs10_, A11_, c11_, cs11_, rfl, e91, hst, (RC.mono e91 hrc6_), (RC.mono e91 hrc7_), hrc90, (RC.mono e91 hrc9_), (RC.mono e91 hrc10_), (RC.mono e91 hrc11_)⟩
 refine wp_skip (tn (qr (s0 1 [] ?_)))
 rcases xbind_some h with ⟨p97, hq94, rfl⟩ | ⟨r93, hq94, h⟩
 ·exact cpa (c_parser_name hq94 hst (Glob.mono hl50 hG)) (fun _ _ hp => ⟨rfl, _, rfl, hp.p hl50 7 [0, 0, 0, 0, 0, 0, 0]⟩)
 refine cal (c_parser_name hq94 hst (Glob.mono hl50 hG)) ?_
 rintro _ _ ⟨m95, rfl, hl96, hst⟩
 refine s0 1 [] (nl (tn (qr (s0 1 [] ?_))))
 have e102 := hl50.trans hl96
 rcases xbind_some h with ⟨p103, hq99, rfl⟩ | ⟨r98, hq99, h⟩
 ·exact cpa (c_parser_relation hq99 hst (Glob.mono e102 hG)) (fun _ _ hp => ⟨rfl, _, rfl, hp.p e102 7 [0, 0, 0, 0, 0, 0, 0]⟩)
 refine cal (c_parser_relation hq99 hst (Glob.mono e102 hG)) ?_
 rintro _ _ ⟨m100, rfl, hl101, hst⟩
 refine s0 1 [] (nl (tn (sq (qr (s0 1 [] ?_)))))
 rcases xbind_some h with ⟨p142, hq139, rfl⟩ | ⟨r138, hq139, h⟩
 ·have e143 := e102.trans hl101
  exact cpa (c_parser_takes hq139 hst) (fun _ _ hp => ⟨rfl, _, rfl, hp.p e143 7 [0, 0, 0, 0, 0, 0, 0]⟩)
 refine cal (c_parser_takes hq139 hst) ?_
 rintro _ _ ⟨m140, rfl, hl141, hst⟩
 refine nl (tn (cn h (fun h => ?_) (fun h => ?_)))
 ·refine sq (dr false (fun x => Rd m140 (oo ob1 36 (cGQuery a1 (vs A6_ a1.Variables c6_) (vs A7_ a1.Relations c7_) (vs A8_ a1.Absences c8_) (vs A9_ a1.Group c9_) (vs A10_ a1.Compute c10_) (vs A11_ a1.Order c11_)) :: []) x) ?_)
  have hst := hst.drew
  refine gs [0, 1, 5, 7, 8, 2, 3, 4] [vp ob1 0, vp ob1 2, vs A8_ a1.Absences c8_] _ 7 (pqt (pqt pqb)) (hst.rd.with_ 1 rfl (hst.rd.none_)) (fun x hx => (hx.q 0 2 1)) ?_
  refine ge 6 rfl ?_
  have e162 := e102.trans (hl101.trans hl141)
  rcases xbind_some h with ⟨p163, hq159, rfl⟩ | ⟨r158, hq159, h⟩
  ·exact cpa (c_parser_variable hq159 hst (Glob.mono e162 hG)) (fun _ _ hp => ⟨rfl, _, rfl, hp.p e162 7 [0, 0, 0, 0, 0, 0, 0]⟩)
  refine cal (c_parser_variable hq159 hst (Glob.mono e162 hG)) ?_
  rintro _ _ ⟨m160, Aq164, cq164, rfl, hl161, hst, hq164⟩
  refine gn (Rd.lower hl161 (hst.rd.with_ 1 rfl (hst.rd.none_))) (wpG_strong (S2 := fun x => Rd m160 (oo ob1 36 (cGQuery a1 (vs A6_ a1.Variables c6_) (vs A7_ a1.Relations c7_) (vs A8_ a1.Absences c8_) (vs A9_ a1.Group c9_) (vs A10_ a1.Compute c10_) (vs A11_ a1.Order c11_)) :: []) x) (fun x hx => Rd.lower hl161 hx) ?_)
  refine gs [9] [va [vstr r158.2.Name, vi r158.2.Where.Op, vstr r158.2.Where.Field, vstr r158.2.Where.Key, vi r158.2.Where.Value.Kind, vstr r158.2.Where.Value.Text, vi r158.2.Where.Value.Int, vs Aq164 r158.2.Where.Args cq164, vi r98.2, vstr r93.2, vb false]] [] 5 (pqt (pqt pqb)) (hst.rd.with_ 1 rfl (hst.rd.none_)) (fun x hx => trivial) ?_
  refine ge 10 rfl (li 106 1 [vstr r158.2.Name, vi r158.2.Where.Op, vstr r158.2.Where.Field, vstr r158.2.Where.Key, vi r158.2.Where.Value.Kind, vstr r158.2.Where.Value.Text, vi r158.2.Where.Value.Int, vs Aq164 r158.2.Where.Args cq164, vi r98.2, vstr r93.2, vb false] hst (fun b165 _ hst => ?_))
  refine gn (hst.rd.with_ 2 rfl (hst.rd.none_)) (ge 11 rfl ?_)
  obtain ⟨hb166, h⟩ := chk_some h
  have e171 := e162.trans hl161
  refine ap5 (TGAbsence) (xs := a1.Absences) (ys := [(GAbsence.mk r158.2 r98.2 r93.2 false)]) 144 1 0 hst (RC.mono e171 hrc8_) (RC.k11 (TGAbsence.close_ (GAbsence.mk r158.2 r98.2 r93.2 false) hq164) (RC.nil _ _)) hb166 (fun A167 c168 cs169 _ hrc170 hst => ?_)
  have hst := pk0 hst
  refine gn (hst.rd.with_ 1 rfl (hst.rd.none_)) (gs [12, 13] [vp ob1 0, vp ob1 2] [] 1 (pqt (pqt pqb)) (hst.rd.with_ 1 rfl (hst.rd.none_)) (fun x hx => trivial) ?_)
  refine ge 14 rfl (so1 2 [vs A167 (a1.Absences ++ [(GAbsence.mk r158.2 r98.2 r93.2 false)]) c168] hst (fun _ hst => ?_))
  refine nl (tn (⟨_, fun _ h => h, .inl ⟨rfl, allListed_of _ (by kernel_rfl)⟩, ?_⟩))
  refine gd (tn (wp_ret (tr (wr [] ?_))))
  cases h
  exact ⟨_, rfl, m160, A6_, c6_, cs6_, A7_, c7_, cs7_, A167, c168, cs169, A9_, c9_, cs9_, A10_, c10_, cs10_, A11_, c11_, cs11_, rfl, e171, hst, (RC.mono e171 hrc6_), (RC.mono e171 hrc7_), hrc170, (RC.mono e171 hrc9_), (RC.mono e171 hrc10_), (RC.mono e171 hrc11_)⟩
 refine wp_skip (tn (dr false (fun x => Rd m140 (oo ob1 36 (cGQuery a1 (vs A6_ a1.Variables c6_) (vs A7_ a1.Relations c7_) (vs A8_ a1.Absences c8_) (vs A9_ a1.Group c9_) (vs A10_ a1.Compute c10_) (vs A11_ a1.Order c11_)) :: []) x) ?_))
 have hst := hst.drew
 refine gs [0, 1, 5, 6, 7, 2, 3, 4] [vp ob1 0, vp ob1 1, vs A7_ a1.Relations c7_] _ 7 pqb (hst.rd.with_ 1 rfl (hst.rd.none_)) (fun x hx => (hx.q 0 1 1)) ?_
 refine ge 8 rfl ?_
 have e189 := e102.trans (hl101.trans hl141)
 rcases xbind_some h with ⟨p190, hq186, rfl⟩ | ⟨r185, hq186, h⟩
 ·exact cpa (c_parser_name hq186 hst (Glob.mono e189 hG)) (fun _ _ hp => ⟨rfl, _, rfl, hp.p e189 7 [0, 0, 0, 0, 0, 0, 0]⟩)
 refine cal (c_parser_name hq186 hst (Glob.mono e189 hG)) ?_
 rintro _ _ ⟨m187, rfl, hl188, hst⟩
 refine gn (Rd.lower hl188 (hst.rd.with_ 1 rfl (hst.rd.none_))) (wpG_strong (S2 := fun x => Rd m187 (oo ob1 36 (cGQuery a1 (vs A6_ a1.Variables c6_) (vs A7_ a1.Relations c7_) (vs A8_ a1.Absences c8_) (vs A9_ a1.Group c9_) (vs A10_ a1.Compute c10_) (vs A11_ a1.Order c11_)) :: []) x) (fun x hx => Rd.lower hl188 hx) ?_)
 refine gs [9] [va [vi r98.2, vstr r93.2, vstr r185.2]] [] 5 pqb (hst.rd.with_ 1 rfl (hst.rd.none_)) (fun x hx => trivial) ?_
 refine ge 10 rfl (li 104 1 [vi r98.2, vstr r93.2, vstr r185.2] hst (fun b191 _ hst => ?_))
 refine gn (hst.rd.with_ 2 rfl (hst.rd.none_)) (ge 11 rfl ?_)
 obtain ⟨hb192, h⟩ := chk_some h
 have e197 := e189.trans hl188
 refine ap4 (TGRelation) (xs := a1.Relations) (ys := [(GRelation.mk r98.2 r93.2 r185.2)]) 40 1 0 hst (RC.mono e197 hrc7_) (RC.k3 (TGRelation.close_ (GRelation.mk r98.2 r93.2 r185.2)) (RC.nil _ _)) hb192 (fun A193 c194 cs195 _ hrc196 hst => ?_)
 have hst := pk0 hst
 refine gn (hst.rd.with_ 1 rfl (hst.rd.none_)) (gs [12, 13] [vp ob1 0, vp ob1 1] [] 1 pqb (hst.rd.with_ 1 rfl (hst.rd.none_)) (fun x hx => trivial) ?_)
 refine ge 14 rfl (so1 1 [vs A193 (a1.Relations ++ [(GRelation.mk r98.2 r93.2 r185.2)]) c194] hst (fun _ hst => ?_))
 refine nl (tn (⟨_, fun _ h => h, .inl ⟨rfl, allListed_of _ (by kernel_rfl)⟩, ?_⟩))
 refine gd (we [] ?_)
 cases h
 exact ⟨_, rfl, m187, A6_, c6_, cs6_, A193, c194, cs195, A8_, c8_, cs8_, A9_, c9_, cs9_, A10_, c10_, cs10_, A11_, c11_, cs11_, rfl, e197, hst, (RC.mono e197 hrc6_), hrc196, (RC.mono e197 hrc8_), (RC.mono e197 hrc9_), (RC.mono e197 hrc10_), (RC.mono e197 hrc11_)⟩
def R_parser_query_c2 (g : World) (m : Mem) (F : List Asr) (ob0 : Nat) (ob1 : Nat) (ob2 : Nat) (r : SParser × GQuery) (v : Value) (w' : World) : Prop := ∃ m' A6 c6 cs6 A7 c7 cs7 A8 c8 cs8 A9 c9 cs9 A10 c10 cs10 A11 c11 cs11, v = vt [] ∧ m.le m' ∧ St g m' (oo ob0 86 [vp ob1 0] :: oo ob1 155 (cSParser r.1) :: oo ob2 36 (cGQuery r.2 (vs A6 r.2.Variables c6) (vs A7 r.2.Relations c7) (vs A8 r.2.Absences c8) (vs A9 r.2.Group c9) (vs A10 r.2.Compute c10) (vs A11 r.2.Order c11)) :: rw_ 95 8 A6 r.2.Variables c6 cs6 :: rw_ 104 3 A7 r.2.Relations c7 cs7 :: rw_ 106 11 A8 r.2.Absences c8 cs8 :: rw_ 101 3 A9 r.2.Group c9 cs9 :: rw_ 110 6 A10 r.2.Compute c10 cs10 :: rw_ 112 2 A11 r.2.Order c11 cs11 :: F) w' ∧ RC (TGVariable) m' r.2.Variables cs6 ∧ RC (TGRelation) m' r.2.Relations cs7 ∧ RC (TGAbsence) m' r.2.Absences cs8 ∧ RC (TGColumn) m' r.2.Group cs9 ∧ RC (TGAggregate) m' r.2.Compute cs10 ∧ RC (TGOrderKey) m' r.2.Order cs11
theorem c_parser_query_c2 {a1 : SParser} {a2 : GQuery} {r : Except Pan (SParser × GQuery)} {A6_ : Option Addr} {c6_ : Nat} {cs6_ : List Value} {A7_ : Option Addr} {c7_ : Nat} {cs7_ : List Value} {A8_ : Option Addr} {c8_ : Nat} {cs8_ : List Value} {A9_ : Option Addr} {c9_ : Nat} {cs9_ : List Value} {A10_ : Option Addr} {c10_ : Nat} {cs10_ : List Value} {A11_ : Option Addr} {c11_ : Nat} {cs11_ : List Value} (h : parser_query_c2 k a1 a2 = some r) (hst : St g m (oo ob0 86 [vp ob1 0] :: oo ob1 155 (cSParser a1) :: oo ob2 36 (cGQuery a2 (vs A6_ a2.Variables c6_) (vs A7_ a2.Relations c7_) (vs A8_ a2.Absences c8_) (vs A9_ a2.Group c9_) (vs A10_ a2.Compute c10_) (vs A11_ a2.Order c11_)) :: rw_ 95 8 A6_ a2.Variables c6_ cs6_ :: rw_ 104 3 A7_ a2.Relations c7_ cs7_ :: rw_ 106 11 A8_ a2.Absences c8_ cs8_ :: rw_ 101 3 A9_ a2.Group c9_ cs9_ :: rw_ 110 6 A10_ a2.Compute c10_ cs10_ :: rw_ 112 2 A11_ a2.Order c11_ cs11_ :: F) w) (hrc6_ : RC (TGVariable) m a2.Variables cs6_) (hrc7_ : RC (TGRelation) m a2.Relations cs7_) (hrc8_ : RC (TGAbsence) m a2.Absences cs8_) (hrc9_ : RC (TGColumn) m a2.Group cs9_) (hrc10_ : RC (TGAggregate) m a2.Compute cs10_) (hrc11_ : RC (TGOrderKey) m a2.Order cs11_) (hG : Glob m) :
    Calls Tryz.prog 109 ⟨[vp ob0 0, vp ob2 0]⟩ w (XPost (R_parser_query_c2 g m F ob0 ob1 ob2) g m (oo ob0 86 [vp ob1 0] :: oo ob2 36 (cGQuery a2 (vs A6_ a2.Variables c6_) (vs A7_ a2.Relations c7_) (vs A8_ a2.Absences c8_) (vs A9_ a2.Group c9_) (vs A10_ a2.Compute c10_) (vs A11_ a2.Order c11_)) :: rw_ 95 8 A6_ a2.Variables c6_ cs6_ :: rw_ 104 3 A7_ a2.Relations c7_ cs7_ :: rw_ 106 11 A8_ a2.Absences c8_ cs8_ :: rw_ 101 3 A9_ a2.Group c9_ cs9_ :: rw_ 110 6 A10_ a2.Compute c10_ cs10_ :: rw_ 112 2 A11_ a2.Order c11_ cs11_ :: F) r) := by
 refine calls_enter Tryz.func109 rfl rfl ?_
 unfold parser_query_c2 at h
 refine rg (sg 1 [vp ob1 0] _ (hst.q 0 0 1) ?_)
 have hst := pk12 hst
 rcases xbind_some h with ⟨p5, hq2, rfl⟩ | ⟨r1, hq2, h⟩
 ·exact cpa (c_parser_clause hq2 hst hrc6_ hrc7_ hrc8_ hrc9_ hrc10_ hrc11_ hG) (fun _ _ hp => ⟨rfl, _, rfl, hp.p (Mem.le.refl _) 8 [7, 0, 0, 0, 0, 0, 0, 0]⟩)
 refine cal (c_parser_clause hq2 hst hrc6_ hrc7_ hrc8_ hrc9_ hrc10_ hrc11_ hG) ?_
 rintro _ _ ⟨m3, A12, c13, cs14, A16, c17, cs18, A20, c21, cs22, A24, c25, cs26, A28, c29, cs30, A32, c33, cs34, rfl, hl4, hst, hrc15, hrc19, hrc23, hrc27, hrc31, hrc35⟩
 refine nl (we [] ?_)
 have hst := pk11 hst
 cases h
 exact ⟨_, rfl, m3, A12, c13, cs14, A16, c17, cs18, A20, c21, cs22, A24, c25, cs26, A28, c29, cs30, A32, c33, cs34, rfl, hl4, hst, hrc15, hrc19, hrc23, hrc27, hrc31, hrc35⟩
def R_parser_list_i1 (g : World) (m : Mem) (F : List Asr) (ob0 : Nat) (ob1 : Nat) (ob2 : Nat) (r : SParser × GQuery) (v : Value) (w' : World) : Prop := ∃ m' A6 c6 cs6 A7 c7 cs7 A8 c8 cs8 A9 c9 cs9 A10 c10 cs10 A11 c11 cs11, v = vt [] ∧ m.le m' ∧ St g m' (oo ob0 155 (cSParser r.1) :: oo ob1 86 [vp ob0 0] :: oo ob2 36 (cGQuery r.2 (vs A6 r.2.Variables c6) (vs A7 r.2.Relations c7) (vs A8 r.2.Absences c8) (vs A9 r.2.Group c9) (vs A10 r.2.Compute c10) (vs A11 r.2.Order c11)) :: rw_ 95 8 A6 r.2.Variables c6 cs6 :: rw_ 104 3 A7 r.2.Relations c7 cs7 :: rw_ 106 11 A8 r.2.Absences c8 cs8 :: rw_ 101 3 A9 r.2.Group c9 cs9 :: rw_ 110 6 A10 r.2.Compute c10 cs10 :: rw_ 112 2 A11 r.2.Order c11 cs11 :: F) w' ∧ RC (TGVariable) m' r.2.Variables cs6 ∧ RC (TGRelation) m' r.2.Relations cs7 ∧ RC (TGAbsence) m' r.2.Absences cs8 ∧ RC (TGColumn) m' r.2.Group cs9 ∧ RC (TGAggregate) m' r.2.Compute cs10 ∧ RC (TGOrderKey) m' r.2.Order cs11
theorem c_parser_list_i1 {a0 : SParser} {a2 : GQuery} {r : Except Pan (SParser × GQuery)} {A6_ : Option Addr} {c6_ : Nat} {cs6_ : List Value} {A7_ : Option Addr} {c7_ : Nat} {cs7_ : List Value} {A8_ : Option Addr} {c8_ : Nat} {cs8_ : List Value} {A9_ : Option Addr} {c9_ : Nat} {cs9_ : List Value} {A10_ : Option Addr} {c10_ : Nat} {cs10_ : List Value} {A11_ : Option Addr} {c11_ : Nat} {cs11_ : List Value} (h : parser_list_i1 k a0 a2 = some r) (hst : St g m (oo ob0 155 (cSParser a0) :: oo ob1 86 [vp ob0 0] :: oo ob2 36 (cGQuery a2 (vs A6_ a2.Variables c6_) (vs A7_ a2.Relations c7_) (vs A8_ a2.Absences c8_) (vs A9_ a2.Group c9_) (vs A10_ a2.Compute c10_) (vs A11_ a2.Order c11_)) :: rw_ 95 8 A6_ a2.Variables c6_ cs6_ :: rw_ 104 3 A7_ a2.Relations c7_ cs7_ :: rw_ 106 11 A8_ a2.Absences c8_ cs8_ :: rw_ 101 3 A9_ a2.Group c9_ cs9_ :: rw_ 110 6 A10_ a2.Compute c10_ cs10_ :: rw_ 112 2 A11_ a2.Order c11_ cs11_ :: F) w) (hrc6_ : RC (TGVariable) m a2.Variables cs6_) (hrc7_ : RC (TGRelation) m a2.Relations cs7_) (hrc8_ : RC (TGAbsence) m a2.Absences cs8_) (hrc9_ : RC (TGColumn) m a2.Group cs9_) (hrc10_ : RC (TGAggregate) m a2.Compute cs10_) (hrc11_ : RC (TGOrderKey) m a2.Order cs11_) (hG : Glob m) :
    Calls Tryz.prog 105 ⟨[vp ob0 0, vf 109 [] [vp ob1 0, vp ob2 0]]⟩ w (XPost (R_parser_list_i1 g m F ob0 ob1 ob2) g m (oo ob1 86 [vp ob0 0] :: F) r) := by
 refine calls_enter Tryz.func105 rfl rfl ?_
 unfold parser_list_i1 at h
 refine qr (s0 1 [] ?_)
 have hst := pk1 hst
 rcases xbind_some h with ⟨p5, hq2, rfl⟩ | ⟨r1, hq2, h⟩
 ·exact cpa (c_parser_query_c2 hq2 hst hrc6_ hrc7_ hrc8_ hrc9_ hrc10_ hrc11_ hG) (fun _ _ hp => ⟨rfl, _, rfl, hp.p (Mem.le.refl _) 8 [0]⟩)
 refine cal (c_parser_query_c2 hq2 hst hrc6_ hrc7_ hrc8_ hrc9_ hrc10_ hrc11_ hG) ?_
 rintro _ _ ⟨m3, A12, c13, cs14, A16, c17, cs18, A20, c21, cs22, A24, c25, cs26, A28, c29, cs30, A32, c33, cs34, rfl, hl4, hst, hrc15, hrc19, hrc23, hrc27, hrc31, hrc35⟩
 refine nl (tn (bk (wc_loop (fun kk a w => ∃ f0 m239 x116 A117 c118 cs119 x121 A122 c123 cs124 x126 A127 c128 cs129 x131 A132 c133 cs134 x136 A137 c138 cs139 x141 A142 c143 cs144 x146 x147 x148 x149 x150 x151 x152 x153 x154, a = act Tryz.f105.ntmps (upds f0 [(0, vp ob0 0), (1, vf 109 [] [vp ob1 0, vp ob2 0])]) ∧ kk ≤ k ∧ parser_list_i1_l1 kk x116 x121 x126 x131 x136 x141 x146 x147 x148 x149 x150 x151 x152 x153 x154 = some r ∧ m3.le m239 ∧ St g m239 (oo ob1 86 [vp ob0 0] :: oo ob0 155 [vstr x146, vi x147, vi x148, vi x149, vstr x150, vi x151] :: oo ob2 36 [vs A117 x116 c118, vs A122 x121 c123, vs A127 x126 c128, vi x152, vi x153, vs A132 x131 c133, vs A137 x136 c138, vs A142 x141 c143, vi x154] :: rw_ 95 8 A117 x116 c118 cs119 :: rw_ 104 3 A122 x121 c123 cs124 :: rw_ 106 11 A127 x126 c128 cs129 :: rw_ 101 3 A132 x131 c133 cs134 :: rw_ 110 6 A137 x136 c138 cs139 :: rw_ 112 2 A142 x141 c143 cs144 :: F) w ∧ RC (TGVariable) m239 x116 cs119 ∧ RC (TGRelation) m239 x121 cs124 ∧ RC (TGAbsence) m239 x126 cs129 ∧ RC (TGColumn) m239 x131 cs134 ∧ RC (TGAggregate) m239 x136 cs139 ∧ RC (TGOrderKey) m239 x141 cs144) k ?_ ?_)))
 ·exact ⟨_, m3, (r1.2.Variables), A12, c13, cs14, (r1.2.Relations), A16, c17, cs18, (r1.2.Absences), A20, c21, cs22, (r1.2.Group), A24, c25, cs26, (r1.2.Compute), A28, c29, cs30, (r1.2.Order), A32, c33, cs34, (r1.1.x_.s_), (r1.1.x_.at_), (r1.1.t_.kind), (r1.1.t_.at_), (r1.1.t_.s_), (r1.1.t_.n_), (r1.2.Slots.From), (r1.2.Slots.To), (r1.2.Limit), au, (Nat.le_refl _), h, (Mem.le.refl _), hst, hrc15, hrc19, hrc23, hrc27, hrc31, hrc35⟩
 rintro k237 ih238 _ _ ⟨f0, m239, x116, A117, c118, cs119, x121, A122, c123, cs124, x126, A127, c128, cs129, x131, A132, c133, cs134, x136, A137, c138, cs139, x141, A142, c143, cs144, x146, x147, x148, x149, x150, x151, x152, x153, x154, rfl, hk236, h, hl235, hst, hrc120, hrc125, hrc130, hrc135, hrc140, hrc145⟩
 obtain _ | k241 := k237
 ·simp [parser_list_i1_l1] at h
 rw [parser_list_i1_l1] at h
 refine sq (qr (s0 1 [] ?_))
 have hst := pk1 hst
 rcases xbind_some h with ⟨p246, hq243, rfl⟩ | ⟨r242, hq243, h⟩
 ·have e247 := hl4.trans hl235
  exact cpa (c_parser_takes hq243 hst) (fun _ _ hp => ⟨rfl, _, rfl, hp.p e247 8 [0]⟩)
 refine cal (c_parser_takes hq243 hst) ?_
 rintro _ _ ⟨m244, rfl, hl245, hst⟩
 refine nl (tn (cn h (fun h => ?_) (fun h => ?_)))
 ·refine wp_skip (tn (bk (rg (s0 1 [] ?_))))
  have hst := pk1 hst
  have e252 := hl4.trans (hl235.trans hl245)
  rcases xbind_some h with ⟨p253, hq249, rfl⟩ | ⟨r248, hq249, h⟩
  ·exact cpa (c_parser_query_c2 hq249 hst (RC.mono hl245 hrc120) (RC.mono hl245 hrc125) (RC.mono hl245 hrc130) (RC.mono hl245 hrc135) (RC.mono hl245 hrc140) (RC.mono hl245 hrc145) (Glob.mono e252 hG)) (fun _ _ hp => ⟨rfl, _, rfl, hp.p e252 8 [0]⟩)
  refine cal (c_parser_query_c2 hq249 hst (RC.mono hl245 hrc120) (RC.mono hl245 hrc125) (RC.mono hl245 hrc130) (RC.mono hl245 hrc135) (RC.mono hl245 hrc140) (RC.mono hl245 hrc145) (Glob.mono e252 hG)) ?_
  rintro _ _ ⟨m250, A260, c261, cs262, A264, c265, cs266, A268, c269, cs270, A272, c273, cs274, A276, c277, cs278, A280, c281, cs282, rfl, hl251, hst, hrc263, hrc267, hrc271, hrc275, hrc279, hrc283⟩
  refine nl (bn (tn ?_))
  have e284 := hl235.trans (hl245.trans hl251)
  exact ih238 k241 (by omega) _ _ ⟨_, m250, (r248.2.Variables), A260, c261, cs262, (r248.2.Relations), A264, c265, cs266, (r248.2.Absences), A268, c269, cs270, (r248.2.Group), A272, c273, cs274, (r248.2.Compute), A276, c277, cs278, (r248.2.Order), A280, c281, cs282, (r248.1.x_.s_), (r248.1.x_.at_), (r248.1.t_.kind), (r248.1.t_.at_), (r248.1.t_.s_), (r248.1.t_.n_), (r248.2.Slots.From), (r248.2.Slots.To), (r248.2.Limit), au, (by omega), h, e284, hst, hrc263, hrc267, hrc271, hrc275, hrc279, hrc283⟩
 refine wp_exit (tx (tx (bx (we [] ?_))))
 have e285 := hl4.trans (hl235.trans hl245)
 cases h
 exact ⟨_, rfl, m244, A117, c118, cs119, A122, c123, cs124, A127, c128, cs129, A132, c133, cs134, A137, c138, cs139, A142, c143, cs144, rfl, e285, hst, (RC.mono hl245 hrc120), (RC.mono hl245 hrc125), (RC.mono hl245 hrc130), (RC.mono hl245 hrc135), (RC.mono hl245 hrc140), (RC.mono hl245 hrc145)⟩
def R_parser_column (g : World) (m : Mem) (F : List Asr) (ob0 : Nat) (r : SParser × GColumn) (v : Value) (w' : World) : Prop := ∃ m', v = va (cGColumn r.2) ∧ m.le m' ∧ St g m' (oo ob0 155 (cSParser r.1) :: F) w'
theorem c_parser_column {a0 : SParser} {r : Except Pan (SParser × GColumn)} (h : parser_column k a0 = some r) (hst : St g m (oo ob0 155 (cSParser a0) :: F) w) (hG : Glob m) :
    Calls Tryz.prog 113 ⟨[vp ob0 0]⟩ w (XPost (R_parser_column g m F ob0) g m F r) := by
 refine calls_enter Tryz.func113 rfl rfl ?_
 unfold parser_column at h
 refine qr (al [vstr w_0, vstr w_0, vstr w_0] hst (fun b1 _ hst => ?_))
 refine nl (tn (qr (s0 1 [] ?_)))
 have hst := pk1 hst
 rcases xbind_some h with ⟨p6, hq3, rfl⟩ | ⟨r2, hq3, h⟩
 ·exact cpa (c_parser_name hq3 hst hG) (fun _ _ hp => ⟨rfl, _, rfl, hp.p (Mem.le.refl _) 1 []⟩)
 refine cal (c_parser_name hq3 hst hG) ?_
 rintro _ _ ⟨m4, rfl, hl5, hst⟩
 refine s0 1 [va [vstr r2.2, vstr w_0, vstr w_0]] (al [vstr w_0, vstr w_0, vstr w_0] hst (fun b7 _ hst => ?_))
 refine so0 0 [vstr r2.2, vstr w_0, vstr w_0] hst (fun _ hst => ?_)
 refine nl (tn (qr (s0 1 [] ?_)))
 have hst := pk1 hst
 rcases xbind_some h with ⟨p12, hq9, rfl⟩ | ⟨r8, hq9, h⟩
 ·exact cpa (c_parser_need hq9 hst) (fun _ _ hp => ⟨rfl, _, rfl, hp.p hl5 2 []⟩)
 refine cal (c_parser_need hq9 hst) ?_
 rintro _ _ ⟨m10, rfl, hl11, hst⟩
 refine nl (tn (qr (s0 1 [] ?_)))
 rcases xbind_some h with ⟨p17, hq14, rfl⟩ | ⟨r13, hq14, h⟩
 ·have e18 := hl5.trans hl11
  exact cpa (c_parser_path hq14 hst) (fun _ _ hp => ⟨rfl, _, rfl, hp.p e18 2 []⟩)
 refine cal (c_parser_path hq14 hst) ?_
 rintro _ _ ⟨m15, rfl, hl16, hst⟩
 refine s0 4 [vstr r13.2.1, vstr r13.2.2, vp b7 1] (so1 1 [vstr r13.2.1] hst (fun _ hst => ?_))
 refine s0 1 [vp b7 2] (so1 2 [vstr r13.2.2] hst (fun _ hst => ?_))
 refine nl (tn (qr (sg 1 [va [vstr r2.2, vstr r13.2.1, vstr r13.2.2]] _ (hst.q 1 0 3) (so2 0 [vstr r2.2, vstr r13.2.1, vstr r13.2.2] hst (fun _ hst => ?_)))))
 refine nl (tn (wp_ret (wrr [va [vstr r2.2, vstr r13.2.1, vstr r13.2.2]] _ (hst.q 2 0 3) ?_)))
 have hst := pk6 hst
 have e19 := hl5.trans (hl11.trans hl16)
 cases h
 exact ⟨_, rfl, m15, rfl, e19, hst⟩
def R_parser_query_c3 (g : World) (m : Mem) (F : List Asr) (ob0 : Nat) (ob1 : Nat) (ob2 : Nat) (r : GQuery × SParser) (v : Value) (w' : World) : Prop := ∃ m' A6 c6 cs6 A7 c7 cs7 A8 c8 cs8 A9 c9 cs9 A10 c10 cs10 A11 c11 cs11, v = vt [] ∧ m.le m' ∧ St g m' (oo ob0 36 (cGQuery r.1 (vs A6 r.1.Variables c6) (vs A7 r.1.Relations c7) (vs A8 r.1.Absences c8) (vs A9 r.1.Group c9) (vs A10 r.1.Compute c10) (vs A11 r.1.Order c11)) :: rw_ 95 8 A6 r.1.Variables c6 cs6 :: rw_ 104 3 A7 r.1.Relations c7 cs7 :: rw_ 106 11 A8 r.1.Absences c8 cs8 :: rw_ 101 3 A9 r.1.Group c9 cs9 :: rw_ 110 6 A10 r.1.Compute c10 cs10 :: rw_ 112 2 A11 r.1.Order c11 cs11 :: oo ob1 86 [vp ob2 0] :: oo ob2 155 (cSParser r.2) :: F) w' ∧ RC (TGVariable) m' r.1.Variables cs6 ∧ RC (TGRelation) m' r.1.Relations cs7 ∧ RC (TGAbsence) m' r.1.Absences cs8 ∧ RC (TGColumn) m' r.1.Group cs9 ∧ RC (TGAggregate) m' r.1.Compute cs10 ∧ RC (TGOrderKey) m' r.1.Order cs11
theorem c_parser_query_c3 {a0 : GQuery} {a2 : SParser} {r : Except Pan (GQuery × SParser)} {A6_ : Option Addr} {c6_ : Nat} {cs6_ : List Value} {A7_ : Option Addr} {c7_ : Nat} {cs7_ : List Value} {A8_ : Option Addr} {c8_ : Nat} {cs8_ : List Value} {A9_ : Option Addr} {c9_ : Nat} {cs9_ : List Value} {A10_ : Option Addr} {c10_ : Nat} {cs10_ : List Value} {A11_ : Option Addr} {c11_ : Nat} {cs11_ : List Value} (h : parser_query_c3 k a0 a2 = some r) (hst : St g m (oo ob0 36 (cGQuery a0 (vs A6_ a0.Variables c6_) (vs A7_ a0.Relations c7_) (vs A8_ a0.Absences c8_) (vs A9_ a0.Group c9_) (vs A10_ a0.Compute c10_) (vs A11_ a0.Order c11_)) :: rw_ 95 8 A6_ a0.Variables c6_ cs6_ :: rw_ 104 3 A7_ a0.Relations c7_ cs7_ :: rw_ 106 11 A8_ a0.Absences c8_ cs8_ :: rw_ 101 3 A9_ a0.Group c9_ cs9_ :: rw_ 110 6 A10_ a0.Compute c10_ cs10_ :: rw_ 112 2 A11_ a0.Order c11_ cs11_ :: oo ob1 86 [vp ob2 0] :: oo ob2 155 (cSParser a2) :: F) w) (hrc6_ : RC (TGVariable) m a0.Variables cs6_) (hrc7_ : RC (TGRelation) m a0.Relations cs7_) (hrc8_ : RC (TGAbsence) m a0.Absences cs8_) (hrc9_ : RC (TGColumn) m a0.Group cs9_) (hrc10_ : RC (TGAggregate) m a0.Compute cs10_) (hrc11_ : RC (TGOrderKey) m a0.Order cs11_) (hG : Glob m) :
    Calls Tryz.prog 112 ⟨[vp ob0 0, vp ob1 0]⟩ w (XPost (R_parser_query_c3 g m F ob0 ob1 ob2) g m (oo ob0 36 (cGQuery a0 (vs A6_ a0.Variables c6_) (vs A7_ a0.Relations c7_) (vs A8_ a0.Absences c8_) (vs A9_ a0.Group c9_) (vs A10_ a0.Compute c10_) (vs A11_ a0.Order c11_)) :: rw_ 95 8 A6_ a0.Variables c6_ cs6_ :: rw_ 104 3 A7_ a0.Relations c7_ cs7_ :: rw_ 106 11 A8_ a0.Absences c8_ cs8_ :: rw_ 101 3 A9_ a0.Group c9_ cs9_ :: rw_ 110 6 A10_ a0.Compute c10_ cs10_ :: rw_ 112 2 A11_ a0.Order c11_ cs11_ :: oo ob1 86 [vp ob2 0] :: F) r) := by
 refine calls_enter Tryz.func112 rfl rfl ?_
 unfold parser_query_c3 at h
 refine dr false (fun x => Rd m (oo ob0 36 (cGQuery a0 (vs A6_ a0.Variables c6_) (vs A7_ a0.Relations c7_) (vs A8_ a0.Absences c8_) (vs A9_ a0.Group c9_) (vs A10_ a0.Compute c10_) (vs A11_ a0.Order c11_)) :: oo ob1 86 [vp ob2 0] :: []) x) ?_
 have hst := hst.drew
 refine gs [0, 2, 1] [vp ob0 5, vp ob2 0, vs A9_ a0.Group c9_] _ 5 pqb (hst.rd.with_ 0 rfl (hst.rd.with_ 7 rfl (hst.rd.none_))) (fun x hx => (AllC.app (hx.q 1 0 1) (hx.q 0 5 1))) ?_
 refine ge 3 rfl ?_
 have hst := pk11 hst
 rcases xbind_some h with ⟨p16, hq13, rfl⟩ | ⟨r12, hq13, h⟩
 ·exact cpa (c_parser_column hq13 hst hG) (fun _ _ hp => ⟨rfl, _, rfl, hp.p (Mem.le.refl _) 8 [0, 0, 0, 0, 0, 0, 0, 0]⟩)
 refine cal (c_parser_column hq13 hst hG) ?_
 rintro _ _ ⟨m14, rfl, hl15, hst⟩
 refine gn (Rd.lower hl15 (hst.rd.with_ 1 rfl (hst.rd.with_ 8 rfl (hst.rd.none_)))) (ge 4 rfl (li 101 1 [vstr r12.2.Var, vstr r12.2.Field, vstr r12.2.Key] hst (fun b17 _ hst => ?_)))
 refine gn (Rd.lower hl15 (hst.rd.with_ 2 rfl (hst.rd.with_ 9 rfl (hst.rd.none_)))) (ge 5 rfl ?_)
 obtain ⟨hb18, h⟩ := chk_some h
 refine ap6 (TGColumn) (xs := a0.Group) (ys := [r12.2]) 48 1 0 hst (RC.mono hl15 hrc9_) (RC.k3 (TGColumn.close_ r12.2) (RC.nil _ _)) hb18 (fun A19 c20 cs21 _ hrc22 hst => ?_)
 have hst := pk0 hst
 refine gn (Rd.lower hl15 (hst.rd.with_ 1 rfl (hst.rd.with_ 8 rfl (hst.rd.none_)))) (wpG_strong (S2 := fun x => Rd m14 (oo ob0 36 (cGQuery a0 (vs A6_ a0.Variables c6_) (vs A7_ a0.Relations c7_) (vs A8_ a0.Absences c8_) (vs A9_ a0.Group c9_) (vs A10_ a0.Compute c10_) (vs A11_ a0.Order c11_)) :: oo ob1 86 [vp ob2 0] :: []) x) (fun x hx => Rd.lower hl15 hx) ?_)
 refine gs [6] [vp ob0 5] [] 1 pqb (hst.rd.with_ 1 rfl (hst.rd.with_ 8 rfl (hst.rd.none_))) (fun x hx => trivial) ?_
 refine ge 7 rfl (so1 5 [vs A19 (a0.Group ++ [r12.2]) c20] hst (fun _ hst => ?_))
 refine nl (tn (⟨_, fun _ h => h, .inl ⟨rfl, allListed_of _ (by kernel_rfl)⟩, ?_⟩))
 refine gd (we [] ?_)
 have hst := pk12 hst
 cases h
 exact ⟨_, rfl, m14, A6_, c6_, cs6_, A7_, c7_, cs7_, A8_, c8_, cs8_, A19, c20, cs21, A10_, c10_, cs10_, A11_, c11_, cs11_, rfl, hl15, hst, (RC.mono hl15 hrc6_), (RC.mono hl15 hrc7_), (RC.mono hl15 hrc8_), hrc22, (RC.mono hl15 hrc10_), (RC.mono hl15 hrc11_)⟩
def R_parser_list_i2 (g : World) (m : Mem) (F : List Asr) (ob0 : Nat) (ob1 : Nat) (ob2 : Nat) (r : SParser × GQuery) (v : Value) (w' : World) : Prop := ∃ m' A6 c6 cs6 A7 c7 cs7 A8 c8 cs8 A9 c9 cs9 A10 c10 cs10 A11 c11 cs11, v = vt [] ∧ m.le m' ∧ St g m' (oo ob0 155 (cSParser r.1) :: oo ob1 36 (cGQuery r.2 (vs A6 r.2.Variables c6) (vs A7 r.2.Relations c7) (vs A8 r.2.Absences c8) (vs A9 r.2.Group c9) (vs A10 r.2.Compute c10) (vs A11 r.2.Order c11)) :: rw_ 95 8 A6 r.2.Variables c6 cs6 :: rw_ 104 3 A7 r.2.Relations c7 cs7 :: rw_ 106 11 A8 r.2.Absences c8 cs8 :: rw_ 101 3 A9 r.2.Group c9 cs9 :: rw_ 110 6 A10 r.2.Compute c10 cs10 :: rw_ 112 2 A11 r.2.Order c11 cs11 :: oo ob2 86 [vp ob0 0] :: F) w' ∧ RC (TGVariable) m' r.2.Variables cs6 ∧ RC (TGRelation) m' r.2.Relations cs7 ∧ RC (TGAbsence) m' r.2.Absences cs8 ∧ RC (TGColumn) m' r.2.Group cs9 ∧ RC (TGAggregate) m' r.2.Compute cs10 ∧ RC (TGOrderKey) m' r.2.Order cs11
theorem c_parser_list_i2 {a0 : SParser} {a1 : GQuery} {r : Except Pan (SParser × GQuery)} {A6_ : Option Addr} {c6_ : Nat} {cs6_ : List Value} {A7_ : Option Addr} {c7_ : Nat} {cs7_ : List Value} {A8_ : Option Addr} {c8_ : Nat} {cs8_ : List Value} {A9_ : Option Addr} {c9_ : Nat} {cs9_ : List Value} {A10_ : Option Addr} {c10_ : Nat} {cs10_ : List Value} {A11_ : Option Addr} {c11_ : Nat} {cs11_ : List Value} (h : parser_list_i2 k a0 a1 = some r) (hst : St g m (oo ob0 155 (cSParser a0) :: oo ob1 36 (cGQuery a1 (vs A6_ a1.Variables c6_) (vs A7_ a1.Relations c7_) (vs A8_ a1.Absences c8_) (vs A9_ a1.Group c9_) (vs A10_ a1.Compute c10_) (vs A11_ a1.Order c11_)) :: rw_ 95 8 A6_ a1.Variables c6_ cs6_ :: rw_ 104 3 A7_ a1.Relations c7_ cs7_ :: rw_ 106 11 A8_ a1.Absences c8_ cs8_ :: rw_ 101 3 A9_ a1.Group c9_ cs9_ :: rw_ 110 6 A10_ a1.Compute c10_ cs10_ :: rw_ 112 2 A11_ a1.Order c11_ cs11_ :: oo ob2 86 [vp ob0 0] :: F) w) (hrc6_ : RC (TGVariable) m a1.Variables cs6_) (hrc7_ : RC (TGRelation) m a1.Relations cs7_) (hrc8_ : RC (TGAbsence) m a1.Absences cs8_) (hrc9_ : RC (TGColumn) m a1.Group cs9_) (hrc10_ : RC (TGAggregate) m a1.Compute cs10_) (hrc11_ : RC (TGOrderKey) m a1.Order cs11_) (hG : Glob m) :
    Calls Tryz.prog 105 ⟨[vp ob0 0, vf 112 [] [vp ob1 0, vp ob2 0]]⟩ w (XPost (R_parser_list_i2 g m F ob0 ob1 ob2) g m (oo ob2 86 [vp ob0 0] :: F) r) := by
 refine calls_enter Tryz.func105 rfl rfl ?_
 unfold parser_list_i2 at h
 refine qr (s0 1 [] ?_)
 have hst := pk12 hst
 rcases xbind_some h with ⟨p5, hq2, rfl⟩ | ⟨r1, hq2, h⟩
 ·exact cpa (c_parser_query_c3 hq2 hst hrc6_ hrc7_ hrc8_ hrc9_ hrc10_ hrc11_ hG) (fun _ _ hp => ⟨rfl, _, rfl, hp.p (Mem.le.refl _) 8 [7]⟩)
 refine cal (c_parser_query_c3 hq2 hst hrc6_ hrc7_ hrc8_ hrc9_ hrc10_ hrc11_ hG) ?_
 rintro _ _ ⟨m3, A12, c13, cs14, A16, c17, cs18, A20, c21, cs22, A24, c25, cs26, A28, c29, cs30, A32, c33, cs34, rfl, hl4, hst, hrc15, hrc19, hrc23, hrc27, hrc31, hrc35⟩
 refine nl (tn (bk (wc_loop (fun kk a w => ∃ f0 m239 x116 A117 c118 cs119 x121 A122 c123 cs124 x126 A127 c128 cs129 x131 A132 c133 cs134 x136 A137 c138 cs139 x141 A142 c143 cs144 x146 x147 x148 x149 x150 x151 x152 x153 x154, a = act Tryz.f105.ntmps (upds f0 [(0, vp ob0 0), (1, vf 112 [] [vp ob1 0, vp ob2 0])]) ∧ kk ≤ k ∧ parser_list_i2_l1 kk x116 x121 x126 x131 x136 x141 x146 x147 x148 x149 x150 x151 x152 x153 x154 = some r ∧ m3.le m239 ∧ St g m239 (oo ob1 36 [vs A117 x116 c118, vs A122 x121 c123, vs A127 x126 c128, vi x146, vi x147, vs A132 x131 c133, vs A137 x136 c138, vs A142 x141 c143, vi x148] :: rw_ 95 8 A117 x116 c118 cs119 :: rw_ 104 3 A122 x121 c123 cs124 :: rw_ 106 11 A127 x126 c128 cs129 :: rw_ 101 3 A132 x131 c133 cs134 :: rw_ 110 6 A137 x136 c138 cs139 :: rw_ 112 2 A142 x141 c143 cs144 :: oo ob2 86 [vp ob0 0] :: oo ob0 155 [vstr x149, vi x150, vi x151, vi x152, vstr x153, vi x154] :: F) w ∧ RC (TGVariable) m239 x116 cs119 ∧ RC (TGRelation) m239 x121 cs124 ∧ RC (TGAbsence) m239 x126 cs129 ∧ RC (TGColumn) m239 x131 cs134 ∧ RC (TGAggregate) m239 x136 cs139 ∧ RC (TGOrderKey) m239 x141 cs144) k ?_ ?_)))
 ·exact ⟨_, m3, (r1.1.Variables), A12, c13, cs14, (r1.1.Relations), A16, c17, cs18, (r1.1.Absences), A20, c21, cs22, (r1.1.Group), A24, c25, cs26, (r1.1.Compute), A28, c29, cs30, (r1.1.Order), A32, c33, cs34, (r1.1.Slots.From), (r1.1.Slots.To), (r1.1.Limit), (r1.2.x_.s_), (r1.2.x_.at_), (r1.2.t_.kind), (r1.2.t_.at_), (r1.2.t_.s_), (r1.2.t_.n_), au, (Nat.le_refl _), h, (Mem.le.refl _), hst, hrc15, hrc19, hrc23, hrc27, hrc31, hrc35⟩
 rintro k237 ih238 _ _ ⟨f0, m239, x116, A117, c118, cs119, x121, A122, c123, cs124, x126, A127, c128, cs129, x131, A132, c133, cs134, x136, A137, c138, cs139, x141, A142, c143, cs144, x146, x147, x148, x149, x150, x151, x152, x153, x154, rfl, hk236, h, hl235, hst, hrc120, hrc125, hrc130, hrc135, hrc140, hrc145⟩
 obtain _ | k241 := k237
 ·simp [parser_list_i2_l1] at h
 rw [parser_list_i2_l1] at h
 refine sq (qr (s0 1 [] ?_))
 have hst := pk11 hst
 rcases xbind_some h with ⟨p246, hq243, rfl⟩ | ⟨r242, hq243, h⟩
 ·have e247 := hl4.trans hl235
  exact cpa (c_parser_takes hq243 hst) (fun _ _ hp => ⟨rfl, _, rfl, hp.p e247 8 [7]⟩)
 refine cal (c_parser_takes hq243 hst) ?_
 rintro _ _ ⟨m244, rfl, hl245, hst⟩
 refine nl (tn (cn h (fun h => ?_) (fun h => ?_)))
 ·refine wp_skip (tn (bk (rg (s0 1 [] ?_))))
  have hst := pk12 hst
  have e252 := hl4.trans (hl235.trans hl245)
  rcases xbind_some h with ⟨p253, hq249, rfl⟩ | ⟨r248, hq249, h⟩
  ·exact cpa (c_parser_query_c3 hq249 hst (RC.mono hl245 hrc120) (RC.mono hl245 hrc125) (RC.mono hl245 hrc130) (RC.mono hl245 hrc135) (RC.mono hl245 hrc140) (RC.mono hl245 hrc145) (Glob.mono e252 hG)) (fun _ _ hp => ⟨rfl, _, rfl, hp.p e252 8 [7]⟩)
  refine cal (c_parser_query_c3 hq249 hst (RC.mono hl245 hrc120) (RC.mono hl245 hrc125) (RC.mono hl245 hrc130) (RC.mono hl245 hrc135) (RC.mono hl245 hrc140) (RC.mono hl245 hrc145) (Glob.mono e252 hG)) ?_
  rintro _ _ ⟨m250, A260, c261, cs262, A264, c265, cs266, A268, c269, cs270, A272, c273, cs274, A276, c277, cs278, A280, c281, cs282, rfl, hl251, hst, hrc263, hrc267, hrc271, hrc275, hrc279, hrc283⟩
  refine nl (bn (tn ?_))
  have e284 := hl235.trans (hl245.trans hl251)
  exact ih238 k241 (by omega) _ _ ⟨_, m250, (r248.1.Variables), A260, c261, cs262, (r248.1.Relations), A264, c265, cs266, (r248.1.Absences), A268, c269, cs270, (r248.1.Group), A272, c273, cs274, (r248.1.Compute), A276, c277, cs278, (r248.1.Order), A280, c281, cs282, (r248.1.Slots.From), (r248.1.Slots.To), (r248.1.Limit), (r248.2.x_.s_), (r248.2.x_.at_), (r248.2.t_.kind), (r248.2.t_.at_), (r248.2.t_.s_), (r248.2.t_.n_), au, (by omega), h, e284, hst, hrc263, hrc267, hrc271, hrc275, hrc279, hrc283⟩
 refine wp_exit (tx (tx (bx (we [] ?_))))
 have e285 := hl4.trans (hl235.trans hl245)
 cases h
 exact ⟨_, rfl, m244, A117, c118, cs119, A122, c123, cs124, A127, c128, cs129, A132, c133, cs134, A137, c138, cs139, A142, c143, cs144, rfl, e285, hst, (RC.mono hl245 hrc120), (RC.mono hl245 hrc125), (RC.mono hl245 hrc130), (RC.mono hl245 hrc135), (RC.mono hl245 hrc140), (RC.mono hl245 hrc145)⟩
abbrev R_parser_aggregate_c1 := RBool
theorem c_parser_aggregate_c1 {a0 : Str} {r : Bool} (h : parser_aggregate_c1 k a0 = some r) (hst : St g m (F) w) (hG : Glob m) :
    Calls Tryz.prog 160 ⟨[vstr a0]⟩ w (OPost (R_parser_aggregate_c1 g m F) r) := by
 refine calls_enter Tryz.func160 rfl rfl ?_
 unfold parser_aggregate_c1 at h
 refine qr (s0 1 [vb false] (nl (tn (qr ?_))))
 obtain ⟨v1, hA2, hv3⟩ := hG.a
 obtain ⟨A4, c5, rfl⟩ := hv3.shape
 refine sg 1 [vs A4 namesA c5] _ (hst.f hA2 0 1) ?_
 obtain ⟨hb6, h⟩ := chk_some h
 obtain ⟨A7, c8, hs9, hI10⟩ := RS.sub (P := Tryz.prog) hv3 hb6
 refine vl (hI10.r .i64) (s0 1 [] ?_)
 obtain ⟨r11, hq12, h⟩ := bs h
 refine cal (c_slices_Contains_string hq12 hst hs9) ?_
 rintro _ _ ⟨m13, rfl, hl14, hst⟩
 refine s0 1 [] (nl (tn (wp_ret (wr [vb r11] ?_))))
 have h := Option.some.inj h; subst h
 exact ⟨_, rfl, m13, rfl, hl14, hst⟩
def R_parser_name_i3 (g : World) (m : Mem) (F : List Asr) (ob0 : Nat) (r : SParser × Str) (v : Value) (w' : World) : Prop := ∃ m', v = vstr r.2 ∧ m.le m' ∧ St g m' (oo ob0 155 (cSParser r.1) :: F) w'
theorem c_parser_name_i3 {a0 : SParser} {r : Except Pan (SParser × Str)} (h : parser_name_i3 k a0 = some r) (hst : St g m (oo ob0 155 (cSParser a0) :: F) w) (hG : Glob m) :
    Calls Tryz.prog 156 ⟨[vp ob0 0, vf 160 [] []]⟩ w (XPost (R_parser_name_i3 g m F ob0) g m F r) := by
 refine calls_enter Tryz.func156 rfl rfl ?_
 unfold parser_name_i3 at h
 refine qr (s0 1 [vstr w_0] (nl (tn (sq (wc_join (fun a w => ∃ f0 k23 m25 x21, a = act Tryz.f156.ntmps (upds f0 [(0, vp ob0 0), (4, vstr w_0), (21, vb x21)]) ∧ k23 ≤ k ∧ parser_name_i3_j1 k23 a0 x21 = some r ∧ m.le m25 ∧ St g m25 (oo ob0 155 (cSParser a0) :: F) w) ?_ ?_)))))
 ·rintro _ _ ⟨f0, k23, m25, x21, rfl, hk24, h, hl22, hst⟩
  unfold parser_name_i3_j1 at h
  refine cn h (fun h => ?_) (fun h => ?_)
  ·refine rg (s0 1 [] ?_)
   rcases xbind_some h with ⟨p30, hq27, rfl⟩ | ⟨r26, hq27, h⟩
   ·exact cpa (c_parser_wrong hq27 hst) (fun _ _ hp => ⟨rfl, _, rfl, hp.p hl22 1 []⟩)
   cases h
  refine wp_skip (tn (qr (sg 6 [vp ob0 0, vp ob0 2, vp ob0 4, vstr a0.t_.s_] _ (hst.q 0 4 1) (nl (tn (qr (s0 1 [] ?_)))))))
  rcases xbind_some h with ⟨p35, hq32, rfl⟩ | ⟨r31, hq32, h⟩
  ·exact cpa (c_parser_advance hq32 hst) (fun _ _ hp => ⟨rfl, _, rfl, hp.p hl22 0 []⟩)
  refine cal (c_parser_advance hq32 hst) ?_
  rintro _ _ ⟨m33, rfl, hl34, hst⟩
  refine nl (tn (qr (s0 2 [] (nl (tn (wp_ret (wr [vstr a0.t_.s_] ?_)))))))
  have e36 := hl22.trans hl34
  cases h
  exact ⟨_, rfl, m33, rfl, e36, hst⟩
 refine rg (sg 7 [vp ob0 0, vp ob0 2, vp ob0 2, vi a0.t_.kind, vb (a0.t_.kind != 1)] _ (hst.q 0 2 1) ?_)
 rcases sp h with ⟨hc37, h⟩ | ⟨hc37, h⟩
 ·rw [hc37]
  refine sk 8 (s0 1 [vb true] (nl (tn ?_)))
  exact ⟨_, k, m, (true), au, (by omega), h, (Mem.le.refl _), hst⟩
 rw [hc37]
 refine sg 6 [vp ob0 0, vp ob0 2, vp ob0 4, vstr a0.t_.s_] _ (hst.q 0 4 1) ?_
 obtain ⟨r38, hq39, h⟩ := bs h
 refine cal (c_parser_aggregate_c1 hq39 hst hG) ?_
 rintro _ _ ⟨m40, rfl, hl41, hst⟩
 refine s0 2 [vb (!r38), vb (!r38)] (nl (tn ?_))
 exact ⟨_, k, m40, (!r38), au, (by omega), h, hl41, hst⟩
def R_parser_aggregate (g : World) (m : Mem) (F : List Asr) (ob0 : Nat) (r : SParser × GAggregate) (v : Value) (w' : World) : Prop := ∃ m', v = va (cGAggregate r.2) ∧ m.le m' ∧ St g m' (oo ob0 155 (cSParser r.1) :: F) w'
theorem c_parser_aggregate {a0 : SParser} {r : Except Pan (SParser × GAggregate)} (h : parser_aggregate k a0 = some r) (hst : St g m (oo ob0 155 (cSParser a0) :: F) w) (hG : Glob m) :
    Calls Tryz.prog 115 ⟨[vp ob0 0]⟩ w (XPost (R_parser_aggregate g m F ob0) g m F r) := by
 refine calls_enter Tryz.func115 rfl rfl ?_
 unfold parser_aggregate at h
 refine qr (al [vi 0, vstr w_0, vstr w_0, vstr w_0, vi 0, vi 0] hst (fun b1 _ hst => ?_))
 refine nl (tn (qr (s0 1 [] ?_)))
 have hst := pk1 hst
 rcases xbind_some h with ⟨p6, hq3, rfl⟩ | ⟨r2, hq3, h⟩
 ·exact cpa (c_parser_name_i3 hq3 hst hG) (fun _ _ hp => ⟨rfl, _, rfl, hp.p (Mem.le.refl _) 1 []⟩)
 refine cal (c_parser_name_i3 hq3 hst hG) ?_
 rintro _ _ ⟨m4, rfl, hl5, hst⟩
 refine s0 1 [] (nl (tn (qr ?_)))
 obtain ⟨v7, hA8, hv9⟩ := (Glob.mono hl5 hG).a
 obtain ⟨A10, c11, rfl⟩ := hv9.shape
 refine sg 2 [vs A10 namesA c11] _ (hst.f hA8 0 1) ?_
 obtain ⟨r12, hq13, h⟩ := bs h
 refine cal (c_slices_Index_string hq13 hst hv9) ?_
 rintro _ _ ⟨m14, rfl, hl15, hst⟩
 refine s0 1 [va [vi r12, vstr w_0, vstr w_0, vstr w_0, vi 0, vi 0]] (al [vi 0, vstr w_0, vstr w_0, vstr w_0, vi 0, vi 0] hst (fun b16 _ hst => ?_))
 refine so0 0 [vi r12, vstr w_0, vstr w_0, vstr w_0, vi 0, vi 0] hst (fun _ hst => ?_)
 refine nl (tn (sq (qr (sg 3 [vp b16 0, vi r12, vb (decide (r12 ≤ 3))] _ (hst.q 0 0 1) (nl (tn (cn h (fun h => ?_) (fun h => ?_))))))))
 ·refine qr (sg 1 [va [vi r12, vstr w_0, vstr w_0, vstr w_0, vi 0, vi 0]] _ (hst.q 0 0 6) (so2 0 [vi r12, vstr w_0, vstr w_0, vstr w_0, vi 0, vi 0] hst (fun _ hst => ?_)))
  refine nl (tn (wp_ret (tr (wrr [va [vi r12, vstr w_0, vstr w_0, vstr w_0, vi 0, vi 0]] _ (hst.q 2 0 6) ?_))))
  have hst := pk15 hst
  have e17 := hl5.trans hl15
  cases h
  exact ⟨_, rfl, m14, rfl, e17, hst⟩
 refine wp_skip (tn (qr (s0 1 [] ?_)))
 have hst := pk1 hst
 rcases xbind_some h with ⟨p22, hq19, rfl⟩ | ⟨r18, hq19, h⟩
 ·have e23 := hl5.trans hl15
  exact cpa (c_parser_need hq19 hst) (fun _ _ hp => ⟨rfl, _, rfl, hp.p e23 2 []⟩)
 refine cal (c_parser_need hq19 hst) ?_
 rintro _ _ ⟨m20, rfl, hl21, hst⟩
 refine nl (tn (sq (qr (sg 3 [vp b16 0, vi r12, vb (r12 == 7)] _ (hst.q 1 0 1) (nl (tn (cn h (fun h => ?_) (fun h => ?_))))))))
 ·refine qr (s0 1 [] ?_)
  rcases xbind_some h with ⟨p28, hq25, rfl⟩ | ⟨r24, hq25, h⟩
  ·have e29 := hl5.trans (hl15.trans hl21)
   exact cpa (c_parser_int hq25 hst) (fun _ _ hp => ⟨rfl, _, rfl, hp.p e29 2 []⟩)
  refine cal (c_parser_int hq25 hst) ?_
  rintro _ _ ⟨m26, rfl, hl27, hst⟩
  refine s0 2 [vp b16 4, vp b16 4] (so1 4 [vi r24.2] hst (fun _ hst => ?_))
  refine nl (tn (qr (s0 1 [] ?_)))
  rcases xbind_some h with ⟨p34, hq31, rfl⟩ | ⟨r30, hq31, h⟩
  ·have e35 := hl5.trans (hl15.trans (hl21.trans hl27))
   exact cpa (c_parser_need hq31 hst) (fun _ _ hp => ⟨rfl, _, rfl, hp.p e35 2 []⟩)
  refine cal (c_parser_need hq31 hst) ?_
  rintro _ _ ⟨m32, rfl, hl33, hst⟩
  refine nl (tn (qr (s0 1 [] ?_)))
  rcases xbind_some h with ⟨p40, hq37, rfl⟩ | ⟨r36, hq37, h⟩
  ·have e41 := hl5.trans (hl15.trans (hl21.trans (hl27.trans hl33)))
   exact cpa (c_parser_int hq37 hst) (fun _ _ hp => ⟨rfl, _, rfl, hp.p e41 2 []⟩)
  refine cal (c_parser_int hq37 hst) ?_
  rintro _ _ ⟨m38, rfl, hl39, hst⟩
  refine s0 2 [vp b16 4, vp b16 5] (so1 5 [vi r36.2] hst (fun _ hst => ?_))
  refine nl (tn (rg (s0 1 [] ?_)))
  rcases xbind_some h with ⟨p46, hq43, rfl⟩ | ⟨r42, hq43, h⟩
  ·have e47 := hl5.trans (hl15.trans (hl21.trans (hl27.trans (hl33.trans hl39))))
   exact cpa (c_parser_need hq43 hst) (fun _ _ hp => ⟨rfl, _, rfl, hp.p e47 2 []⟩)
  refine cal (c_parser_need hq43 hst) ?_
  rintro _ _ ⟨m44, rfl, hl45, hst⟩
  refine nl (tn (qr (s0 1 [] ?_)))
  have e52 := hl5.trans (hl15.trans (hl21.trans (hl27.trans (hl33.trans (hl39.trans hl45)))))
  rcases xbind_some h with ⟨p53, hq49, rfl⟩ | ⟨r48, hq49, h⟩
  ·exact cpa (c_parser_column hq49 hst (Glob.mono e52 hG)) (fun _ _ hp => ⟨rfl, _, rfl, hp.p e52 2 []⟩)
  refine cal (c_parser_column hq49 hst (Glob.mono e52 hG)) ?_
  rintro _ _ ⟨m50, rfl, hl51, hst⟩
  refine s0 1 [vp b16 1] (so1 1 (cGColumn r48.2) hst (fun _ hst => ?_))
  refine nl (tn (qr (s0 1 [] ?_)))
  rcases xbind_some h with ⟨p58, hq55, rfl⟩ | ⟨r54, hq55, h⟩
  ·have e59 := e52.trans hl51
   exact cpa (c_parser_need hq55 hst) (fun _ _ hp => ⟨rfl, _, rfl, hp.p e59 2 []⟩)
  refine cal (c_parser_need hq55 hst) ?_
  rintro _ _ ⟨m56, rfl, hl57, hst⟩
  refine nl (tn (qr (sg 1 [va [vi r12, vstr r48.2.Var, vstr r48.2.Field, vstr r48.2.Key, vi r24.2, vi r36.2]] _ (hst.q 1 0 6) (so2 0 [vi r12, vstr r48.2.Var, vstr r48.2.Field, vstr r48.2.Key, vi r24.2, vi r36.2] hst (fun _ hst => ?_)))))
  refine nl (tn (wp_ret (wrr [va [vi r12, vstr r48.2.Var, vstr r48.2.Field, vstr r48.2.Key, vi r24.2, vi r36.2]] _ (hst.q 2 0 6) ?_)))
  have hst := pk6 hst
  have e60 := e52.trans (hl51.trans hl57)
  cases h
  exact ⟨_, rfl, m56, rfl, e60, hst⟩
 refine wp_skip (tn (qr (s0 1 [] ?_)))
 have e65 := hl5.trans (hl15.trans hl21)
 rcases xbind_some h with ⟨p66, hq62, rfl⟩ | ⟨r61, hq62, h⟩
 ·exact cpa (c_parser_column hq62 hst (Glob.mono e65 hG)) (fun _ _ hp => ⟨rfl, _, rfl, hp.p e65 2 []⟩)
 refine cal (c_parser_column hq62 hst (Glob.mono e65 hG)) ?_
 rintro _ _ ⟨m63, rfl, hl64, hst⟩
 refine s0 1 [vp b16 1] (so1 1 (cGColumn r61.2) hst (fun _ hst => ?_))
 refine nl (tn (qr (s0 1 [] ?_)))
 rcases xbind_some h with ⟨p71, hq68, rfl⟩ | ⟨r67, hq68, h⟩
 ·have e72 := e65.trans hl64
  exact cpa (c_parser_need hq68 hst) (fun _ _ hp => ⟨rfl, _, rfl, hp.p e72 2 []⟩)
 refine cal (c_parser_need hq68 hst) ?_
 rintro _ _ ⟨m69, rfl, hl70, hst⟩
 refine nl (tn (qr (sg 1 [va [vi r12, vstr r61.2.Var, vstr r61.2.Field, vstr r61.2.Key, vi 0, vi 0]] _ (hst.q 1 0 6) (so2 0 [vi r12, vstr r61.2.Var, vstr r61.2.Field, vstr r61.2.Key, vi 0, vi 0] hst (fun _ hst => ?_)))))
 refine nl (tn (wp_ret (wrr [va [vi r12, vstr r61.2.Var, vstr r61.2.Field, vstr r61.2.Key, vi 0, vi 0]] _ (hst.q 2 0 6) ?_)))
 have hst := pk6 hst
 have e73 := e65.trans (hl64.trans hl70)
 cases h
 exact ⟨_, rfl, m69, rfl, e73, hst⟩
def R_parser_query_c4 (g : World) (m : Mem) (F : List Asr) (ob0 : Nat) (ob1 : Nat) (ob2 : Nat) (r : GQuery × SParser) (v : Value) (w' : World) : Prop := ∃ m' A6 c6 cs6 A7 c7 cs7 A8 c8 cs8 A9 c9 cs9 A10 c10 cs10 A11 c11 cs11, v = vt [] ∧ m.le m' ∧ St g m' (oo ob0 36 (cGQuery r.1 (vs A6 r.1.Variables c6) (vs A7 r.1.Relations c7) (vs A8 r.1.Absences c8) (vs A9 r.1.Group c9) (vs A10 r.1.Compute c10) (vs A11 r.1.Order c11)) :: rw_ 95 8 A6 r.1.Variables c6 cs6 :: rw_ 104 3 A7 r.1.Relations c7 cs7 :: rw_ 106 11 A8 r.1.Absences c8 cs8 :: rw_ 101 3 A9 r.1.Group c9 cs9 :: rw_ 110 6 A10 r.1.Compute c10 cs10 :: rw_ 112 2 A11 r.1.Order c11 cs11 :: oo ob1 86 [vp ob2 0] :: oo ob2 155 (cSParser r.2) :: F) w' ∧ RC (TGVariable) m' r.1.Variables cs6 ∧ RC (TGRelation) m' r.1.Relations cs7 ∧ RC (TGAbsence) m' r.1.Absences cs8 ∧ RC (TGColumn) m' r.1.Group cs9 ∧ RC (TGAggregate) m' r.1.Compute cs10 ∧ RC (TGOrderKey) m' r.1.Order cs11
theorem c_parser_query_c4 {a0 : GQuery} {a2 : SParser} {r : Except Pan (GQuery × SParser)} {A6_ : Option Addr} {c6_ : Nat} {cs6_ : List Value} {A7_ : Option Addr} {c7_ : Nat} {cs7_ : List Value} {A8_ : Option Addr} {c8_ : Nat} {cs8_ : List Value} {A9_ : Option Addr} {c9_ : Nat} {cs9_ : List Value} {A10_ : Option Addr} {c10_ : Nat} {cs10_ : List Value} {A11_ : Option Addr} {c11_ : Nat} {cs11_ : List Value} (h : parser_query_c4 k a0 a2 = some r) (hst : St g m (oo ob0 36 (cGQuery a0 (vs A6_ a0.Variables c6_) (vs A7_ a0.Relations c7_) (vs A8_ a0.Absences c8_) (vs A9_ a0.Group c9_) (vs A10_ a0.Compute c10_) (vs A11_ a0.Order c11_)) :: rw_ 95 8 A6_ a0.Variables c6_ cs6_ :: rw_ 104 3 A7_ a0.Relations c7_ cs7_ :: rw_ 106 11 A8_ a0.Absences c8_ cs8_ :: rw_ 101 3 A9_ a0.Group c9_ cs9_ :: rw_ 110 6 A10_ a0.Compute c10_ cs10_ :: rw_ 112 2 A11_ a0.Order c11_ cs11_ :: oo ob1 86 [vp ob2 0] :: oo ob2 155 (cSParser a2) :: F) w) (hrc6_ : RC (TGVariable) m a0.Variables cs6_) (hrc7_ : RC (TGRelation) m a0.Relations cs7_) (hrc8_ : RC (TGAbsence) m a0.Absences cs8_) (hrc9_ : RC (TGColumn) m a0.Group cs9_) (hrc10_ : RC (TGAggregate) m a0.Compute cs10_) (hrc11_ : RC (TGOrderKey) m a0.Order cs11_) (hG : Glob m) :
    Calls Tryz.prog 114 ⟨[vp ob0 0, vp ob1 0]⟩ w (XPost (R_parser_query_c4 g m F ob0 ob1 ob2) g m (oo ob0 36 (cGQuery a0 (vs A6_ a0.Variables c6_) (vs A7_ a0.Relations c7_) (vs A8_ a0.Absences c8_) (vs A9_ a0.Group c9_) (vs A10_ a0.Compute c10_) (vs A11_ a0.Order c11_)) :: rw_ 95 8 A6_ a0.Variables c6_ cs6_ :: rw_ 104 3 A7_ a0.Relations c7_ cs7_ :: rw_ 106 11 A8_ a0.Absences c8_ cs8_ :: rw_ 101 3 A9_ a0.Group c9_ cs9_ :: rw_ 110 6 A10_ a0.Compute c10_ cs10_ :: rw_ 112 2 A11_ a0.Order c11_ cs11_ :: oo ob1 86 [vp ob2 0] :: F) r) := by
 refine calls_enter Tryz.func114 rfl rfl ?_
 unfold parser_query_c4 at h
 refine dr false (fun x => Rd m (oo ob0 36 (cGQuery a0 (vs A6_ a0.Variables c6_) (vs A7_ a0.Relations c7_) (vs A8_ a0.Absences c8_) (vs A9_ a0.Group c9_) (vs A10_ a0.Compute c10_) (vs A11_ a0.Order c11_)) :: oo ob1 86 [vp ob2 0] :: []) x) ?_
 have hst := hst.drew
 refine gs [0, 2, 1] [vp ob0 6, vp ob2 0, vs A10_ a0.Compute c10_] _ 5 pqb (hst.rd.with_ 0 rfl (hst.rd.with_ 7 rfl (hst.rd.none_))) (fun x hx => (AllC.app (hx.q 1 0 1) (hx.q 0 6 1))) ?_
 refine ge 3 rfl ?_
 have hst := pk11 hst
 rcases xbind_some h with ⟨p16, hq13, rfl⟩ | ⟨r12, hq13, h⟩
 ·exact cpa (c_parser_aggregate hq13 hst hG) (fun _ _ hp => ⟨rfl, _, rfl, hp.p (Mem.le.refl _) 8 [0, 0, 0, 0, 0, 0, 0, 0]⟩)
 refine cal (c_parser_aggregate hq13 hst hG) ?_
 rintro _ _ ⟨m14, rfl, hl15, hst⟩
 refine gn (Rd.lower hl15 (hst.rd.with_ 1 rfl (hst.rd.with_ 8 rfl (hst.rd.none_)))) (ge 4 rfl (li 110 1 [vi r12.2.Kind, vstr r12.2.Column.Var, vstr r12.2.Column.Field, vstr r12.2.Column.Key, vi r12.2.Q.Num, vi r12.2.Q.Den] hst (fun b17 _ hst => ?_)))
 refine gn (Rd.lower hl15 (hst.rd.with_ 2 rfl (hst.rd.with_ 9 rfl (hst.rd.none_)))) (ge 5 rfl ?_)
 obtain ⟨hb18, h⟩ := chk_some h
 refine ap7 (TGAggregate) (xs := a0.Compute) (ys := [r12.2]) 72 1 0 hst (RC.mono hl15 hrc10_) (RC.k6 (TGAggregate.close_ r12.2) (RC.nil _ _)) hb18 (fun A19 c20 cs21 _ hrc22 hst => ?_)
 have hst := pk0 hst
 refine gn (Rd.lower hl15 (hst.rd.with_ 1 rfl (hst.rd.with_ 8 rfl (hst.rd.none_)))) (wpG_strong (S2 := fun x => Rd m14 (oo ob0 36 (cGQuery a0 (vs A6_ a0.Variables c6_) (vs A7_ a0.Relations c7_) (vs A8_ a0.Absences c8_) (vs A9_ a0.Group c9_) (vs A10_ a0.Compute c10_) (vs A11_ a0.Order c11_)) :: oo ob1 86 [vp ob2 0] :: []) x) (fun x hx => Rd.lower hl15 hx) ?_)
 refine gs [6] [vp ob0 6] [] 1 pqb (hst.rd.with_ 1 rfl (hst.rd.with_ 8 rfl (hst.rd.none_))) (fun x hx => trivial) ?_
 refine ge 7 rfl (so1 6 [vs A19 (a0.Compute ++ [r12.2]) c20] hst (fun _ hst => ?_))
 refine nl (tn (⟨_, fun _ h => h, .inl ⟨rfl, allListed_of _ (by kernel_rfl)⟩, ?_⟩))
 refine gd (we [] ?_)
 have hst := pk12 hst
 cases h
 exact ⟨_, rfl, m14, A6_, c6_, cs6_, A7_, c7_, cs7_, A8_, c8_, cs8_, A9_, c9_, cs9_, A19, c20, cs21, A11_, c11_, cs11_, rfl, hl15, hst, (RC.mono hl15 hrc6_), (RC.mono hl15 hrc7_), (RC.mono hl15 hrc8_), (RC.mono hl15 hrc9_), hrc22, (RC.mono hl15 hrc11_)⟩
def R_parser_list_i3 (g : World) (m : Mem) (F : List Asr) (ob0 : Nat) (ob1 : Nat) (ob2 : Nat) (r : SParser × GQuery) (v : Value) (w' : World) : Prop := ∃ m' A6 c6 cs6 A7 c7 cs7 A8 c8 cs8 A9 c9 cs9 A10 c10 cs10 A11 c11 cs11, v = vt [] ∧ m.le m' ∧ St g m' (oo ob0 155 (cSParser r.1) :: oo ob1 36 (cGQuery r.2 (vs A6 r.2.Variables c6) (vs A7 r.2.Relations c7) (vs A8 r.2.Absences c8) (vs A9 r.2.Group c9) (vs A10 r.2.Compute c10) (vs A11 r.2.Order c11)) :: rw_ 95 8 A6 r.2.Variables c6 cs6 :: rw_ 104 3 A7 r.2.Relations c7 cs7 :: rw_ 106 11 A8 r.2.Absences c8 cs8 :: rw_ 101 3 A9 r.2.Group c9 cs9 :: rw_ 110 6 A10 r.2.Compute c10 cs10 :: rw_ 112 2 A11 r.2.Order c11 cs11 :: oo ob2 86 [vp ob0 0] :: F) w' ∧ RC (TGVariable) m' r.2.Variables cs6 ∧ RC (TGRelation) m' r.2.Relations cs7 ∧ RC (TGAbsence) m' r.2.Absences cs8 ∧ RC (TGColumn) m' r.2.Group cs9 ∧ RC (TGAggregate) m' r.2.Compute cs10 ∧ RC (TGOrderKey) m' r.2.Order cs11
theorem c_parser_list_i3 {a0 : SParser} {a1 : GQuery} {r : Except Pan (SParser × GQuery)} {A6_ : Option Addr} {c6_ : Nat} {cs6_ : List Value} {A7_ : Option Addr} {c7_ : Nat} {cs7_ : List Value} {A8_ : Option Addr} {c8_ : Nat} {cs8_ : List Value} {A9_ : Option Addr} {c9_ : Nat} {cs9_ : List Value} {A10_ : Option Addr} {c10_ : Nat} {cs10_ : List Value} {A11_ : Option Addr} {c11_ : Nat} {cs11_ : List Value} (h : parser_list_i3 k a0 a1 = some r) (hst : St g m (oo ob0 155 (cSParser a0) :: oo ob1 36 (cGQuery a1 (vs A6_ a1.Variables c6_) (vs A7_ a1.Relations c7_) (vs A8_ a1.Absences c8_) (vs A9_ a1.Group c9_) (vs A10_ a1.Compute c10_) (vs A11_ a1.Order c11_)) :: rw_ 95 8 A6_ a1.Variables c6_ cs6_ :: rw_ 104 3 A7_ a1.Relations c7_ cs7_ :: rw_ 106 11 A8_ a1.Absences c8_ cs8_ :: rw_ 101 3 A9_ a1.Group c9_ cs9_ :: rw_ 110 6 A10_ a1.Compute c10_ cs10_ :: rw_ 112 2 A11_ a1.Order c11_ cs11_ :: oo ob2 86 [vp ob0 0] :: F) w) (hrc6_ : RC (TGVariable) m a1.Variables cs6_) (hrc7_ : RC (TGRelation) m a1.Relations cs7_) (hrc8_ : RC (TGAbsence) m a1.Absences cs8_) (hrc9_ : RC (TGColumn) m a1.Group cs9_) (hrc10_ : RC (TGAggregate) m a1.Compute cs10_) (hrc11_ : RC (TGOrderKey) m a1.Order cs11_) (hG : Glob m) :
    Calls Tryz.prog 105 ⟨[vp ob0 0, vf 114 [] [vp ob1 0, vp ob2 0]]⟩ w (XPost (R_parser_list_i3 g m F ob0 ob1 ob2) g m (oo ob2 86 [vp ob0 0] :: F) r) := by
 refine calls_enter Tryz.func105 rfl rfl ?_
 unfold parser_list_i3 at h
 refine qr (s0 1 [] ?_)
 have hst := pk12 hst
 rcases xbind_some h with ⟨p5, hq2, rfl⟩ | ⟨r1, hq2, h⟩
 ·exact cpa (c_parser_query_c4 hq2 hst hrc6_ hrc7_ hrc8_ hrc9_ hrc10_ hrc11_ hG) (fun _ _ hp => ⟨rfl, _, rfl, hp.p (Mem.le.refl _) 8 [7]⟩)
 refine cal (c_parser_query_c4 hq2 hst hrc6_ hrc7_ hrc8_ hrc9_ hrc10_ hrc11_ hG) ?_
 rintro _ _ ⟨m3, A12, c13, cs14, A16, c17, cs18, A20, c21, cs22, A24, c25, cs26, A28, c29, cs30, A32, c33, cs34, rfl, hl4, hst, hrc15, hrc19, hrc23, hrc27, hrc31, hrc35⟩
 refine nl (tn (bk (wc_loop (fun kk a w => ∃ f0 m239 x116 A117 c118 cs119 x121 A122 c123 cs124 x126 A127 c128 cs129 x131 A132 c133 cs134 x136 A137 c138 cs139 x141 A142 c143 cs144 x146 x147 x148 x149 x150 x151 x152 x153 x154, a = act Tryz.f105.ntmps (upds f0 [(0, vp ob0 0), (1, vf 114 [] [vp ob1 0, vp ob2 0])]) ∧ kk ≤ k ∧ parser_list_i3_l1 kk x116 x121 x126 x131 x136 x141 x146 x147 x148 x149 x150 x151 x152 x153 x154 = some r ∧ m3.le m239 ∧ St g m239 (oo ob1 36 [vs A117 x116 c118, vs A122 x121 c123, vs A127 x126 c128, vi x146, vi x147, vs A132 x131 c133, vs A137 x136 c138, vs A142 x141 c143, vi x148] :: rw_ 95 8 A117 x116 c118 cs119 :: rw_ 104 3 A122 x121 c123 cs124 :: rw_ 106 11 A127 x126 c128 cs129 :: rw_ 101 3 A132 x131 c133 cs134 :: rw_ 110 6 A137 x136 c138 cs139 :: rw_ 112 2 A142 x141 c143 cs144 :: oo ob2 86 [vp ob0 0] :: oo ob0 155 [vstr x149, vi x150, vi x151, vi x152, vstr x153, vi x154] :: F) w ∧ RC (TGVariable) m239 x116 cs119 ∧ RC (TGRelation) m239 x121 cs124 ∧ RC (TGAbsence) m239 x126 cs129 ∧ RC (TGColumn) m239 x131 cs134 ∧ RC (TGAggregate) m239 x136 cs139 ∧ RC (TGOrderKey) m239 x141 cs144) k ?_ ?_)))
 ·exact ⟨_, m3, (r1.1.Variables), A12, c13, cs14, (r1.1.Relations), A16, c17, cs18, (r1.1.Absences), A20, c21, cs22, (r1.1.Group), A24, c25, cs26, (r1.1.Compute), A28, c29, cs30, (r1.1.Order), A32, c33, cs34, (r1.1.Slots.From), (r1.1.Slots.To), (r1.1.Limit), (r1.2.x_.s_), (r1.2.x_.at_), (r1.2.t_.kind), (r1.2.t_.at_), (r1.2.t_.s_), (r1.2.t_.n_), au, (Nat.le_refl _), h, (Mem.le.refl _), hst, hrc15, hrc19, hrc23, hrc27, hrc31, hrc35⟩
 rintro k237 ih238 _ _ ⟨f0, m239, x116, A117, c118, cs119, x121, A122, c123, cs124, x126, A127, c128, cs129, x131, A132, c133, cs134, x136, A137, c138, cs139, x141, A142, c143, cs144, x146, x147, x148, x149, x150, x151, x152, x153, x154, rfl, hk236, h, hl235, hst, hrc120, hrc125, hrc130, hrc135, hrc140, hrc145⟩
 obtain _ | k241 := k237
 ·simp [parser_list_i3_l1] at h
 rw [parser_list_i3_l1] at h
 refine sq (qr (s0 1 [] ?_))
 have hst := pk11 hst
 rcases xbind_some h with ⟨p246, hq243, rfl⟩ | ⟨r242, hq243, h⟩
 ·have e247 := hl4.trans hl235
  exact cpa (c_parser_takes hq243 hst) (fun _ _ hp => ⟨rfl, _, rfl, hp.p e247 8 [7]⟩)
 refine cal (c_parser_takes hq243 hst) ?_
 rintro _ _ ⟨m244, rfl, hl245, hst⟩
 refine nl (tn (cn h (fun h => ?_) (fun h => ?_)))
 ·refine wp_skip (tn (bk (rg (s0 1 [] ?_))))
  have hst := pk12 hst
  have e252 := hl4.trans (hl235.trans hl245)
  rcases xbind_some h with ⟨p253, hq249, rfl⟩ | ⟨r248, hq249, h⟩
  ·exact cpa (c_parser_query_c4 hq249 hst (RC.mono hl245 hrc120) (RC.mono hl245 hrc125) (RC.mono hl245 hrc130) (RC.mono hl245 hrc135) (RC.mono hl245 hrc140) (RC.mono hl245 hrc145) (Glob.mono e252 hG)) (fun _ _ hp => ⟨rfl, _, rfl, hp.p e252 8 [7]⟩)
  refine cal (c_parser_query_c4 hq249 hst (RC.mono hl245 hrc120) (RC.mono hl245 hrc125) (RC.mono hl245 hrc130) (RC.mono hl245 hrc135) (RC.mono hl245 hrc140) (RC.mono hl245 hrc145) (Glob.mono e252 hG)) ?_
  rintro _ _ ⟨m250, A260, c261, cs262, A264, c265, cs266, A268, c269, cs270, A272, c273, cs274, A276, c277, cs278, A280, c281, cs282, rfl, hl251, hst, hrc263, hrc267, hrc271, hrc275, hrc279, hrc283⟩
  refine nl (bn (tn ?_))
  have e284 := hl235.trans (hl245.trans hl251)
  exact ih238 k241 (by omega) _ _ ⟨_, m250, (r248.1.Variables), A260, c261, cs262, (r248.1.Relations), A264, c265, cs266, (r248.1.Absences), A268, c269, cs270, (r248.1.Group), A272, c273, cs274, (r248.1.Compute), A276, c277, cs278, (r248.1.Order), A280, c281, cs282, (r248.1.Slots.From), (r248.1.Slots.To), (r248.1.Limit), (r248.2.x_.s_), (r248.2.x_.at_), (r248.2.t_.kind), (r248.2.t_.at_), (r248.2.t_.s_), (r248.2.t_.n_), au, (by omega), h, e284, hst, hrc263, hrc267, hrc271, hrc275, hrc279, hrc283⟩
 refine wp_exit (tx (tx (bx (we [] ?_))))
 have e285 := hl4.trans (hl235.trans hl245)
 cases h
 exact ⟨_, rfl, m244, A117, c118, cs119, A122, c123, cs124, A127, c128, cs129, A132, c133, cs134, A137, c138, cs139, A142, c143, cs144, rfl, e285, hst, (RC.mono hl245 hrc120), (RC.mono hl245 hrc125), (RC.mono hl245 hrc130), (RC.mono hl245 hrc135), (RC.mono hl245 hrc140), (RC.mono hl245 hrc145)⟩
def R_parser_query_c5 (g : World) (m : Mem) (F : List Asr) (ob0 : Nat) (ob1 : Nat) (ob2 : Nat) (r : SParser × GQuery) (v : Value) (w' : World) : Prop := ∃ m' A6 c6 cs6 A7 c7 cs7 A8 c8 cs8 A9 c9 cs9 A10 c10 cs10 A11 c11 cs11, v = vt [] ∧ m.le m' ∧ St g m' (oo ob0 86 [vp ob1 0] :: oo ob1 155 (cSParser r.1) :: oo ob2 36 (cGQuery r.2 (vs A6 r.2.Variables c6) (vs A7 r.2.Relations c7) (vs A8 r.2.Absences c8) (vs A9 r.2.Group c9) (vs A10 r.2.Compute c10) (vs A11 r.2.Order c11)) :: rw_ 95 8 A6 r.2.Variables c6 cs6 :: rw_ 104 3 A7 r.2.Relations c7 cs7 :: rw_ 106 11 A8 r.2.Absences c8 cs8 :: rw_ 101 3 A9 r.2.Group c9 cs9 :: rw_ 110 6 A10 r.2.Compute c10 cs10 :: rw_ 112 2 A11 r.2.Order c11 cs11 :: F) w' ∧ RC (TGVariable) m' r.2.Variables cs6 ∧ RC (TGRelation) m' r.2.Relations cs7 ∧ RC (TGAbsence) m' r.2.Absences cs8 ∧ RC (TGColumn) m' r.2.Group cs9 ∧ RC (TGAggregate) m' r.2.Compute cs10 ∧ RC (TGOrderKey) m' r.2.Order cs11
theorem c_parser_query_c5 {a1 : SParser} {a2 : GQuery} {r : Except Pan (SParser × GQuery)} {A6_ : Option Addr} {c6_ : Nat} {cs6_ : List Value} {A7_ : Option Addr} {c7_ : Nat} {cs7_ : List Value} {A8_ : Option Addr} {c8_ : Nat} {cs8_ : List Value} {A9_ : Option Addr} {c9_ : Nat} {cs9_ : List Value} {A10_ : Option Addr} {c10_ : Nat} {cs10_ : List Value} {A11_ : Option Addr} {c11_ : Nat} {cs11_ : List Value} (h : parser_query_c5 k a1 a2 = some r) (hst : St g m (oo ob0 86 [vp ob1 0] :: oo ob1 155 (cSParser a1) :: oo ob2 36 (cGQuery a2 (vs A6_ a2.Variables c6_) (vs A7_ a2.Relations c7_) (vs A8_ a2.Absences c8_) (vs A9_ a2.Group c9_) (vs A10_ a2.Compute c10_) (vs A11_ a2.Order c11_)) :: rw_ 95 8 A6_ a2.Variables c6_ cs6_ :: rw_ 104 3 A7_ a2.Relations c7_ cs7_ :: rw_ 106 11 A8_ a2.Absences c8_ cs8_ :: rw_ 101 3 A9_ a2.Group c9_ cs9_ :: rw_ 110 6 A10_ a2.Compute c10_ cs10_ :: rw_ 112 2 A11_ a2.Order c11_ cs11_ :: F) w) (hrc6_ : RC (TGVariable) m a2.Variables cs6_) (hrc7_ : RC (TGRelation) m a2.Relations cs7_) (hrc8_ : RC (TGAbsence) m a2.Absences cs8_) (hrc9_ : RC (TGColumn) m a2.Group cs9_) (hrc10_ : RC (TGAggregate) m a2.Compute cs10_) (hrc11_ : RC (TGOrderKey) m a2.Order cs11_) :
    Calls Tryz.prog 116 ⟨[vp ob0 0, vp ob2 0]⟩ w (XPost (R_parser_query_c5 g m F ob0 ob1 ob2) g m (oo ob0 86 [vp ob1 0] :: oo ob2 36 (cGQuery a2 (vs A6_ a2.Variables c6_) (vs A7_ a2.Relations c7_) (vs A8_ a2.Absences c8_) (vs A9_ a2.Group c9_) (vs A10_ a2.Compute c10_) (vs A11_ a2.Order c11_)) :: rw_ 95 8 A6_ a2.Variables c6_ cs6_ :: rw_ 104 3 A7_ a2.Relations c7_ cs7_ :: rw_ 106 11 A8_ a2.Absences c8_ cs8_ :: rw_ 101 3 A9_ a2.Group c9_ cs9_ :: rw_ 110 6 A10_ a2.Compute c10_ cs10_ :: rw_ 112 2 A11_ a2.Order c11_ cs11_ :: F) r) := by
 refine calls_enter Tryz.func116 rfl rfl ?_
 unfold parser_query_c5 at h
 refine qr (sg 1 [vp ob1 0] _ (hst.q 0 0 1) ?_)
 have hst := pk1 hst
 rcases xbind_some h with ⟨p5, hq2, rfl⟩ | ⟨r1, hq2, h⟩
 ·exact cpa (c_parser_int hq2 hst) (fun _ _ hp => ⟨rfl, _, rfl, hp.p (Mem.le.refl _) 8 [0, 0, 0, 0, 0, 0, 0, 0]⟩)
 refine cal (c_parser_int hq2 hst) ?_
 rintro _ _ ⟨m3, rfl, hl4, hst⟩
 refine s0 1 [va [vi r1.2, vb false]] (al [vi 0, vb false] hst (fun b6 _ hst => ?_))
 refine so0 0 [vi r1.2, vb false] hst (fun _ hst => ?_)
 refine nl (tn (qr (sg 1 [vp ob1 0] _ (hst.q 2 0 1) ?_)))
 have hst := pk1 hst
 rcases xbind_some h with ⟨p11, hq8, rfl⟩ | ⟨r7, hq8, h⟩
 ·exact cpa (c_parser_takes hq8 hst) (fun _ _ hp => ⟨rfl, _, rfl, hp.p hl4 9 [1, 1, 1, 1, 1, 1, 1, 1]⟩)
 refine cal (c_parser_takes hq8 hst) ?_
 rintro _ _ ⟨m9, rfl, hl10, hst⟩
 refine s0 1 [vp b6 1] (so1 1 [vb r7.2] hst (fun _ hst => ?_))
 refine nl (tn (rg (sg 3 [vp ob2 7, vs A11_ a2.Order c11_, va [vi r1.2, vb r7.2]] _ (AllC.app (hst.q 3 7 1) (hst.q 1 0 2)) (li 112 1 [vi r1.2, vb r7.2] hst (fun b12 _ hst => ?_)))))
 obtain ⟨hb13, h⟩ := chk_some h
 have e18 := hl4.trans hl10
 refine ap10 (TGOrderKey) (xs := a2.Order) (ys := [(GOrderKey.mk r1.2 r7.2)]) 16 1 0 hst (RC.mono e18 hrc11_) (RC.k2 (TGOrderKey.close_ (GOrderKey.mk r1.2 r7.2)) (RC.nil _ _)) hb13 (fun A14 c15 cs16 _ hrc17 hst => ?_)
 have hst := pk0 hst
 refine s0 1 [vp ob2 7] (so3 7 [vs A14 (a2.Order ++ [(GOrderKey.mk r1.2 r7.2)]) c15] hst (fun _ hst => ?_))
 refine nl (we [] ?_)
 have hst := pk16 hst
 cases h
 exact ⟨_, rfl, m9, A6_, c6_, cs6_, A7_, c7_, cs7_, A8_, c8_, cs8_, A9_, c9_, cs9_, A10_, c10_, cs10_, A14, c15, cs16, rfl, e18, hst, (RC.mono e18 hrc6_), (RC.mono e18 hrc7_), (RC.mono e18 hrc8_), (RC.mono e18 hrc9_), (RC.mono e18 hrc10_), hrc17⟩
def R_parser_list_i4 (g : World) (m : Mem) (F : List Asr) (ob0 : Nat) (ob1 : Nat) (ob2 : Nat) (r : SParser × GQuery) (v : Value) (w' : World) : Prop := ∃ m' A6 c6 cs6 A7 c7 cs7 A8 c8 cs8 A9 c9 cs9 A10 c10 cs10 A11 c11 cs11, v = vt [] ∧ m.le m' ∧ St g m' (oo ob0 155 (cSParser r.1) :: oo ob1 86 [vp ob0 0] :: oo ob2 36 (cGQuery r.2 (vs A6 r.2.Variables c6) (vs A7 r.2.Relations c7) (vs A8 r.2.Absences c8) (vs A9 r.2.Group c9) (vs A10 r.2.Compute c10) (vs A11 r.2.Order c11)) :: rw_ 95 8 A6 r.2.Variables c6 cs6 :: rw_ 104 3 A7 r.2.Relations c7 cs7 :: rw_ 106 11 A8 r.2.Absences c8 cs8 :: rw_ 101 3 A9 r.2.Group c9 cs9 :: rw_ 110 6 A10 r.2.Compute c10 cs10 :: rw_ 112 2 A11 r.2.Order c11 cs11 :: F) w' ∧ RC (TGVariable) m' r.2.Variables cs6 ∧ RC (TGRelation) m' r.2.Relations cs7 ∧ RC (TGAbsence) m' r.2.Absences cs8 ∧ RC (TGColumn) m' r.2.Group cs9 ∧ RC (TGAggregate) m' r.2.Compute cs10 ∧ RC (TGOrderKey) m' r.2.Order cs11
theorem c_parser_list_i4 {a0 : SParser} {a2 : GQuery} {r : Except Pan (SParser × GQuery)} {A6_ : Option Addr} {c6_ : Nat} {cs6_ : List Value} {A7_ : Option Addr} {c7_ : Nat} {cs7_ : List Value} {A8_ : Option Addr} {c8_ : Nat} {cs8_ : List Value} {A9_ : Option Addr} {c9_ : Nat} {cs9_ : List Value} {A10_ : Option Addr} {c10_ : Nat} {cs10_ : List Value} {A11_ : Option Addr} {c11_ : Nat} {cs11_ : List Value} (h : parser_list_i4 k a0 a2 = some r) (hst : St g m (oo ob0 155 (cSParser a0) :: oo ob1 86 [vp ob0 0] :: oo ob2 36 (cGQuery a2 (vs A6_ a2.Variables c6_) (vs A7_ a2.Relations c7_) (vs A8_ a2.Absences c8_) (vs A9_ a2.Group c9_) (vs A10_ a2.Compute c10_) (vs A11_ a2.Order c11_)) :: rw_ 95 8 A6_ a2.Variables c6_ cs6_ :: rw_ 104 3 A7_ a2.Relations c7_ cs7_ :: rw_ 106 11 A8_ a2.Absences c8_ cs8_ :: rw_ 101 3 A9_ a2.Group c9_ cs9_ :: rw_ 110 6 A10_ a2.Compute c10_ cs10_ :: rw_ 112 2 A11_ a2.Order c11_ cs11_ :: F) w) (hrc6_ : RC (TGVariable) m a2.Variables cs6_) (hrc7_ : RC (TGRelation) m a2.Relations cs7_) (hrc8_ : RC (TGAbsence) m a2.Absences cs8_) (hrc9_ : RC (TGColumn) m a2.Group cs9_) (hrc10_ : RC (TGAggregate) m a2.Compute cs10_) (hrc11_ : RC (TGOrderKey) m a2.Order cs11_) :
    Calls Tryz.prog 105 ⟨[vp ob0 0, vf 116 [] [vp ob1 0, vp ob2 0]]⟩ w (XPost (R_parser_list_i4 g m F ob0 ob1 ob2) g m (oo ob1 86 [vp ob0 0] :: F) r) := by
 refine calls_enter Tryz.func105 rfl rfl ?_
 unfold parser_list_i4 at h
 refine qr (s0 1 [] ?_)
 have hst := pk1 hst
 rcases xbind_some h with ⟨p5, hq2, rfl⟩ | ⟨r1, hq2, h⟩
 ·exact cpa (c_parser_query_c5 hq2 hst hrc6_ hrc7_ hrc8_ hrc9_ hrc10_ hrc11_) (fun _ _ hp => ⟨rfl, _, rfl, hp.p (Mem.le.refl _) 8 [0]⟩)
 refine cal (c_parser_query_c5 hq2 hst hrc6_ hrc7_ hrc8_ hrc9_ hrc10_ hrc11_) ?_
 rintro _ _ ⟨m3, A12, c13, cs14, A16, c17, cs18, A20, c21, cs22, A24, c25, cs26, A28, c29, cs30, A32, c33, cs34, rfl, hl4, hst, hrc15, hrc19, hrc23, hrc27, hrc31, hrc35⟩
 refine nl (tn (bk (wc_loop (fun kk a w => ∃ f0 m239 x116 A117 c118 cs119 x121 A122 c123 cs124 x126 A127 c128 cs129 x131 A132 c133 cs134 x136 A137 c138 cs139 x141 A142 c143 cs144 x146 x147 x148 x149 x150 x151 x152 x153 x154, a = act Tryz.f105.ntmps (upds f0 [(0, vp ob0 0), (1, vf 116 [] [vp ob1 0, vp ob2 0])]) ∧ kk ≤ k ∧ parser_list_i4_l1 kk x116 x121 x126 x131 x136 x141 x146 x147 x148 x149 x150 x151 x152 x153 x154 = some r ∧ m3.le m239 ∧ St g m239 (oo ob1 86 [vp ob0 0] :: oo ob0 155 [vstr x146, vi x147, vi x148, vi x149, vstr x150, vi x151] :: oo ob2 36 [vs A117 x116 c118, vs A122 x121 c123, vs A127 x126 c128, vi x152, vi x153, vs A132 x131 c133, vs A137 x136 c138, vs A142 x141 c143, vi x154] :: rw_ 95 8 A117 x116 c118 cs119 :: rw_ 104 3 A122 x121 c123 cs124 :: rw_ 106 11 A127 x126 c128 cs129 :: rw_ 101 3 A132 x131 c133 cs134 :: rw_ 110 6 A137 x136 c138 cs139 :: rw_ 112 2 A142 x141 c143 cs144 :: F) w ∧ RC (TGVariable) m239 x116 cs119 ∧ RC (TGRelation) m239 x121 cs124 ∧ RC (TGAbsence) m239 x126 cs129 ∧ RC (TGColumn) m239 x131 cs134 ∧ RC (TGAggregate) m239 x136 cs139 ∧ RC (TGOrderKey) m239 x141 cs144) k ?_ ?_)))
 ·exact ⟨_, m3, (r1.2.Variables), A12, c13, cs14, (r1.2.Relations), A16, c17, cs18, (r1.2.Absences), A20, c21, cs22, (r1.2.Group), A24, c25, cs26, (r1.2.Compute), A28, c29, cs30, (r1.2.Order), A32, c33, cs34, (r1.1.x_.s_), (r1.1.x_.at_), (r1.1.t_.kind), (r1.1.t_.at_), (r1.1.t_.s_), (r1.1.t_.n_), (r1.2.Slots.From), (r1.2.Slots.To), (r1.2.Limit), au, (Nat.le_refl _), h, (Mem.le.refl _), hst, hrc15, hrc19, hrc23, hrc27, hrc31, hrc35⟩
 rintro k237 ih238 _ _ ⟨f0, m239, x116, A117, c118, cs119, x121, A122, c123, cs124, x126, A127, c128, cs129, x131, A132, c133, cs134, x136, A137, c138, cs139, x141, A142, c143, cs144, x146, x147, x148, x149, x150, x151, x152, x153, x154, rfl, hk236, h, hl235, hst, hrc120, hrc125, hrc130, hrc135, hrc140, hrc145⟩
 obtain _ | k241 := k237
 ·simp [parser_list_i4_l1] at h
 rw [parser_list_i4_l1] at h
 refine sq (qr (s0 1 [] ?_))
 have hst := pk1 hst
 rcases xbind_some h with ⟨p246, hq243, rfl⟩ | ⟨r242, hq243, h⟩
 ·have e247 := hl4.trans hl235
  exact cpa (c_parser_takes hq243 hst) (fun _ _ hp => ⟨rfl, _, rfl, hp.p e247 8 [0]⟩)
 refine cal (c_parser_takes hq243 hst) ?_
 rintro _ _ ⟨m244, rfl, hl245, hst⟩
 refine nl (tn (cn h (fun h => ?_) (fun h => ?_)))
 ·refine wp_skip (tn (bk (rg (s0 1 [] ?_))))
  have hst := pk1 hst
  rcases xbind_some h with ⟨p252, hq249, rfl⟩ | ⟨r248, hq249, h⟩
  ·have e253 := hl4.trans (hl235.trans hl245)
   exact cpa (c_parser_query_c5 hq249 hst (RC.mono hl245 hrc120) (RC.mono hl245 hrc125) (RC.mono hl245 hrc130) (RC.mono hl245 hrc135) (RC.mono hl245 hrc140) (RC.mono hl245 hrc145)) (fun _ _ hp => ⟨rfl, _, rfl, hp.p e253 8 [0]⟩)
  refine cal (c_parser_query_c5 hq249 hst (RC.mono hl245 hrc120) (RC.mono hl245 hrc125) (RC.mono hl245 hrc130) (RC.mono hl245 hrc135) (RC.mono hl245 hrc140) (RC.mono hl245 hrc145)) ?_
  rintro _ _ ⟨m250, A260, c261, cs262, A264, c265, cs266, A268, c269, cs270, A272, c273, cs274, A276, c277, cs278, A280, c281, cs282, rfl, hl251, hst, hrc263, hrc267, hrc271, hrc275, hrc279, hrc283⟩
  refine nl (bn (tn ?_))
  have e284 := hl235.trans (hl245.trans hl251)
  exact ih238 k241 (by omega) _ _ ⟨_, m250, (r248.2.Variables), A260, c261, cs262, (r248.2.Relations), A264, c265, cs266, (r248.2.Absences), A268, c269, cs270, (r248.2.Group), A272, c273, cs274, (r248.2.Compute), A276, c277, cs278, (r248.2.Order), A280, c281, cs282, (r248.1.x_.s_), (r248.1.x_.at_), (r248.1.t_.kind), (r248.1.t_.at_), (r248.1.t_.s_), (r248.1.t_.n_), (r248.2.Slots.From), (r248.2.Slots.To), (r248.2.Limit), au, (by omega), h, e284, hst, hrc263, hrc267, hrc271, hrc275, hrc279, hrc283⟩
 refine wp_exit (tx (tx (bx (we [] ?_))))
 have e285 := hl4.trans (hl235.trans hl245)
 cases h
 exact ⟨_, rfl, m244, A117, c118, cs119, A122, c123, cs124, A127, c128, cs129, A132, c133, cs134, A137, c138, cs139, A142, c143, cs144, rfl, e285, hst, (RC.mono hl245 hrc120), (RC.mono hl245 hrc125), (RC.mono hl245 hrc130), (RC.mono hl245 hrc135), (RC.mono hl245 hrc140), (RC.mono hl245 hrc145)⟩
def R_parser_query (g : World) (m : Mem) (F : List Asr) (ob0 : Nat) (r : SParser × GQuery) (v : Value) (w' : World) : Prop := ∃ m' Av0 cv0 Av1 cv1 Av2 cv2 Av3 cv3 Av4 cv4 Av5 cv5, v = va (cGQuery r.2 (vs Av0 r.2.Variables cv0) (vs Av1 r.2.Relations cv1) (vs Av2 r.2.Absences cv2) (vs Av3 r.2.Group cv3) (vs Av4 r.2.Compute cv4) (vs Av5 r.2.Order cv5)) ∧ m.le m' ∧ St g m' (oo ob0 155 (cSParser r.1) :: F) w' ∧ RS (TGVariable) m' (vs Av0 r.2.Variables cv0) r.2.Variables ∧ RS (TGRelation) m' (vs Av1 r.2.Relations cv1) r.2.Relations ∧ RS (TGAbsence) m' (vs Av2 r.2.Absences cv2) r.2.Absences ∧ RS (TGColumn) m' (vs Av3 r.2.Group cv3) r.2.Group ∧ RS (TGAggregate) m' (vs Av4 r.2.Compute cv4) r.2.Compute ∧ RS (TGOrderKey) m' (vs Av5 r.2.Order cv5) r.2.Order
theorem c_parser_query {a0 : SParser} {r : Except Pan (SParser × GQuery)} (h : parser_query k a0 = some r) (hst : St g m (oo ob0 155 (cSParser a0) :: F) w) (hG : Glob m) :
    Calls Tryz.prog 49 ⟨[vp ob0 0]⟩ w (XPost (R_parser_query g m F ob0) g m F r) := by
 refine calls_enter Tryz.func49 rfl rfl ?_
 unfold parser_query at h
 refine qr (bo_ [vp ob0 0] hst (fun b1 _ hst => ?_))
 refine al [vn, vn, vn, vi 0, vi 0, vn, vn, vn, vi 0] hst (fun b2 _ hst => ?_)
 have hrc4 := RC.nil (TGVariable) m
 have hst := hst.nil_row 95 8
 have hrc6 := RC.nil (TGRelation) m
 have hst := hst.nil_row 104 3
 have hrc8 := RC.nil (TGAbsence) m
 have hst := hst.nil_row 106 11
 have hrc10 := RC.nil (TGColumn) m
 have hst := hst.nil_row 101 3
 have hrc12 := RC.nil (TGAggregate) m
 have hst := hst.nil_row 110 6
 have hrc14 := RC.nil (TGOrderKey) m
 have hst := hst.nil_row 112 2
 refine nl (tn (qr (al [vn, vn, vn, vi 0, vi 0, vn, vn, vn, vi 0] hst (fun b15 _ hst => ?_))))
 have hrc17 := RC.nil (TGVariable) m
 have hst := hst.nil_row 95 8
 have hrc19 := RC.nil (TGRelation) m
 have hst := hst.nil_row 104 3
 have hrc21 := RC.nil (TGAbsence) m
 have hst := hst.nil_row 106 11
 have hrc23 := RC.nil (TGColumn) m
 have hst := hst.nil_row 101 3
 have hrc25 := RC.nil (TGAggregate) m
 have hst := hst.nil_row 110 6
 have hrc27 := RC.nil (TGOrderKey) m
 have hst := hst.nil_row 112 2
 refine nl (tn (qr (sg 1 [vp ob0 0] _ (hst.q 14 0 1) ?_)))
 have hst := pk4 hst
 rcases xbind_some h with ⟨p32, hq29, rfl⟩ | ⟨r28, hq29, h⟩
 ·exact cpa (c_parser_need hq29 hst) (fun _ _ hp => ⟨rfl, _, rfl, hp.p (Mem.le.refl _) 15 []⟩)
 refine cal (c_parser_need hq29 hst) ?_
 rintro _ _ ⟨m30, rfl, hl31, hst⟩
 refine nl (tn (qr (sg 2 [vp ob0 0, vf 106 [] [vp b15 0, vp b1 0]] _ (hst.q 15 0 1) ?_)))
 have hst := pk13 hst
 rcases xbind_some h with ⟨p37, hq34, rfl⟩ | ⟨r33, hq34, h⟩
 ·exact cpa (c_parser_list hq34 hst (RC.mono hl31 hrc17) (RC.mono hl31 hrc19) (RC.mono hl31 hrc21) (RC.mono hl31 hrc23) (RC.mono hl31 hrc25) (RC.mono hl31 hrc27) (Glob.mono hl31 hG)) (fun _ _ hp => ⟨rfl, _, rfl, hp.p hl31 8 []⟩)
 refine cal (c_parser_list hq34 hst (RC.mono hl31 hrc17) (RC.mono hl31 hrc19) (RC.mono hl31 hrc21) (RC.mono hl31 hrc23) (RC.mono hl31 hrc25) (RC.mono hl31 hrc27) (Glob.mono hl31 hG)) ?_
 rintro _ _ ⟨m35, A44, c45, cs46, A48, c49, cs50, A52, c53, cs54, A56, c57, cs58, A60, c61, cs62, A64, c65, cs66, rfl, hl36, hst, hrc47, hrc51, hrc55, hrc59, hrc63, hrc67⟩
 refine nl (tn (wc_join (fun a w => ∃ f0 k150 m152 x110 A111 c112 cs113 x115 A116 c117 cs118 x120 A121 c122 cs123 x125 A126 c127 cs128 x130 A131 c132 cs133 x135 A136 c137 cs138 x140 x141 x142 x143 x144 x145 x146 x147 x148, a = act Tryz.f49.ntmps (upds f0 [(1, vp b1 0), (2, vp b2 0), (3, vp b15 0)]) ∧ k150 ≤ k ∧ parser_query_j1 k150 x110 x115 x120 x125 x130 x135 x140 x141 x142 x143 x144 x145 x146 x147 x148 = some r ∧ m35.le m152 ∧ St g m152 (oo ob0 155 [vstr x140, vi x141, vi x142, vi x143, vstr x144, vi x145] :: oo b15 36 [vs A111 x110 c112, vs A116 x115 c117, vs A121 x120 c122, vi x146, vi x147, vs A126 x125 c127, vs A131 x130 c132, vs A136 x135 c137, vi x148] :: rw_ 95 8 A111 x110 c112 cs113 :: rw_ 104 3 A116 x115 c117 cs118 :: rw_ 106 11 A121 x120 c122 cs123 :: rw_ 101 3 A126 x125 c127 cs128 :: rw_ 110 6 A131 x130 c132 cs133 :: rw_ 112 2 A136 x135 c137 cs138 :: oo b1 86 [vp ob0 0] :: rn 112 2 :: rn 110 6 :: rn 101 3 :: rn 106 11 :: rn 104 3 :: rn 95 8 :: oo b2 36 [vn, vn, vn, vi 0, vi 0, vn, vn, vn, vi 0] :: F) w ∧ RC (TGVariable) m152 x110 cs113 ∧ RC (TGRelation) m152 x115 cs118 ∧ RC (TGAbsence) m152 x120 cs123 ∧ RC (TGColumn) m152 x125 cs128 ∧ RC (TGAggregate) m152 x130 cs133 ∧ RC (TGOrderKey) m152 x135 cs138) ?_ ?_))
 ·rintro _ _ ⟨f0, k150, m152, x110, A111, c112, cs113, x115, A116, c117, cs118, x120, A121, c122, cs123, x125, A126, c127, cs128, x130, A131, c132, cs133, x135, A136, c137, cs138, x140, x141, x142, x143, x144, x145, x146, x147, x148, rfl, hk151, h, hl149, hst, hrc114, hrc119, hrc124, hrc129, hrc134, hrc139⟩
  unfold parser_query_j1 at h
  refine wc_join (fun a w => ∃ f0 k186 m188 x177 x178 x179 x180 x181 x182 x183 x184, a = act Tryz.f49.ntmps (upds f0 [(1, vp b1 0), (2, vp b2 0), (3, vp b15 0)]) ∧ k186 ≤ k150 ∧ parser_query_j2 k186 x110 x115 x120 x125 x130 x135 x148 x177 x178 x179 x180 x181 x182 x183 x184 = some r ∧ m152.le m188 ∧ St g m188 (oo ob0 155 [vstr x177, vi x178, vi x179, vi x180, vstr x181, vi x182] :: oo b15 36 [vs A111 x110 c112, vs A116 x115 c117, vs A121 x120 c122, vi x183, vi x184, vs A126 x125 c127, vs A131 x130 c132, vs A136 x135 c137, vi x148] :: rw_ 95 8 A111 x110 c112 cs113 :: rw_ 104 3 A116 x115 c117 cs118 :: rw_ 106 11 A121 x120 c122 cs123 :: rw_ 101 3 A126 x125 c127 cs128 :: rw_ 110 6 A131 x130 c132 cs133 :: rw_ 112 2 A136 x135 c137 cs138 :: oo b1 86 [vp ob0 0] :: rn 112 2 :: rn 110 6 :: rn 101 3 :: rn 106 11 :: rn 104 3 :: rn 95 8 :: oo b2 36 [vn, vn, vn, vi 0, vi 0, vn, vn, vn, vi 0] :: F) w) ?_ ?_
  ·rintro _ _ ⟨f0, k186, m188, x177, x178, x179, x180, x181, x182, x183, x184, rfl, hk187, h, hl185, hst⟩
   unfold parser_query_j2 at h
   refine wc_join (fun a w => ∃ f0 k278 m280 x238 A239 c240 cs241 x243 A244 c245 cs246 x248 A249 c250 cs251 x253 A254 c255 cs256 x258 A259 c260 cs261 x263 A264 c265 cs266 x268 x269 x270 x271 x272 x273 x274 x275 x276, a = act Tryz.f49.ntmps (upds f0 [(1, vp b1 0), (2, vp b2 0), (3, vp b15 0)]) ∧ k278 ≤ k186 ∧ parser_query_j3 k278 x238 x243 x248 x253 x258 x263 x268 x269 x270 x271 x272 x273 x274 x275 x276 = some r ∧ m188.le m280 ∧ St g m280 (oo ob0 155 [vstr x268, vi x269, vi x270, vi x271, vstr x272, vi x273] :: oo b15 36 [vs A239 x238 c240, vs A244 x243 c245, vs A249 x248 c250, vi x274, vi x275, vs A254 x253 c255, vs A259 x258 c260, vs A264 x263 c265, vi x276] :: rw_ 95 8 A239 x238 c240 cs241 :: rw_ 104 3 A244 x243 c245 cs246 :: rw_ 106 11 A249 x248 c250 cs251 :: rw_ 101 3 A254 x253 c255 cs256 :: rw_ 110 6 A259 x258 c260 cs261 :: rw_ 112 2 A264 x263 c265 cs266 :: oo b1 86 [vp ob0 0] :: rn 112 2 :: rn 110 6 :: rn 101 3 :: rn 106 11 :: rn 104 3 :: rn 95 8 :: oo b2 36 [vn, vn, vn, vi 0, vi 0, vn, vn, vn, vi 0] :: F) w ∧ RC (TGVariable) m280 x238 cs241 ∧ RC (TGRelation) m280 x243 cs246 ∧ RC (TGAbsence) m280 x248 cs251 ∧ RC (TGColumn) m280 x253 cs256 ∧ RC (TGAggregate) m280 x258 cs261 ∧ RC (TGOrderKey) m280 x263 cs266) ?_ ?_
   ·rintro _ _ ⟨f0, k278, m280, x238, A239, c240, cs241, x243, A244, c245, cs246, x248, A249, c250, cs251, x253, A254, c255, cs256, x258, A259, c260, cs261, x263, A264, c265, cs266, x268, x269, x270, x271, x272, x273, x274, x275, x276, rfl, hk279, h, hl277, hst, hrc242, hrc247, hrc252, hrc257, hrc262, hrc267⟩
    unfold parser_query_j3 at h
    refine wc_join (fun a w => ∃ f0 k363 m365 x323 A324 c325 cs326 x328 A329 c330 cs331 x333 A334 c335 cs336 x338 A339 c340 cs341 x343 A344 c345 cs346 x348 A349 c350 cs351 x353 x354 x355 x356 x357 x358 x359 x360 x361, a = act Tryz.f49.ntmps (upds f0 [(1, vp b1 0), (2, vp b2 0), (3, vp b15 0)]) ∧ k363 ≤ k278 ∧ parser_query_j4 k363 x323 x328 x333 x338 x343 x348 x353 x354 x355 x356 x357 x358 x359 x360 x361 = some r ∧ m280.le m365 ∧ St g m365 (oo ob0 155 [vstr x353, vi x354, vi x355, vi x356, vstr x357, vi x358] :: oo b15 36 [vs A324 x323 c325, vs A329 x328 c330, vs A334 x333 c335, vi x359, vi x360, vs A339 x338 c340, vs A344 x343 c345, vs A349 x348 c350, vi x361] :: rw_ 95 8 A324 x323 c325 cs326 :: rw_ 104 3 A329 x328 c330 cs331 :: rw_ 106 11 A334 x333 c335 cs336 :: rw_ 101 3 A339 x338 c340 cs341 :: rw_ 110 6 A344 x343 c345 cs346 :: rw_ 112 2 A349 x348 c350 cs351 :: oo b1 86 [vp ob0 0] :: rn 112 2 :: rn 110 6 :: rn 101 3 :: rn 106 11 :: rn 104 3 :: rn 95 8 :: oo b2 36 [vn, vn, vn, vi 0, vi 0, vn, vn, vn, vi 0] :: F) w ∧ RC (TGVariable) m365 x323 cs326 ∧ RC (TGRelation) m365 x328 cs331 ∧ RC (TGAbsence) m365 x333 cs336 ∧ RC (TGColumn) m365 x338 cs341 ∧ RC (TGAggregate) m365 x343 cs346 ∧ RC (TGOrderKey) m365 x348 cs351) ?_ ?_
    ·rintro _ _ ⟨f0, k363, m365, x323, A324, c325, cs326, x328, A329, c330, cs331, x333, A334, c335, cs336, x338, A339, c340, cs341, x343, A344, c345, cs346, x348, A349, c350, cs351, x353, x354, x355, x356, x357, x358, x359, x360, x361, rfl, hk364, h, hl362, hst, hrc327, hrc332, hrc337, hrc342, hrc347, hrc352⟩
     unfold parser_query_j4 at h
     refine sq (qr (sg 1 [vp ob0 0] _ (hst.q 8 0 1) ?_))
     rcases xbind_some h with ⟨p370, hq367, rfl⟩ | ⟨r366, hq367, h⟩
     ·have e371 := hl31.trans (hl36.trans (hl149.trans (hl185.trans (hl277.trans hl362))))
      exact cpa (c_parser_takes hq367 hst) (fun _ _ hp => ⟨rfl, _, rfl, hp.p e371 15 []⟩)
     refine cal (c_parser_takes hq367 hst) ?_
     rintro _ _ ⟨m368, rfl, hl369, hst⟩
     refine nl (tn (cn h (fun h => ?_) (fun h => ?_)))
     ·refine qr (sg 1 [vp ob0 0] _ (hst.q 8 0 1) ?_)
      rcases xbind_some h with ⟨p376, hq373, rfl⟩ | ⟨r372, hq373, h⟩
      ·have e377 := hl31.trans (hl36.trans (hl149.trans (hl185.trans (hl277.trans (hl362.trans hl369)))))
       exact cpa (c_parser_need hq373 hst) (fun _ _ hp => ⟨rfl, _, rfl, hp.p e377 15 []⟩)
      refine cal (c_parser_need hq373 hst) ?_
      rintro _ _ ⟨m374, rfl, hl375, hst⟩
      refine nl (tn (rg (sg 2 [vp ob0 0, vf 116 [] [vp b1 0, vp b15 0]] _ (hst.q 8 0 1) ?_)))
      have e378 := hl369.trans hl375
      have hst := pk14 hst
      rcases xbind_some h with ⟨p383, hq380, rfl⟩ | ⟨r379, hq380, h⟩
      ·have e384 := hl31.trans (hl36.trans (hl149.trans (hl185.trans (hl277.trans (hl362.trans (hl369.trans hl375))))))
       exact cpa (c_parser_list_i4 hq380 hst (RC.mono e378 hrc327) (RC.mono e378 hrc332) (RC.mono e378 hrc337) (RC.mono e378 hrc342) (RC.mono e378 hrc347) (RC.mono e378 hrc352)) (fun _ _ hp => ⟨rfl, _, rfl, hp.p e384 8 []⟩)
      refine cal (c_parser_list_i4 hq380 hst (RC.mono e378 hrc327) (RC.mono e378 hrc332) (RC.mono e378 hrc337) (RC.mono e378 hrc342) (RC.mono e378 hrc347) (RC.mono e378 hrc352)) ?_
      rintro _ _ ⟨m381, A391, c392, cs393, A395, c396, cs397, A399, c400, cs401, A403, c404, cs405, A407, c408, cs409, A411, c412, cs413, rfl, hl382, hst, hrc394, hrc398, hrc402, hrc406, hrc410, hrc414⟩
      refine nl (tn (sq (qr (sg 1 [vp ob0 0] _ (hst.q 1 0 1) ?_))))
      rcases xbind_some h with ⟨p419, hq416, rfl⟩ | ⟨r415, hq416, h⟩
      ·have e420 := hl31.trans (hl36.trans (hl149.trans (hl185.trans (hl277.trans (hl362.trans (hl369.trans (hl375.trans hl382)))))))
       exact cpa (c_parser_takes hq416 hst) (fun _ _ hp => ⟨rfl, _, rfl, hp.p e420 15 []⟩)
      refine cal (c_parser_takes hq416 hst) ?_
      rintro _ _ ⟨m417, rfl, hl418, hst⟩
      refine nl (tn (cn h (fun h => ?_) (fun h => ?_)))
      ·refine rg (sg 1 [vp ob0 0] _ (hst.q 1 0 1) ?_)
       rcases xbind_some h with ⟨p425, hq422, rfl⟩ | ⟨r421, hq422, h⟩
       ·have e426 := hl31.trans (hl36.trans (hl149.trans (hl185.trans (hl277.trans (hl362.trans (hl369.trans (hl375.trans (hl382.trans hl418))))))))
        exact cpa (c_parser_int hq422 hst) (fun _ _ hp => ⟨rfl, _, rfl, hp.p e426 15 []⟩)
       refine cal (c_parser_int hq422 hst) ?_
       rintro _ _ ⟨m423, rfl, hl424, hst⟩
       refine s0 1 [vp b15 8] (so2 8 [vi r421.2] hst (fun _ hst => ?_))
       refine nl (tn (qr (sg 1 [va [vs A391 r379.2.Variables c392, vs A395 r379.2.Relations c396, vs A399 r379.2.Absences c400, vi r379.2.Slots.From, vi r379.2.Slots.To, vs A403 r379.2.Group c404, vs A407 r379.2.Compute c408, vs A411 r379.2.Order c412, vi r421.2]] _ (hst.q 2 0 9) (so15 0 [vs A391 r379.2.Variables c392, vs A395 r379.2.Relations c396, vs A399 r379.2.Absences c400, vi r379.2.Slots.From, vi r379.2.Slots.To, vs A403 r379.2.Group c404, vs A407 r379.2.Compute c408, vs A411 r379.2.Order c412, vi r421.2] hst (fun _ hst => ?_)))))
       refine nl (tn (wp_ret ?_))
       have hst := pk17 hst
       have e430 := hl418.trans hl424
       obtain ⟨m427, hl428, hst, hs429⟩ := hst.seal_row (T := TGVariable) (xs := r379.2.Variables) rfl (RC.mono e430 hrc394)
       have hst := pk17 hst
       have e434 := e430.trans hl428
       obtain ⟨m431, hl432, hst, hs433⟩ := hst.seal_row (T := TGRelation) (xs := r379.2.Relations) rfl (RC.mono e434 hrc398)
       have hst := pk17 hst
       have e438 := e434.trans hl432
       obtain ⟨m435, hl436, hst, hs437⟩ := hst.seal_row (T := TGAbsence) (xs := r379.2.Absences) rfl (RC.mono e438 hrc402)
       have hst := pk17 hst
       have e442 := e438.trans hl436
       obtain ⟨m439, hl440, hst, hs441⟩ := hst.seal_row (T := TGColumn) (xs := r379.2.Group) rfl (RC.mono e442 hrc406)
       have hst := pk17 hst
       have e446 := e442.trans hl440
       obtain ⟨m443, hl444, hst, hs445⟩ := hst.seal_row (T := TGAggregate) (xs := r379.2.Compute) rfl (RC.mono e446 hrc410)
       have hst := pk17 hst
       have e450 := e446.trans hl444
       obtain ⟨m447, hl448, hst, hs449⟩ := hst.seal_row (T := TGOrderKey) (xs := r379.2.Order) rfl (RC.mono e450 hrc414)
       refine wrr [va [vs A391 r379.2.Variables c392, vs A395 r379.2.Relations c396, vs A399 r379.2.Absences c400, vi r379.2.Slots.From, vi r379.2.Slots.To, vs A403 r379.2.Group c404, vs A407 r379.2.Compute c408, vs A411 r379.2.Order c412, vi r421.2]] _ (hst.q 9 0 9) ?_
       have e451 := hl432.trans (hl436.trans (hl440.trans (hl444.trans hl448)))
       have e452 := hl436.trans (hl440.trans (hl444.trans hl448))
       have e453 := hl440.trans (hl444.trans hl448)
       have e454 := hl444.trans hl448
       have hst := pk18 hst
       have e455 := hl31.trans (hl36.trans (hl149.trans (hl185.trans (hl277.trans (hl362.trans (hl369.trans (hl375.trans (hl382.trans (hl418.trans (hl424.trans (hl428.trans (hl432.trans (hl436.trans (hl440.trans (hl444.trans hl448)))))))))))))))
       cases h
       exact ⟨_, rfl, m447, A391, c392, A395, c396, A399, c400, A403, c404, A407, c408, A411, c412, rfl, e455, hst, (RS.mono e451 hs429), (RS.mono e452 hs433), (RS.mono e453 hs437), (RS.mono e454 hs441), (RS.mono hl448 hs445), hs449⟩
      refine wp_skip (tn (qr (sg 1 [va (cGQuery r379.2 (vs A391 r379.2.Variables c392) (vs A395 r379.2.Relations c396) (vs A399 r379.2.Absences c400) (vs A403 r379.2.Group c404) (vs A407 r379.2.Compute c408) (vs A411 r379.2.Order c412))] _ (hst.q 2 0 9) (so15 0 (cGQuery r379.2 (vs A391 r379.2.Variables c392) (vs A395 r379.2.Relations c396) (vs A399 r379.2.Absences c400) (vs A403 r379.2.Group c404) (vs A407 r379.2.Compute c408) (vs A411 r379.2.Order c412)) hst (fun _ hst => ?_)))))
      refine nl (tn (wp_ret ?_))
      have hst := pk17 hst
      obtain ⟨m456, hl457, hst, hs458⟩ := hst.seal_row (T := TGVariable) (xs := r379.2.Variables) rfl (RC.mono hl418 hrc394)
      have hst := pk17 hst
      have e462 := hl418.trans hl457
      obtain ⟨m459, hl460, hst, hs461⟩ := hst.seal_row (T := TGRelation) (xs := r379.2.Relations) rfl (RC.mono e462 hrc398)
      have hst := pk17 hst
      have e466 := e462.trans hl460
      obtain ⟨m463, hl464, hst, hs465⟩ := hst.seal_row (T := TGAbsence) (xs := r379.2.Absences) rfl (RC.mono e466 hrc402)
      have hst := pk17 hst
      have e470 := e466.trans hl464
      obtain ⟨m467, hl468, hst, hs469⟩ := hst.seal_row (T := TGColumn) (xs := r379.2.Group) rfl (RC.mono e470 hrc406)
      have hst := pk17 hst
      have e474 := e470.trans hl468
      obtain ⟨m471, hl472, hst, hs473⟩ := hst.seal_row (T := TGAggregate) (xs := r379.2.Compute) rfl (RC.mono e474 hrc410)
      have hst := pk17 hst
      have e478 := e474.trans hl472
      obtain ⟨m475, hl476, hst, hs477⟩ := hst.seal_row (T := TGOrderKey) (xs := r379.2.Order) rfl (RC.mono e478 hrc414)
      refine wrr [va (cGQuery r379.2 (vs A391 r379.2.Variables c392) (vs A395 r379.2.Relations c396) (vs A399 r379.2.Absences c400) (vs A403 r379.2.Group c404) (vs A407 r379.2.Compute c408) (vs A411 r379.2.Order c412))] _ (hst.q 9 0 9) ?_
      have e479 := hl460.trans (hl464.trans (hl468.trans (hl472.trans hl476)))
      have e480 := hl464.trans (hl468.trans (hl472.trans hl476))
      have e481 := hl468.trans (hl472.trans hl476)
      have e482 := hl472.trans hl476
      have hst := pk18 hst
      have e483 := hl31.trans (hl36.trans (hl149.trans (hl185.trans (hl277.trans (hl362.trans (hl369.trans (hl375.trans (hl382.trans (hl418.trans (hl457.trans (hl460.trans (hl464.trans (hl468.trans (hl472.trans hl476))))))))))))))
      cases h
      exact ⟨_, rfl, m475, A391, c392, A395, c396, A399, c400, A403, c404, A407, c408, A411, c412, rfl, e483, hst, (RS.mono e479 hs458), (RS.mono e480 hs461), (RS.mono e481 hs465), (RS.mono e482 hs469), (RS.mono hl476 hs473), hs477⟩
     refine wp_skip (tn (sq (qr (sg 1 [vp ob0 0] _ (hst.q 8 0 1) ?_))))
     rcases xbind_some h with ⟨p488, hq485, rfl⟩ | ⟨r484, hq485, h⟩
     ·have e489 := hl31.trans (hl36.trans (hl149.trans (hl185.trans (hl277.trans (hl362.trans hl369)))))
      exact cpa (c_parser_takes hq485 hst) (fun _ _ hp => ⟨rfl, _, rfl, hp.p e489 15 []⟩)
     refine cal (c_parser_takes hq485 hst) ?_
     rintro _ _ ⟨m486, rfl, hl487, hst⟩
     refine nl (tn (cn h (fun h => ?_) (fun h => ?_)))
     ·refine rg (sg 1 [vp ob0 0] _ (hst.q 8 0 1) ?_)
      rcases xbind_some h with ⟨p494, hq491, rfl⟩ | ⟨r490, hq491, h⟩
      ·have e495 := hl31.trans (hl36.trans (hl149.trans (hl185.trans (hl277.trans (hl362.trans (hl369.trans hl487))))))
       exact cpa (c_parser_int hq491 hst) (fun _ _ hp => ⟨rfl, _, rfl, hp.p e495 15 []⟩)
      refine cal (c_parser_int hq491 hst) ?_
      rintro _ _ ⟨m492, rfl, hl493, hst⟩
      refine s0 1 [vp b15 8] (so1 8 [vi r490.2] hst (fun _ hst => ?_))
      refine nl (tn (qr (sg 1 [va [vs A324 x323 c325, vs A329 x328 c330, vs A334 x333 c335, vi x359, vi x360, vs A339 x338 c340, vs A344 x343 c345, vs A349 x348 c350, vi r490.2]] _ (hst.q 1 0 9) (so15 0 [vs A324 x323 c325, vs A329 x328 c330, vs A334 x333 c335, vi x359, vi x360, vs A339 x338 c340, vs A344 x343 c345, vs A349 x348 c350, vi r490.2] hst (fun _ hst => ?_)))))
      refine nl (tn (wp_ret ?_))
      have hst := pk5 hst
      have e499 := hl369.trans (hl487.trans hl493)
      obtain ⟨m496, hl497, hst, hs498⟩ := hst.seal_row (T := TGVariable) (xs := x323) rfl (RC.mono e499 hrc327)
      have hst := pk5 hst
      have e503 := e499.trans hl497
      obtain ⟨m500, hl501, hst, hs502⟩ := hst.seal_row (T := TGRelation) (xs := x328) rfl (RC.mono e503 hrc332)
      have hst := pk5 hst
      have e507 := e503.trans hl501
      obtain ⟨m504, hl505, hst, hs506⟩ := hst.seal_row (T := TGAbsence) (xs := x333) rfl (RC.mono e507 hrc337)
      have hst := pk5 hst
      have e511 := e507.trans hl505
      obtain ⟨m508, hl509, hst, hs510⟩ := hst.seal_row (T := TGColumn) (xs := x338) rfl (RC.mono e511 hrc342)
      have hst := pk5 hst
      have e515 := e511.trans hl509
      obtain ⟨m512, hl513, hst, hs514⟩ := hst.seal_row (T := TGAggregate) (xs := x343) rfl (RC.mono e515 hrc347)
      have hst := pk5 hst
      have e519 := e515.trans hl513
      obtain ⟨m516, hl517, hst, hs518⟩ := hst.seal_row (T := TGOrderKey) (xs := x348) rfl (RC.mono e519 hrc352)
      refine wrr [va [vs A324 x323 c325, vs A329 x328 c330, vs A334 x333 c335, vi x359, vi x360, vs A339 x338 c340, vs A344 x343 c345, vs A349 x348 c350, vi r490.2]] _ (hst.q 9 0 9) ?_
      have e520 := hl501.trans (hl505.trans (hl509.trans (hl513.trans hl517)))
      have e521 := hl505.trans (hl509.trans (hl513.trans hl517))
      have e522 := hl509.trans (hl513.trans hl517)
      have e523 := hl513.trans hl517
      have hst := pk18 hst
      have e524 := hl31.trans (hl36.trans (hl149.trans (hl185.trans (hl277.trans (hl362.trans (hl369.trans (hl487.trans (hl493.trans (hl497.trans (hl501.trans (hl505.trans (hl509.trans (hl513.trans hl517)))))))))))))
      cases h
      exact ⟨_, rfl, m516, A324, c325, A329, c330, A334, c335, A339, c340, A344, c345, A349, c350, rfl, e524, hst, (RS.mono e520 hs498), (RS.mono e521 hs502), (RS.mono e522 hs506), (RS.mono e523 hs510), (RS.mono hl517 hs514), hs518⟩
     refine wp_skip (tn (qr (sg 1 [va [vs A324 x323 c325, vs A329 x328 c330, vs A334 x333 c335, vi x359, vi x360, vs A339 x338 c340, vs A344 x343 c345, vs A349 x348 c350, vi x361]] _ (hst.q 1 0 9) (so15 0 [vs A324 x323 c325, vs A329 x328 c330, vs A334 x333 c335, vi x359, vi x360, vs A339 x338 c340, vs A344 x343 c345, vs A349 x348 c350, vi x361] hst (fun _ hst => ?_)))))
     refine nl (tn (wp_ret ?_))
     have hst := pk5 hst
     have e528 := hl369.trans hl487
     obtain ⟨m525, hl526, hst, hs527⟩ := hst.seal_row (T := TGVariable) (xs := x323) rfl (RC.mono e528 hrc327)
     have hst := pk5 hst
     have e532 := e528.trans hl526
     obtain ⟨m529, hl530, hst, hs531⟩ := hst.seal_row (T := TGRelation) (xs := x328) rfl (RC.mono e532 hrc332)
     have hst := pk5 hst
     have e536 := e532.trans hl530
     obtain ⟨m533, hl534, hst, hs535⟩ := hst.seal_row (T := TGAbsence) (xs := x333) rfl (RC.mono e536 hrc337)
     have hst := pk5 hst
     have e540 := e536.trans hl534
     obtain ⟨m537, hl538, hst, hs539⟩ := hst.seal_row (T := TGColumn) (xs := x338) rfl (RC.mono e540 hrc342)
     have hst := pk5 hst
     have e544 := e540.trans hl538
     obtain ⟨m541, hl542, hst, hs543⟩ := hst.seal_row (T := TGAggregate) (xs := x343) rfl (RC.mono e544 hrc347)
     have hst := pk5 hst
     have e548 := e544.trans hl542
     obtain ⟨m545, hl546, hst, hs547⟩ := hst.seal_row (T := TGOrderKey) (xs := x348) rfl (RC.mono e548 hrc352)
     refine wrr [va [vs A324 x323 c325, vs A329 x328 c330, vs A334 x333 c335, vi x359, vi x360, vs A339 x338 c340, vs A344 x343 c345, vs A349 x348 c350, vi x361]] _ (hst.q 9 0 9) ?_
     have e549 := hl530.trans (hl534.trans (hl538.trans (hl542.trans hl546)))
     have e550 := hl534.trans (hl538.trans (hl542.trans hl546))
     have e551 := hl538.trans (hl542.trans hl546)
     have e552 := hl542.trans hl546
     have hst := pk18 hst
     have e553 := hl31.trans (hl36.trans (hl149.trans (hl185.trans (hl277.trans (hl362.trans (hl369.trans (hl487.trans (hl526.trans (hl530.trans (hl534.trans (hl538.trans (hl542.trans hl546))))))))))))
     cases h
     exact ⟨_, rfl, m545, A324, c325, A329, c330, A334, c335, A339, c340, A344, c345, A349, c350, rfl, e553, hst, (RS.mono e549 hs527), (RS.mono e550 hs531), (RS.mono e551 hs535), (RS.mono e552 hs539), (RS.mono hl546 hs543), hs547⟩
    refine qr (sg 1 [vp ob0 0] _ (hst.q 8 0 1) ?_)
    rcases xbind_some h with ⟨p558, hq555, rfl⟩ | ⟨r554, hq555, h⟩
    ·have e559 := hl31.trans (hl36.trans (hl149.trans (hl185.trans hl277)))
     exact cpa (c_parser_takes hq555 hst) (fun _ _ hp => ⟨rfl, _, rfl, hp.p e559 15 []⟩)
    refine cal (c_parser_takes hq555 hst) ?_
    rintro _ _ ⟨m556, rfl, hl557, hst⟩
    refine nl (tn (cn h (fun h => ?_) (fun h => ?_)))
    ·refine rg (sg 2 [vp ob0 0, vf 114 [] [vp b15 0, vp b1 0]] _ (hst.q 8 0 1) ?_)
     have e564 := hl31.trans (hl36.trans (hl149.trans (hl185.trans (hl277.trans hl557))))
     rcases xbind_some h with ⟨p565, hq561, rfl⟩ | ⟨r560, hq561, h⟩
     ·exact cpa (c_parser_list_i3 hq561 hst (RC.mono hl557 hrc242) (RC.mono hl557 hrc247) (RC.mono hl557 hrc252) (RC.mono hl557 hrc257) (RC.mono hl557 hrc262) (RC.mono hl557 hrc267) (Glob.mono e564 hG)) (fun _ _ hp => ⟨rfl, _, rfl, hp.p e564 8 []⟩)
     refine cal (c_parser_list_i3 hq561 hst (RC.mono hl557 hrc242) (RC.mono hl557 hrc247) (RC.mono hl557 hrc252) (RC.mono hl557 hrc257) (RC.mono hl557 hrc262) (RC.mono hl557 hrc267) (Glob.mono e564 hG)) ?_
     rintro _ _ ⟨m562, A572, c573, cs574, A576, c577, cs578, A580, c581, cs582, A584, c585, cs586, A588, c589, cs590, A592, c593, cs594, rfl, hl563, hst, hrc575, hrc579, hrc583, hrc587, hrc591, hrc595⟩
     refine nl (tn ?_)
     have e596 := hl557.trans hl563
     exact ⟨_, k278, m562, (r560.2.Variables), A572, c573, cs574, (r560.2.Relations), A576, c577, cs578, (r560.2.Absences), A580, c581, cs582, (r560.2.Group), A584, c585, cs586, (r560.2.Compute), A588, c589, cs590, (r560.2.Order), A592, c593, cs594, (r560.1.x_.s_), (r560.1.x_.at_), (r560.1.t_.kind), (r560.1.t_.at_), (r560.1.t_.s_), (r560.1.t_.n_), (r560.2.Slots.From), (r560.2.Slots.To), (r560.2.Limit), au, (by omega), h, e596, hst, hrc575, hrc579, hrc583, hrc587, hrc591, hrc595⟩
    refine wp_skip (tn ?_)
    exact ⟨_, k278, m556, (x238), A239, c240, cs241, (x243), A244, c245, cs246, (x248), A249, c250, cs251, (x253), A254, c255, cs256, (x258), A259, c260, cs261, (x263), A264, c265, cs266, (r554.1.x_.s_), (r554.1.x_.at_), (r554.1.t_.kind), (r554.1.t_.at_), (r554.1.t_.s_), (r554.1.t_.n_), (x274), (x275), (x276), au, (by omega), h, hl557, hst, (RC.mono hl557 hrc242), (RC.mono hl557 hrc247), (RC.mono hl557 hrc252), (RC.mono hl557 hrc257), (RC.mono hl557 hrc262), (RC.mono hl557 hrc267)⟩
   refine qr (sg 1 [vp ob0 0] _ (hst.q 8 0 1) ?_)
   rcases xbind_some h with ⟨p601, hq598, rfl⟩ | ⟨r597, hq598, h⟩
   ·have e602 := hl31.trans (hl36.trans (hl149.trans hl185))
    exact cpa (c_parser_takes hq598 hst) (fun _ _ hp => ⟨rfl, _, rfl, hp.p e602 15 []⟩)
   refine cal (c_parser_takes hq598 hst) ?_
   rintro _ _ ⟨m599, rfl, hl600, hst⟩
   refine nl (tn (cn h (fun h => ?_) (fun h => ?_)))
   ·refine qr (sg 1 [vp ob0 0] _ (hst.q 8 0 1) ?_)
    rcases xbind_some h with ⟨p607, hq604, rfl⟩ | ⟨r603, hq604, h⟩
    ·have e608 := hl31.trans (hl36.trans (hl149.trans (hl185.trans hl600)))
     exact cpa (c_parser_need hq604 hst) (fun _ _ hp => ⟨rfl, _, rfl, hp.p e608 15 []⟩)
    refine cal (c_parser_need hq604 hst) ?_
    rintro _ _ ⟨m605, rfl, hl606, hst⟩
    refine nl (tn (rg (sg 2 [vp ob0 0, vf 112 [] [vp b15 0, vp b1 0]] _ (hst.q 8 0 1) ?_)))
    have e609 := hl185.trans (hl600.trans hl606)
    have e614 := hl31.trans (hl36.trans (hl149.trans (hl185.trans (hl600.trans hl606))))
    rcases xbind_some h with ⟨p615, hq611, rfl⟩ | ⟨r610, hq611, h⟩
    ·exact cpa (c_parser_list_i2 hq611 hst (RC.mono e609 hrc114) (RC.mono e609 hrc119) (RC.mono e609 hrc124) (RC.mono e609 hrc129) (RC.mono e609 hrc134) (RC.mono e609 hrc139) (Glob.mono e614 hG)) (fun _ _ hp => ⟨rfl, _, rfl, hp.p e614 8 []⟩)
    refine cal (c_parser_list_i2 hq611 hst (RC.mono e609 hrc114) (RC.mono e609 hrc119) (RC.mono e609 hrc124) (RC.mono e609 hrc129) (RC.mono e609 hrc134) (RC.mono e609 hrc139) (Glob.mono e614 hG)) ?_
    rintro _ _ ⟨m612, A622, c623, cs624, A626, c627, cs628, A630, c631, cs632, A634, c635, cs636, A638, c639, cs640, A642, c643, cs644, rfl, hl613, hst, hrc625, hrc629, hrc633, hrc637, hrc641, hrc645⟩
    refine nl (tn ?_)
    have e646 := hl600.trans (hl606.trans hl613)
    exact ⟨_, k186, m612, (r610.2.Variables), A622, c623, cs624, (r610.2.Relations), A626, c627, cs628, (r610.2.Absences), A630, c631, cs632, (r610.2.Group), A634, c635, cs636, (r610.2.Compute), A638, c639, cs640, (r610.2.Order), A642, c643, cs644, (r610.1.x_.s_), (r610.1.x_.at_), (r610.1.t_.kind), (r610.1.t_.at_), (r610.1.t_.s_), (r610.1.t_.n_), (r610.2.Slots.From), (r610.2.Slots.To), (r610.2.Limit), au, (by omega), h, e646, hst, hrc625, hrc629, hrc633, hrc637, hrc641, hrc645⟩
   refine wp_skip (tn ?_)
   have e647 := hl185.trans hl600
   exact ⟨_, k186, m599, (x110), A111, c112, cs113, (x115), A116, c117, cs118, (x120), A121, c122, cs123, (x125), A126, c127, cs128, (x130), A131, c132, cs133, (x135), A136, c137, cs138, (r597.1.x_.s_), (r597.1.x_.at_), (r597.1.t_.kind), (r597.1.t_.at_), (r597.1.t_.s_), (r597.1.t_.n_), (x183), (x184), (x148), au, (by omega), h, hl600, hst, (RC.mono e647 hrc114), (RC.mono e647 hrc119), (RC.mono e647 hrc124), (RC.mono e647 hrc129), (RC.mono e647 hrc134), (RC.mono e647 hrc139)⟩
  refine qr (sg 1 [vp ob0 0] _ (hst.q 8 0 1) ?_)
  rcases xbind_some h with ⟨p652, hq649, rfl⟩ | ⟨r648, hq649, h⟩
  ·have e653 := hl31.trans (hl36.trans hl149)
   exact cpa (c_parser_takes hq649 hst) (fun _ _ hp => ⟨rfl, _, rfl, hp.p e653 15 []⟩)
  refine cal (c_parser_takes hq649 hst) ?_
  rintro _ _ ⟨m650, rfl, hl651, hst⟩
  refine nl (tn (cn h (fun h => ?_) (fun h => ?_)))
  ·refine qr (sg 1 [vp ob0 0] _ (hst.q 8 0 1) ?_)
   rcases xbind_some h with ⟨p658, hq655, rfl⟩ | ⟨r654, hq655, h⟩
   ·have e659 := hl31.trans (hl36.trans (hl149.trans hl651))
    exact cpa (c_parser_int hq655 hst) (fun _ _ hp => ⟨rfl, _, rfl, hp.p e659 15 []⟩)
   refine cal (c_parser_int hq655 hst) ?_
   rintro _ _ ⟨m656, rfl, hl657, hst⟩
   refine s0 2 [vp b15 3, vp b15 3] (so1 3 [vi r654.2] hst (fun _ hst => ?_))
   refine nl (tn (qr (sg 1 [vp ob0 0] _ (hst.q 8 0 1) ?_)))
   rcases xbind_some h with ⟨p664, hq661, rfl⟩ | ⟨r660, hq661, h⟩
   ·have e665 := hl31.trans (hl36.trans (hl149.trans (hl651.trans hl657)))
    exact cpa (c_parser_need hq661 hst) (fun _ _ hp => ⟨rfl, _, rfl, hp.p e665 15 []⟩)
   refine cal (c_parser_need hq661 hst) ?_
   rintro _ _ ⟨m662, rfl, hl663, hst⟩
   refine nl (tn (rg (sg 1 [vp ob0 0] _ (hst.q 8 0 1) ?_)))
   rcases xbind_some h with ⟨p670, hq667, rfl⟩ | ⟨r666, hq667, h⟩
   ·have e671 := hl31.trans (hl36.trans (hl149.trans (hl651.trans (hl657.trans hl663))))
    exact cpa (c_parser_int hq667 hst) (fun _ _ hp => ⟨rfl, _, rfl, hp.p e671 15 []⟩)
   refine cal (c_parser_int hq667 hst) ?_
   rintro _ _ ⟨m668, rfl, hl669, hst⟩
   refine s0 2 [vp b15 3, vp b15 4] (so1 4 [vi r666.2] hst (fun _ hst => ?_))
   refine nl (tn ?_)
   have e672 := hl651.trans (hl657.trans (hl663.trans hl669))
   exact ⟨_, k150, m668, (r666.1.x_.s_), (r666.1.x_.at_), (r666.1.t_.kind), (r666.1.t_.at_), (r666.1.t_.s_), (r666.1.t_.n_), (r654.2), (r666.2), au, (by omega), h, e672, hst⟩
  refine wp_skip (tn ?_)
  exact ⟨_, k150, m650, (r648.1.x_.s_), (r648.1.x_.at_), (r648.1.t_.kind), (r648.1.t_.at_), (r648.1.t_.s_), (r648.1.t_.n_), (x146), (x147), au, (by omega), h, hl651, hst⟩
 refine qr (sg 1 [vp ob0 0] _ (hst.q 8 0 1) ?_)
 rcases xbind_some h with ⟨p677, hq674, rfl⟩ | ⟨r673, hq674, h⟩
 ·have e678 := hl31.trans hl36
  exact cpa (c_parser_takes hq674 hst) (fun _ _ hp => ⟨rfl, _, rfl, hp.p e678 15 []⟩)
 refine cal (c_parser_takes hq674 hst) ?_
 rintro _ _ ⟨m675, rfl, hl676, hst⟩
 refine nl (tn (cn h (fun h => ?_) (fun h => ?_)))
 ·refine rg (sg 2 [vp ob0 0, vf 109 [] [vp b1 0, vp b15 0]] _ (hst.q 8 0 1) ?_)
  have hst := pk14 hst
  have e683 := hl31.trans (hl36.trans hl676)
  rcases xbind_some h with ⟨p684, hq680, rfl⟩ | ⟨r679, hq680, h⟩
  ·exact cpa (c_parser_list_i1 hq680 hst (RC.mono hl676 hrc47) (RC.mono hl676 hrc51) (RC.mono hl676 hrc55) (RC.mono hl676 hrc59) (RC.mono hl676 hrc63) (RC.mono hl676 hrc67) (Glob.mono e683 hG)) (fun _ _ hp => ⟨rfl, _, rfl, hp.p e683 8 []⟩)
  refine cal (c_parser_list_i1 hq680 hst (RC.mono hl676 hrc47) (RC.mono hl676 hrc51) (RC.mono hl676 hrc55) (RC.mono hl676 hrc59) (RC.mono hl676 hrc63) (RC.mono hl676 hrc67) (Glob.mono e683 hG)) ?_
  rintro _ _ ⟨m681, A691, c692, cs693, A695, c696, cs697, A699, c700, cs701, A703, c704, cs705, A707, c708, cs709, A711, c712, cs713, rfl, hl682, hst, hrc694, hrc698, hrc702, hrc706, hrc710, hrc714⟩
  refine nl (tn ?_)
  have e715 := hl676.trans hl682
  have hst := pk19 hst
  exact ⟨_, k, m681, (r679.2.Variables), A691, c692, cs693, (r679.2.Relations), A695, c696, cs697, (r679.2.Absences), A699, c700, cs701, (r679.2.Group), A703, c704, cs705, (r679.2.Compute), A707, c708, cs709, (r679.2.Order), A711, c712, cs713, (r679.1.x_.s_), (r679.1.x_.at_), (r679.1.t_.kind), (r679.1.t_.at_), (r679.1.t_.s_), (r679.1.t_.n_), (r679.2.Slots.From), (r679.2.Slots.To), (r679.2.Limit), au, (by omega), h, e715, hst, hrc694, hrc698, hrc702, hrc706, hrc710, hrc714⟩
 refine wp_skip (tn ?_)
 exact ⟨_, k, m675, (r33.2.Variables), A44, c45, cs46, (r33.2.Relations), A48, c49, cs50, (r33.2.Absences), A52, c53, cs54, (r33.2.Group), A56, c57, cs58, (r33.2.Compute), A60, c61, cs62, (r33.2.Order), A64, c65, cs66, (r673.1.x_.s_), (r673.1.x_.at_), (r673.1.t_.kind), (r673.1.t_.at_), (r673.1.t_.s_), (r673.1.t_.n_), (r33.2.Slots.From), (r33.2.Slots.To), (r33.2.Limit), au, (by omega), h, hl676, hst, (RC.mono hl676 hrc47), (RC.mono hl676 hrc51), (RC.mono hl676 hrc55), (RC.mono hl676 hrc59), (RC.mono hl676 hrc63), (RC.mono hl676 hrc67)⟩
def R_syntax_Parse_c1 (g : World) (m : Mem) (F : List Asr) (ob0 : Nat) (ob1 : Nat) (r : SParser × GQuery) (v : Value) (w' : World) : Prop := ∃ m' Av0 cv0 Av1 cv1 Av2 cv2 Av3 cv3 Av4 cv4 Av5 cv5, v = vt [] ∧ m.le m' ∧ St g m' (oo ob0 155 (cSParser r.1) :: oo ob1 36 (cGQuery r.2 (vs Av0 r.2.Variables cv0) (vs Av1 r.2.Relations cv1) (vs Av2 r.2.Absences cv2) (vs Av3 r.2.Group cv3) (vs Av4 r.2.Compute cv4) (vs Av5 r.2.Order cv5)) :: F) w' ∧ RS (TGVariable) m' (vs Av0 r.2.Variables cv0) r.2.Variables ∧ RS (TGRelation) m' (vs Av1 r.2.Relations cv1) r.2.Relations ∧ RS (TGAbsence) m' (vs Av2 r.2.Absences cv2) r.2.Absences ∧ RS (TGColumn) m' (vs Av3 r.2.Group cv3) r.2.Group ∧ RS (TGAggregate) m' (vs Av4 r.2.Compute cv4) r.2.Compute ∧ RS (TGOrderKey) m' (vs Av5 r.2.Order cv5) r.2.Order
theorem c_syntax_Parse_c1 {a0 : SParser} {a1 : GQuery} {r : Except Pan (SParser × GQuery)} {A6_ : Option Addr} {c6_ : Nat} {cs6_ : List Value} {A7_ : Option Addr} {c7_ : Nat} {cs7_ : List Value} {A8_ : Option Addr} {c8_ : Nat} {cs8_ : List Value} {A9_ : Option Addr} {c9_ : Nat} {cs9_ : List Value} {A10_ : Option Addr} {c10_ : Nat} {cs10_ : List Value} {A11_ : Option Addr} {c11_ : Nat} {cs11_ : List Value} (h : syntax_Parse_c1 k a0 a1 = some r) (hst : St g m (oo ob0 155 (cSParser a0) :: oo ob1 36 (cGQuery a1 (vs A6_ a1.Variables c6_) (vs A7_ a1.Relations c7_) (vs A8_ a1.Absences c8_) (vs A9_ a1.Group c9_) (vs A10_ a1.Compute c10_) (vs A11_ a1.Order c11_)) :: rw_ 95 8 A6_ a1.Variables c6_ cs6_ :: rw_ 104 3 A7_ a1.Relations c7_ cs7_ :: rw_ 106 11 A8_ a1.Absences c8_ cs8_ :: rw_ 101 3 A9_ a1.Group c9_ cs9_ :: rw_ 110 6 A10_ a1.Compute c10_ cs10_ :: rw_ 112 2 A11_ a1.Order c11_ cs11_ :: F) w) (hrc6_ : RC (TGVariable) m a1.Variables cs6_) (hrc7_ : RC (TGRelation) m a1.Relations cs7_) (hrc8_ : RC (TGAbsence) m a1.Absences cs8_) (hrc9_ : RC (TGColumn) m a1.Group cs9_) (hrc10_ : RC (TGAggregate) m a1.Compute cs10_) (hrc11_ : RC (TGOrderKey) m a1.Order cs11_) (hG : Glob m) :
    Calls Tryz.prog 48 ⟨[vp ob0 0, vp ob1 0]⟩ w (XPost (R_syntax_Parse_c1 g m F ob0 ob1) g m (oo ob1 36 (cGQuery a1 (vs A6_ a1.Variables c6_) (vs A7_ a1.Relations c7_) (vs A8_ a1.Absences c8_) (vs A9_ a1.Group c9_) (vs A10_ a1.Compute c10_) (vs A11_ a1.Order c11_)) :: rw_ 95 8 A6_ a1.Variables c6_ cs6_ :: rw_ 104 3 A7_ a1.Relations c7_ cs7_ :: rw_ 106 11 A8_ a1.Absences c8_ cs8_ :: rw_ 101 3 A9_ a1.Group c9_ cs9_ :: rw_ 110 6 A10_ a1.Compute c10_ cs10_ :: rw_ 112 2 A11_ a1.Order c11_ cs11_ :: F) r) := by
 refine calls_enter Tryz.func48 rfl rfl ?_
 unfold syntax_Parse_c1 at h
 refine rg (s0 1 [] ?_)
 rcases xbind_some h with ⟨p5, hq2, rfl⟩ | ⟨r1, hq2, h⟩
 ·exact cpa (c_parser_query hq2 hst hG) (fun _ _ hp => ⟨rfl, _, rfl, hp.p (Mem.le.refl _) 7 [0, 0, 0, 0, 0, 0, 0]⟩)
 refine cal (c_parser_query hq2 hst hG) ?_
 rintro _ _ ⟨m3, Aq6, cq6, Aq7, cq7, Aq8, cq8, Aq9, cq9, Aq10, cq10, Aq11, cq11, rfl, hl4, hst, hq6, hq7, hq8, hq9, hq10, hq11⟩
 refine so1 0 (cGQuery r1.2 (vs Aq6 r1.2.Variables cq6) (vs Aq7 r1.2.Relations cq7) (vs Aq8 r1.2.Absences cq8) (vs Aq9 r1.2.Group cq9) (vs Aq10 r1.2.Compute cq10) (vs Aq11 r1.2.Order cq11)) hst (fun _ hst => ?_)
 refine nl (we [] ?_)
 have hst := pk20 hst
 cases h
 exact ⟨_, rfl, m3, Aq6, cq6, Aq7, cq7, Aq8, cq8, Aq9, cq9, Aq10, cq10, Aq11, cq11, rfl, hl4, hst, hq6, hq7, hq8, hq9, hq10, hq11⟩
def R_syntax_parse (g : World) (m : Mem) (F : List Asr) (ob1 : Nat) (r : GQuery × SFailure) (v : Value) (w' : World) : Prop := ∃ m' Av0 cv0 Av1 cv1 Av2 cv2 Av3 cv3 Av4 cv4 Av5 cv5, v = va (cSFailure r.2) ∧ m.le m' ∧ St g m' (oo ob1 36 (cGQuery r.1 (vs Av0 r.1.Variables cv0) (vs Av1 r.1.Relations cv1) (vs Av2 r.1.Absences cv2) (vs Av3 r.1.Group cv3) (vs Av4 r.1.Compute cv4) (vs Av5 r.1.Order cv5)) :: F) w' ∧ RS (TGVariable) m' (vs Av0 r.1.Variables cv0) r.1.Variables ∧ RS (TGRelation) m' (vs Av1 r.1.Relations cv1) r.1.Relations ∧ RS (TGAbsence) m' (vs Av2 r.1.Absences cv2) r.1.Absences ∧ RS (TGColumn) m' (vs Av3 r.1.Group cv3) r.1.Group ∧ RS (TGAggregate) m' (vs Av4 r.1.Compute cv4) r.1.Compute ∧ RS (TGOrderKey) m' (vs Av5 r.1.Order cv5) r.1.Order
theorem c_syntax_parse {a0 : Str} {a1 : GQuery} {r : GQuery × SFailure} {A6_ : Option Addr} {c6_ : Nat} {cs6_ : List Value} {A7_ : Option Addr} {c7_ : Nat} {cs7_ : List Value} {A8_ : Option Addr} {c8_ : Nat} {cs8_ : List Value} {A9_ : Option Addr} {c9_ : Nat} {cs9_ : List Value} {A10_ : Option Addr} {c10_ : Nat} {cs10_ : List Value} {A11_ : Option Addr} {c11_ : Nat} {cs11_ : List Value} (h : syntax_parse k a0 a1 = some r) (hst : St g m (oo ob1 36 (cGQuery a1 (vs A6_ a1.Variables c6_) (vs A7_ a1.Relations c7_) (vs A8_ a1.Absences c8_) (vs A9_ a1.Group c9_) (vs A10_ a1.Compute c10_) (vs A11_ a1.Order c11_)) :: rw_ 95 8 A6_ a1.Variables c6_ cs6_ :: rw_ 104 3 A7_ a1.Relations c7_ cs7_ :: rw_ 106 11 A8_ a1.Absences c8_ cs8_ :: rw_ 101 3 A9_ a1.Group c9_ cs9_ :: rw_ 110 6 A10_ a1.Compute c10_ cs10_ :: rw_ 112 2 A11_ a1.Order c11_ cs11_ :: F) w) (hrc6_ : RC (TGVariable) m a1.Variables cs6_) (hrc7_ : RC (TGRelation) m a1.Relations cs7_) (hrc8_ : RC (TGAbsence) m a1.Absences cs8_) (hrc9_ : RC (TGColumn) m a1.Group cs9_) (hrc10_ : RC (TGAggregate) m a1.Compute cs10_) (hrc11_ : RC (TGOrderKey) m a1.Order cs11_) (hG : Glob m) :
    Calls Tryz.prog 47 ⟨[vstr a0, vf 48 [] [vp ob1 0]]⟩ w (OPost (R_syntax_parse g m F ob1) r) := by
 refine calls_enter_d Tryz.func47 rfl rfl ?_
 unfold syntax_parse at h
 refine qr (al [vi 0, vi 0] hst (fun b1 _ hst => ?_))
 refine nl (tn (sq (qr (s0 3 [vi ((a0).length : Int), vb (decide (((a0).length : Int) > 4096))] (nl (tn (cn h (fun h => ?_) (fun h => ?_))))))))
 ·refine qr (s0 1 [va [vi 0, vi 5]] (so0 0 [vi 0, vi 5] hst (fun _ hst => ?_)))
  refine nl (tn (wp_ret (tr ?_)))
  have hst := pk5 hst
  obtain ⟨m2, hl3, hst, hs4⟩ := hst.seal_row (T := TGVariable) (xs := a1.Variables) rfl hrc6_
  have hst := pk5 hst
  obtain ⟨m5, hl6, hst, hs7⟩ := hst.seal_row (T := TGRelation) (xs := a1.Relations) rfl (RC.mono hl3 hrc7_)
  have hst := pk5 hst
  have e11 := hl3.trans hl6
  obtain ⟨m8, hl9, hst, hs10⟩ := hst.seal_row (T := TGAbsence) (xs := a1.Absences) rfl (RC.mono e11 hrc8_)
  have hst := pk5 hst
  have e15 := e11.trans hl9
  obtain ⟨m12, hl13, hst, hs14⟩ := hst.seal_row (T := TGColumn) (xs := a1.Group) rfl (RC.mono e15 hrc9_)
  have hst := pk5 hst
  have e19 := e15.trans hl13
  obtain ⟨m16, hl17, hst, hs18⟩ := hst.seal_row (T := TGAggregate) (xs := a1.Compute) rfl (RC.mono e19 hrc10_)
  have hst := pk5 hst
  have e23 := e19.trans hl17
  obtain ⟨m20, hl21, hst, hs22⟩ := hst.seal_row (T := TGOrderKey) (xs := a1.Order) rfl (RC.mono e23 hrc11_)
  refine wc_ret_d0 [va [vi 0, vi 5]] [(ad b1 0, vi 0), (ad b1 1, vi 5)] (by kernel_rfl) ⟨hst.c 0, hst.c 0, trivial⟩ ?_
  have e24 := hl6.trans (hl9.trans (hl13.trans (hl17.trans hl21)))
  have e25 := hl9.trans (hl13.trans (hl17.trans hl21))
  have e26 := hl13.trans (hl17.trans hl21)
  have e27 := hl17.trans hl21
  have hst := pk0 hst
  have e28 := e23.trans hl21
  cases h
  exact ⟨_, rfl, m20, A6_, c6_, A7_, c7_, A8_, c8_, A9_, c9_, A10_, c10_, A11_, c11_, rfl, e28, hst, (RS.mono e24 hs4), (RS.mono e25 hs7), (RS.mono e26 hs10), (RS.mono e27 hs14), (RS.mono hl21 hs18), hs22⟩
 refine wp_skip (tn (qr (s0 1 [vf 101 [] [vp b1 0]] (wl_defer (d := { target := .fn (.func 101) ⟨[vp b1 0]⟩, args := ⟨[]⟩ }) rfl (by kernel_rfl) (nl (tn (qr (s0 3 [va [vstr a0, vi 0], va [vstr a0, vi 0, vi 0, vi 0, vstr w_0, vi 0]] (bo_ [vstr a0, vi 0, vi 0, vi 0, vstr w_0, vi 0] hst (fun b29 _ hst => ?_))))))))))
 refine s0 1 [] (nl (tn (qr (s0 1 [] ?_))))
 rcases xcatch_some h with ⟨p34, hq31, h⟩ | ⟨r30, hq31, h⟩
 ·refine cpa (c_parser_advance hq31 hst) (fun _ _ hp => ?_)
  refine tp ?_
  obtain ⟨rfl, m32, hl33, hst⟩ := hp
  have hst := pk5 hst
  obtain ⟨m35, hl36, hst, hs37⟩ := hst.seal_row (T := TGVariable) (xs := a1.Variables) rfl (RC.mono hl33 hrc6_)
  have hst := pk5 hst
  have e41 := hl33.trans hl36
  obtain ⟨m38, hl39, hst, hs40⟩ := hst.seal_row (T := TGRelation) (xs := a1.Relations) rfl (RC.mono e41 hrc7_)
  have hst := pk5 hst
  have e45 := e41.trans hl39
  obtain ⟨m42, hl43, hst, hs44⟩ := hst.seal_row (T := TGAbsence) (xs := a1.Absences) rfl (RC.mono e45 hrc8_)
  have hst := pk5 hst
  have e49 := e45.trans hl43
  obtain ⟨m46, hl47, hst, hs48⟩ := hst.seal_row (T := TGColumn) (xs := a1.Group) rfl (RC.mono e49 hrc9_)
  have hst := pk5 hst
  have e53 := e49.trans hl47
  obtain ⟨m50, hl51, hst, hs52⟩ := hst.seal_row (T := TGAggregate) (xs := a1.Compute) rfl (RC.mono e53 hrc10_)
  have hst := pk5 hst
  have e57 := e53.trans hl51
  obtain ⟨m54, hl55, hst, hs56⟩ := hst.seal_row (T := TGOrderKey) (xs := a1.Order) rfl (RC.mono e57 hrc11_)
  refine wc_pan_rec (p := p34) (b := b1) hst (fun _ => rfl) ⟨[va [vi p34.1, vi p34.2]], [(ad b1 0, vi p34.1), (ad b1 1, vi p34.2)], (by kernel_rfl), fun w9 hst => ⟨⟨hst.c 0, hst.c 0, trivial⟩, ?_⟩⟩
  have e58 := hl39.trans (hl43.trans (hl47.trans (hl51.trans hl55)))
  have e59 := hl43.trans (hl47.trans (hl51.trans hl55))
  have e60 := hl47.trans (hl51.trans hl55)
  have e61 := hl51.trans hl55
  have hst := pk0 hst
  have e62 := e57.trans hl55
  cases h
  exact ⟨_, rfl, m54, A6_, c6_, A7_, c7_, A8_, c8_, A9_, c9_, A10_, c10_, A11_, c11_, rfl, e62, hst, (RS.mono e58 hs37), (RS.mono e59 hs40), (RS.mono e60 hs44), (RS.mono e61 hs48), (RS.mono hl55 hs52), hs56⟩
 refine cal (c_parser_advance hq31 hst) ?_
 rintro _ _ ⟨m32, rfl, hl33, hst⟩
 refine nl (tn (qr (s0 2 [] ?_)))
 have hst := pk19 hst
 rcases xcatch_some h with ⟨p67, hq64, h⟩ | ⟨r63, hq64, h⟩
 ·refine cpa (c_syntax_Parse_c1 hq64 hst (RC.mono hl33 hrc6_) (RC.mono hl33 hrc7_) (RC.mono hl33 hrc8_) (RC.mono hl33 hrc9_) (RC.mono hl33 hrc10_) (RC.mono hl33 hrc11_) (Glob.mono hl33 hG)) (fun _ _ hp => ?_)
  refine tp ?_
  obtain ⟨rfl, m65, hl66, hst⟩ := hp
  have hst := pk1 hst
  have e71 := hl33.trans hl66
  obtain ⟨m68, hl69, hst, hs70⟩ := hst.seal_row (T := TGVariable) (xs := a1.Variables) rfl (RC.mono e71 hrc6_)
  have hst := pk1 hst
  have e75 := e71.trans hl69
  obtain ⟨m72, hl73, hst, hs74⟩ := hst.seal_row (T := TGRelation) (xs := a1.Relations) rfl (RC.mono e75 hrc7_)
  have hst := pk1 hst
  have e79 := e75.trans hl73
  obtain ⟨m76, hl77, hst, hs78⟩ := hst.seal_row (T := TGAbsence) (xs := a1.Absences) rfl (RC.mono e79 hrc8_)
  have hst := pk1 hst
  have e83 := e79.trans hl77
  obtain ⟨m80, hl81, hst, hs82⟩ := hst.seal_row (T := TGColumn) (xs := a1.Group) rfl (RC.mono e83 hrc9_)
  have hst := pk1 hst
  have e87 := e83.trans hl81
  obtain ⟨m84, hl85, hst, hs86⟩ := hst.seal_row (T := TGAggregate) (xs := a1.Compute) rfl (RC.mono e87 hrc10_)
  have hst := pk1 hst
  have e91 := e87.trans hl85
  obtain ⟨m88, hl89, hst, hs90⟩ := hst.seal_row (T := TGOrderKey) (xs := a1.Order) rfl (RC.mono e91 hrc11_)
  have hst := pk1 hst
  refine wc_pan_rec (p := p67) (b := b1) hst (fun _ => rfl) ⟨[va [vi p67.1, vi p67.2]], [(ad b1 0, vi p67.1), (ad b1 1, vi p67.2)], (by kernel_rfl), fun w9 hst => ⟨⟨hst.c 0, hst.c 0, trivial⟩, ?_⟩⟩
  have e92 := hl73.trans (hl77.trans (hl81.trans (hl85.trans hl89)))
  have e93 := hl77.trans (hl81.trans (hl85.trans hl89))
  have e94 := hl81.trans (hl85.trans hl89)
  have e95 := hl85.trans hl89
  have hst := pk0 hst
  have e96 := e91.trans hl89
  cases h
  exact ⟨_, rfl, m88, A6_, c6_, A7_, c7_, A8_, c8_, A9_, c9_, A10_, c10_, A11_, c11_, rfl, e96, hst, (RS.mono e92 hs70), (RS.mono e93 hs74), (RS.mono e94 hs78), (RS.mono e95 hs82), (RS.mono hl89 hs86), hs90⟩
 refine cal (c_syntax_Parse_c1 hq64 hst (RC.mono hl33 hrc6_) (RC.mono hl33 hrc7_) (RC.mono hl33 hrc8_) (RC.mono hl33 hrc9_) (RC.mono hl33 hrc10_) (RC.mono hl33 hrc11_) (Glob.mono hl33 hG)) ?_
 rintro _ _ ⟨m65, Aq97, cq97, Aq98, cq98, Aq99, cq99, Aq100, cq100, Aq101, cq101, Aq102, cq102, rfl, hl66, hst, hq97, hq98, hq99, hq100, hq101, hq102⟩
 refine nl (tn (sq (qr (sg 6 [vp b29 0, vp b29 2, vp b29 2, vi r63.1.t_.kind, vb (r63.1.t_.kind != 0)] _ (hst.q 0 2 1) (nl (tn (cn h (fun h => ?_) (fun h => ?_))))))))
 ·refine rg (s0 1 [] ?_)
  rcases xcatch_some h with ⟨p107, hq104, h⟩ | ⟨r103, hq104, h⟩
  ·refine cpa (c_parser_wrong hq104 hst) (fun _ _ hp => ?_)
   refine tp ?_
   obtain ⟨rfl, m105, hl106, hst⟩ := hp
   have hst := pk5 hst
   refine wc_pan_rec (p := p107) (b := b1) hst (fun _ => rfl) ⟨[va [vi p107.1, vi p107.2]], [(ad b1 0, vi p107.1), (ad b1 1, vi p107.2)], (by kernel_rfl), fun w9 hst => ⟨⟨hst.c 0, hst.c 0, trivial⟩, ?_⟩⟩
   have hst := pk2 hst
   have e108 := hl33.trans (hl66.trans hl106)
   cases h
   exact ⟨_, rfl, m105, Aq97, cq97, Aq98, cq98, Aq99, cq99, Aq100, cq100, Aq101, cq101, Aq102, cq102, rfl, e108, hst, (RS.mono hl106 hq97), (RS.mono hl106 hq98), (RS.mono hl106 hq99), (RS.mono hl106 hq100), (RS.mono hl106 hq101), (RS.mono hl106 hq102)⟩
  cases h
 refine wp_skip (tn (qr (s0 1 [va [vi 0, vi 0]] (so2 0 [vi 0, vi 0] hst (fun _ hst => ?_)))))
 refine nl (tn (wp_ret ((wc_ret_rec (b := b1) (fun _ => rfl)) [va [vi 0, vi 0]] [(ad b1 0, vi 0), (ad b1 1, vi 0)] (by kernel_rfl) ⟨hst.c 2, hst.c 2, trivial⟩ ?_)))
 have hst := pk15 hst
 have e109 := hl33.trans hl66
 cases h
 exact ⟨_, rfl, m65, Aq97, cq97, Aq98, cq98, Aq99, cq99, Aq100, cq100, Aq101, cq101, Aq102, cq102, rfl, e109, hst, hq97, hq98, hq99, hq100, hq101, hq102⟩
abbrev R_attribute_isTest := RBool
theorem c_attribute_isTest {a0 : GPred} {r : Bool} (h : attribute_isTest a0 = some r) (hst : St g m (F) w) (hu0 : RS (TGPred) m (vs Au0 a0.Args cu0) a0.Args) :
    Calls Tryz.prog 149 ⟨[va (cGPred a0 (vs Au0 a0.Args cu0))]⟩ w (OPost (R_attribute_isTest g m F) r) := by
 refine calls_enter Tryz.func149 rfl rfl ?_
 unfold attribute_isTest at h
 refine qr (bo_ (cGPred a0 (vs Au0 a0.Args cu0)) hst (fun b1 _ hst => ?_))
 refine s0 1 [vb false] (nl (tn (qr (sg 4 [vp b1 0, vi a0.Op, vb (a0.Op == 5)] _ (hst.q 0 0 1) ?_))))
 rcases sp h with ⟨hc2, h⟩ | ⟨hc2, h⟩
 ·rw [hc2]
  refine sk 3 (s0 2 [vb true] (sk 3 (s0 2 [vb true] (nl (tn (wp_ret (wr [vb true] ?_)))))))
  have hst := pk0 hst
  have h := Option.some.inj h; subst h
  exact ⟨_, rfl, m, rfl, (Mem.le.refl _), hst⟩
 rw [hc2]
 refine sg 5 [vp b1 0, vi a0.Op, vb (a0.Op == 6), vb (a0.Op == 6)] _ (hst.q 0 0 1) ?_
 rcases sp h with ⟨hc3, h⟩ | ⟨hc3, h⟩
 ·rw [hc3]
  refine sk 3 (s0 2 [vb true] (nl (tn (wp_ret (wr [vb true] ?_)))))
  have hst := pk0 hst
  have h := Option.some.inj h; subst h
  exact ⟨_, rfl, m, rfl, (Mem.le.refl _), hst⟩
 rw [hc3]
 refine sg 5 [vp b1 0, vi a0.Op, vb (a0.Op == 7), vb (a0.Op == 7)] _ (hst.q 0 0 1) (nl (tn (wp_ret (wr [vb (a0.Op == 7)] ?_))))
 have hst := pk0 hst
 cases h
 exact ⟨_, rfl, m, rfl, (Mem.le.refl _), hst⟩
abbrev R_attribute_within := RBool
theorem c_attribute_within {a0 : Str} {a1 : Int} {a2 : Int} {r : Bool} (h : attribute_within k a0 a1 a2 = some r) (hst : St g m (F) w) :
    Calls Tryz.prog 170 ⟨[vstr a0, vu a1, vu a2]⟩ w (OPost (R_attribute_within g m F) r) := by
 refine calls_enter Tryz.func170 rfl rfl ?_
 unfold attribute_within at h
 refine qr (s0 1 [vb false] (nl (tn (sq (qr (s0 3 [vi ((a0).length : Int), vi 0] (nl (tn (bk (wc_loop (fun kk a w => ∃ f0 m22 x9, a = act Tryz.f170.ntmps (upds f0 [(0, vstr a0), (1, vu a1), (2, vu a2), (6, vb false), (9, vi ((a0).length : Int)), (10, vi x9)]) ∧ kk ≤ k ∧ attribute_within_l1 kk a0 a1 a2 x9 = some r ∧ m.le m22 ∧ St g m22 (F) w) k ?_ ?_))))))))))
 ·exact ⟨_, m, (0), au, (Nat.le_refl _), h, (Mem.le.refl _), hst⟩
 rintro k20 ih21 _ _ ⟨f0, m22, x9, rfl, hk19, h, hl18, hst⟩
 obtain _ | k24 := k20
 ·simp [attribute_within_l1] at h
 rw [attribute_within_l1] at h
 refine qr (s0 1 [vb (decide (x9 < ((a0).length : Int)))] (nl (tn (sq (cn h (fun h => ?_) (fun h => ?_))))))
 ·refine wp_skip (tn (sq (bk (qr (s0 2 [] (nl (tn (qr (s0 2 [] ?_)))))))))
  obtain ⟨c26, hc27, h⟩ := ix h
  refine vl (ria hc27.1 hc27.2) (s0 3 [vb (decide ((c26.toNat : Int) < a1))] ?_)
  rcases sp h with ⟨hc28, h⟩ | ⟨hc28, h⟩
  ·rw [hc28]
   refine sk 5 (s0 1 [vb true] (nl (tn (ct (qr (s0 1 [vb false] (nl (tn (wp_ret (br (tr (tr (br (tr (wr [vb false] ?_)))))))))))))))
   have h := Option.some.inj h; subst h
   exact ⟨_, rfl, m22, rfl, hl18, hst⟩
  rw [hc28]
  refine s0 2 [] ?_
  obtain ⟨c30, hc31, h⟩ := ix h
  refine vl (ria hc31.1 hc31.2) (s0 3 [vb (decide ((c30.toNat : Int) > a2)), vb (decide ((c30.toNat : Int) > a2))] (nl (tn (cn h (fun h => ?_) (fun h => ?_)))))
  ·refine qr (s0 1 [vb false] (nl (tn (wp_ret (br (tr (tr (br (tr (wr [vb false] ?_))))))))))
   have h := Option.some.inj h; subst h
   exact ⟨_, rfl, m22, rfl, hl18, hst⟩
  refine wp_skip (bn (tn (rg (s0 2 [vi (w64 (x9 + 1))] (nl (tn ?_))))))
  exact ih21 k24 (by omega) _ _ ⟨_, m22, (w64 (x9 + 1)), au, (by omega), h, hl18, hst⟩
 refine wp_exit (tx (tx (bx (tn (qr (s0 1 [vb true] (nl (tn (wp_ret (wr [vb true] ?_))))))))))
 have h := Option.some.inj h; subst h
 exact ⟨_, rfl, m22, rfl, hl18, hst⟩
abbrev R_attribute_IsName := RBool
theorem c_attribute_IsName {a0 : Str} {r : Bool} (h : attribute_IsName k a0 = some r) (hst : St g m (F) w) :
    Calls Tryz.prog 150 ⟨[vstr a0]⟩ w (OPost (R_attribute_IsName g m F) r) := by
 refine calls_enter Tryz.func150 rfl rfl ?_
 unfold attribute_IsName at h
 refine qr (s0 1 [vb false] (nl (tn (qr (s0 1 [] (vl (rne a0 w_0) (s0 1 [] ?_)))))))
 rcases sp h with ⟨hc1, h⟩ | ⟨hc1, h⟩
 ·rw [hc1]
  refine s0 5 [vi ((a0).length : Int), vb (decide (((a0).length : Int) ≤ 64)), vb (decide (((a0).length : Int) ≤ 64))] ?_
  rcases sp h with ⟨hc2, h⟩ | ⟨hc2, h⟩
  ·rw [hc2]
   refine s0 1 [] ?_
   obtain ⟨r3, hq4, h⟩ := bs h
   refine cal (c_attribute_within hq4 hst) ?_
   rintro _ _ ⟨m5, rfl, hl6, hst⟩
   refine s0 2 [vb r3] (nl (tn (wp_ret (wr [vb r3] ?_))))
   have h := Option.some.inj h; subst h
   exact ⟨_, rfl, m5, rfl, hl6, hst⟩
  rw [hc2]
  refine sk 2 (s0 2 [vb false] (nl (tn (wp_ret (wr [vb false] ?_)))))
  have h := Option.some.inj h; subst h
  exact ⟨_, rfl, m, rfl, (Mem.le.refl _), hst⟩
 rw [hc1]
 refine sk 3 (s0 2 [vb false] (sk 2 (s0 2 [vb false] (nl (tn (wp_ret (wr [vb false] ?_)))))))
 have h := Option.some.inj h; subst h
 exact ⟨_, rfl, m, rfl, (Mem.le.refl _), hst⟩
abbrev R_attribute_CheckValue := RInt
theorem c_attribute_CheckValue {a0 : GValue} {r : Int} (h : attribute_CheckValue k a0 = some r) (hst : St g m (F) w) :
    Calls Tryz.prog 151 ⟨[va (cGValue a0)]⟩ w (OPost (R_attribute_CheckValue g m F) r) := by
 refine calls_enter Tryz.func151 rfl rfl ?_
 unfold attribute_CheckValue at h
 refine qr (bo_ (cGValue a0) hst (fun b1 _ hst => ?_))
 refine s0 1 [vi 0] (nl (tn (qr (s0 1 [vb false] (nl (tn (wc_join (fun a w => ∃ f0 m15 x11, a = act Tryz.f151.ntmps (upds f0 [(1, vp b1 0), (2, vi 0), (3, vb x11)]) ∧ attribute_CheckValue_j1 a0 x11 = some r ∧ m.le m15 ∧ St g m15 (oo b1 41 (cGValue a0) :: F) w) ?_ ?_)))))))
 ·rintro _ _ ⟨f0, m15, x11, rfl, h, hl12, hst⟩
  unfold attribute_CheckValue_j1 at h
  refine sq (bk (qr (sg 5 [vp b1 1, vstr a0.Text, vi ((a0.Text).length : Int), vb (decide (((a0.Text).length : Int) > 4096))] _ (hst.q 0 1 1) (nl (tn (cn h (fun h => ?_) (fun h => ?_)))))))
  ·refine qr (s0 1 [vi 5] (nl (tn (wp_ret (br (tr (wr [vi 5] ?_)))))))
   have hst := pk0 hst
   have h := Option.some.inj h; subst h
   exact ⟨_, rfl, m15, rfl, hl12, hst⟩
  refine qr (s0 3 [vb (!x11)] (nl (tn (cn h (fun h => ?_) (fun h => ?_)))))
  ·refine qr (s0 1 [vi 3] (nl (tn (wp_ret (br (tr (wr [vi 3] ?_)))))))
   have hst := pk0 hst
   have h := Option.some.inj h; subst h
   exact ⟨_, rfl, m15, rfl, hl12, hst⟩
  refine wp_skip (bn (tn (qr (s0 1 [vi 0] (nl (tn (wp_ret (wr [vi 0] ?_))))))))
  have hst := pk0 hst
  have h := Option.some.inj h; subst h
  exact ⟨_, rfl, m15, rfl, hl12, hst⟩
 refine qr (sg 2 [vp b1 0, vi a0.Kind] _ (hst.q 0 0 1) (nl (tn (bk (qr (s0 2 [vb (a0.Kind == 1)] (nl (tn (cn h (fun h => ?_) (fun h => ?_))))))))))
 ·refine rg (sg 2 [vp b1 1, vstr a0.Text] _ (hst.q 0 1 1) ?_)
  obtain ⟨r16, hq17, h⟩ := bs h
  refine cal (c_attribute_within hq17 hst) ?_
  rintro _ _ ⟨m18, rfl, hl19, hst⟩
  refine s0 1 [] ?_
  rcases sp h with ⟨hc20, h⟩ | ⟨hc20, h⟩
  ·rw [hc20]
   refine sg 5 [vp b1 2, vi a0.Int, vb (a0.Int == 0), vb (a0.Int == 0)] _ (hst.q 0 2 1) (nl (bn (tn ?_)))
   exact ⟨_, m18, ((a0.Int == 0)), au, h, hl19, hst⟩
  rw [hc20]
  refine sk 3 (s0 2 [vb false] (nl (bn (tn ?_))))
  exact ⟨_, m18, (false), au, h, hl19, hst⟩
 refine qr (s0 2 [vb (a0.Kind == 2)] (nl (tn (cn h (fun h => ?_) (fun h => ?_)))))
 ·refine rg (sg 2 [vp b1 1, vstr a0.Text] _ (hst.q 0 1 1) (vl (re a0.Text w_0) (s0 1 [] ?_)))
  rcases sp h with ⟨hc21, h⟩ | ⟨hc21, h⟩
  ·rw [hc21]
   refine sg 5 [vp b1 2, vi a0.Int, vb (decide (a0.Int ≥ (-1099511627776))), vb (decide (a0.Int ≥ (-1099511627776)))] _ (hst.q 0 2 1) ?_
   rcases sp h with ⟨hc22, h⟩ | ⟨hc22, h⟩
   ·rw [hc22]
    refine sg 5 [vp b1 2, vi a0.Int, vb (decide (a0.Int ≤ 1099511627776)), vb (decide (a0.Int ≤ 1099511627776))] _ (hst.q 0 2 1) (nl (bn (tn ?_)))
    exact ⟨_, m, (decide (a0.Int ≤ 1099511627776)), au, h, (Mem.le.refl _), hst⟩
   rw [hc22]
   refine sk 3 (s0 2 [vb false] (nl (bn (tn ?_))))
   exact ⟨_, m, (false), au, h, (Mem.le.refl _), hst⟩
  rw [hc21]
  refine sk 3 (s0 2 [vb false] (sk 3 (s0 2 [vb false] (nl (bn (tn ?_))))))
  exact ⟨_, m, (false), au, h, (Mem.le.refl _), hst⟩
 refine qr (s0 2 [vb (a0.Kind == 3)] (nl (tn (cn h (fun h => ?_) (fun h => ?_)))))
 ·refine rg (sg 2 [vp b1 1, vstr a0.Text] _ (hst.q 0 1 1) (vl (re a0.Text w_0) (s0 1 [] ?_)))
  rcases sp h with ⟨hc23, h⟩ | ⟨hc23, h⟩
  ·rw [hc23]
   refine sg 4 [vp b1 2, vi a0.Int, vb (a0.Int == 0)] _ (hst.q 0 2 1) ?_
   rcases sp h with ⟨hc24, h⟩ | ⟨hc24, h⟩
   ·rw [hc24]
    refine sk 3 (s0 3 [vb true, vb true] (nl (bn (tn ?_))))
    exact ⟨_, m, (true), au, h, (Mem.le.refl _), hst⟩
   rw [hc24]
   refine sg 6 [vp b1 2, vi a0.Int, vb (a0.Int == 1), vb (a0.Int == 1), vb (a0.Int == 1)] _ (hst.q 0 2 1) (nl (bn (tn ?_)))
   exact ⟨_, m, ((a0.Int == 1)), au, h, (Mem.le.refl _), hst⟩
  rw [hc23]
  refine sk 8 (s0 2 [vb false] (nl (bn (tn ?_))))
  exact ⟨_, m, (false), au, h, (Mem.le.refl _), hst⟩
 refine qr (s0 1 [vi 12] (nl (tn (wp_ret (br (tr (wr [vi 12] ?_)))))))
 have hst := pk0 hst
 have h := Option.some.inj h; subst h
 exact ⟨_, rfl, m, rfl, (Mem.le.refl _), hst⟩
end Go.Proofs.YtfnaahkgegfbnaaGreatDoor
