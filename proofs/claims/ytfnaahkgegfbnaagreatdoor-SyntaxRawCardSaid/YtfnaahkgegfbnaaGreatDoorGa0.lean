/- Contracts of Go functions. Written by a program of this session. -/
import Derived.Test.YtfnaahkgegfbnaaGreatDoorPK
import Derived.Test.YtfnaahkgegfbnaaGreatDoorShelf
import Derived.Test.YtfnaahkgegfbnaaGreatDoorDa
set_option linter.unusedVariables false
set_option linter.unusedSimpArgs false
set_option maxRecDepth 10000
namespace Go.Proofs.YtfnaahkgegfbnaaGreatDoor

def R_syntax_letter (g : World) (m : Mem) (F : List Asr) (r : Bool) (v : Value) (w' : World) : Prop := ∃ (m' : Mem), v = vb r ∧ m.le m' ∧ St g m' (F) w'
theorem c_syntax_letter {a0 : Int} {r : Bool} {g : World} {m : Mem} {F : List Asr} {w : World} (h : syntax_letter a0 = some r) (hst : St g m (F) w) :
    Calls Tryz.prog 96 ⟨[vu a0]⟩ w (OPost (R_syntax_letter g m F) r) := by
 refine calls_enter Tryz.func96 rfl rfl ?_
 unfold syntax_letter at h
 refine qr (s0 1 [(2, vb false)] (nl (tn (qr (s0 3 [(3, vu a0), (4, vb (decide (a0 ≥ 97))), (5, vb (decide (a0 ≥ 97)))] ?_)))))
 rcases sp h with ⟨hc1, h⟩ | ⟨hc1, h⟩
 ·rw [hc1]
  refine s0 4 [(6, vu a0), (7, vb (decide (a0 ≤ 122))), (8, vb (decide (a0 ≤ 122))), (9, vb (decide (a0 ≤ 122)))] ?_
  rcases sp h with ⟨hc2, h⟩ | ⟨hc2, h⟩
  ·rw [hc2]
   refine s0 12 [(10, undef), (11, undef), (12, undef), (13, undef), (14, undef), (15, undef), (16, vb true), (17, vb true), (18, undef), (19, undef), (20, vb true), (2, vb true)] (nl (tn (wp_ret (wr [vb true] ?_))))
   have h := Option.some.inj h; subst h
   exact ⟨_, rfl, m, rfl, (Mem.le.refl _), hst⟩
  rw [hc2]
  refine s0 3 [(10, vu a0), (11, vb (decide (a0 ≥ 65))), (12, vb (decide (a0 ≥ 65)))] ?_
  rcases sp h with ⟨hc3, h⟩ | ⟨hc3, h⟩
  ·rw [hc3]
   refine s0 5 [(13, vu a0), (14, vb (decide (a0 ≤ 90))), (15, vb (decide (a0 ≤ 90))), (16, vb (decide (a0 ≤ 90))), (17, vb (decide (a0 ≤ 90)))] ?_
   rcases sp h with ⟨hc4, h⟩ | ⟨hc4, h⟩
   ·rw [hc4]
    refine s0 4 [(18, undef), (19, undef), (20, vb true), (2, vb true)] (nl (tn (wp_ret (wr [vb true] ?_))))
    have h := Option.some.inj h; subst h
    exact ⟨_, rfl, m, rfl, (Mem.le.refl _), hst⟩
   rw [hc4]
   refine s0 4 [(18, vu a0), (19, vb (a0 == 95)), (20, vb (a0 == 95)), (2, vb (a0 == 95))] (nl (tn (wp_ret (wr [vb (a0 == 95)] ?_))))
   cases h
   exact ⟨_, rfl, m, rfl, (Mem.le.refl _), hst⟩
  rw [hc3]
  refine s0 9 [(13, undef), (14, undef), (15, vb false), (16, vb false), (17, vb false), (18, vu a0), (19, vb (a0 == 95)), (20, vb (a0 == 95)), (2, vb (a0 == 95))] (nl (tn (wp_ret (wr [vb (a0 == 95)] ?_))))
  cases h
  exact ⟨_, rfl, m, rfl, (Mem.le.refl _), hst⟩
 rw [hc1]
 refine s0 7 [(6, undef), (7, undef), (8, vb false), (9, vb false), (10, vu a0), (11, vb (decide (a0 ≥ 65))), (12, vb (decide (a0 ≥ 65)))] ?_
 rcases sp h with ⟨hc5, h⟩ | ⟨hc5, h⟩
 ·rw [hc5]
  refine s0 5 [(13, vu a0), (14, vb (decide (a0 ≤ 90))), (15, vb (decide (a0 ≤ 90))), (16, vb (decide (a0 ≤ 90))), (17, vb (decide (a0 ≤ 90)))] ?_
  rcases sp h with ⟨hc6, h⟩ | ⟨hc6, h⟩
  ·rw [hc6]
   refine s0 4 [(18, undef), (19, undef), (20, vb true), (2, vb true)] (nl (tn (wp_ret (wr [vb true] ?_))))
   have h := Option.some.inj h; subst h
   exact ⟨_, rfl, m, rfl, (Mem.le.refl _), hst⟩
  rw [hc6]
  refine s0 4 [(18, vu a0), (19, vb (a0 == 95)), (20, vb (a0 == 95)), (2, vb (a0 == 95))] (nl (tn (wp_ret (wr [vb (a0 == 95)] ?_))))
  cases h
  exact ⟨_, rfl, m, rfl, (Mem.le.refl _), hst⟩
 rw [hc5]
 refine s0 9 [(13, undef), (14, undef), (15, vb false), (16, vb false), (17, vb false), (18, vu a0), (19, vb (a0 == 95)), (20, vb (a0 == 95)), (2, vb (a0 == 95))] (nl (tn (wp_ret (wr [vb (a0 == 95)] ?_))))
 cases h
 exact ⟨_, rfl, m, rfl, (Mem.le.refl _), hst⟩

def R_syntax_digit (g : World) (m : Mem) (F : List Asr) (r : Bool) (v : Value) (w' : World) : Prop := ∃ (m' : Mem), v = vb r ∧ m.le m' ∧ St g m' (F) w'
theorem c_syntax_digit {a0 : Int} {r : Bool} {g : World} {m : Mem} {F : List Asr} {w : World} (h : syntax_digit a0 = some r) (hst : St g m (F) w) :
    Calls Tryz.prog 152 ⟨[vu a0]⟩ w (OPost (R_syntax_digit g m F) r) := by
 refine calls_enter Tryz.func152 rfl rfl ?_
 unfold syntax_digit at h
 refine qr (s0 1 [(2, vb false)] (nl (tn (qr (s0 3 [(3, vu a0), (4, vb (decide (a0 ≥ 48))), (5, vb (decide (a0 ≥ 48)))] ?_)))))
 rcases sp h with ⟨hc1, h⟩ | ⟨hc1, h⟩
 ·rw [hc1]
  refine s0 4 [(6, vu a0), (7, vb (decide (a0 ≤ 57))), (8, vb (decide (a0 ≤ 57))), (2, vb (decide (a0 ≤ 57)))] (nl (tn (wp_ret (wr [vb (decide (a0 ≤ 57))] ?_))))
  cases h
  exact ⟨_, rfl, m, rfl, (Mem.le.refl _), hst⟩
 rw [hc1]
 refine s0 4 [(6, undef), (7, undef), (8, vb false), (2, vb false)] (nl (tn (wp_ret (wr [vb false] ?_))))
 have h := Option.some.inj h; subst h
 exact ⟨_, rfl, m, rfl, (Mem.le.refl _), hst⟩

def R_syntax_inner (g : World) (m : Mem) (F : List Asr) (r : Bool) (v : Value) (w' : World) : Prop := ∃ (m' : Mem), v = vb r ∧ m.le m' ∧ St g m' (F) w'
theorem c_syntax_inner {a0 : Int} {r : Bool} {g : World} {m : Mem} {F : List Asr} {w : World} (h : syntax_inner a0 = some r) (hst : St g m (F) w) :
    Calls Tryz.prog 97 ⟨[vu a0]⟩ w (OPost (R_syntax_inner g m F) r) := by
 refine calls_enter Tryz.func97 rfl rfl ?_
 unfold syntax_inner at h
 refine qr (s0 1 [(2, vb false)] (nl (tn (qr (s0 1 [(3, vu a0)] ?_)))))
 obtain ⟨r1, hq2, h⟩ := bs h
 refine cal (c_syntax_letter hq2 hst) ?_
 rintro _ _ ⟨m3, rfl, hl4, hst⟩
 refine s0 1 [(5, vb r1)] ?_
 rcases sp h with ⟨hc5, h⟩ | ⟨hc5, h⟩
 ·rw [hc5]
  refine s0 8 [(6, undef), (7, undef), (8, vb true), (9, vb true), (10, undef), (11, undef), (12, vb true), (2, vb true)] (nl (tn (wp_ret (wr [vb true] ?_))))
  have h := Option.some.inj h; subst h
  exact ⟨_, rfl, m3, rfl, hl4, hst⟩
 rw [hc5]
 refine s0 1 [(6, vu a0)] ?_
 obtain ⟨r6, hq7, h⟩ := bs h
 refine cal (c_syntax_digit hq7 hst) ?_
 rintro _ _ ⟨m8, rfl, hl9, hst⟩
 refine s0 2 [(8, vb r6), (9, vb r6)] ?_
 rcases sp h with ⟨hc10, h⟩ | ⟨hc10, h⟩
 ·rw [hc10]
  refine s0 4 [(10, undef), (11, undef), (12, vb true), (2, vb true)] (nl (tn (wp_ret (wr [vb true] ?_))))
  have e11 := hl4.trans hl9
  have h := Option.some.inj h; subst h
  exact ⟨_, rfl, m8, rfl, e11, hst⟩
 rw [hc10]
 refine s0 4 [(10, vu a0), (11, vb (a0 == 45)), (12, vb (a0 == 45)), (2, vb (a0 == 45))] (nl (tn (wp_ret (wr [vb (a0 == 45)] ?_))))
 have e12 := hl4.trans hl9
 cases h
 exact ⟨_, rfl, m8, rfl, e12, hst⟩

def R_lexer_skip (g : World) (m : Mem) (F : List Asr) (ob0 : Nat) (r : SParser) (v : Value) (w' : World) : Prop := ∃ (m' : Mem), v = vt [] ∧ m.le m' ∧ St g m' (oo ob0 155 (cSParser r) :: F) w'
theorem c_lexer_skip {k : Nat} {a0 : SParser} {r : SParser} {g : World} {m : Mem} {F : List Asr} {w : World} {ob0 : Nat} (h : lexer_skip k a0 = some r) (hst : St g m (oo ob0 155 (cSParser a0) :: F) w) :
    Calls Tryz.prog 172 ⟨[vp ob0 0, vf 97 [] []]⟩ w (OPost (R_lexer_skip g m F ob0) r) := by
 refine calls_enter Tryz.func172 rfl rfl ?_
 unfold lexer_skip at h
 refine bk (wc_loop (fun kk a w => ∃ (f0 : Fr) (m40 : Mem) (x18 : Int), a = act Tryz.f172.ntmps (upds f0 [(0, vp ob0 0), (1, vf 97 [] [])]) ∧ kk ≤ k ∧ lexer_skip_l1 kk a0 x18 = some r ∧ m.le m40 ∧ St g m40 (oo ob0 155 [vstr a0.x_.s_, vi x18, vi a0.t_.kind, vi a0.t_.at_, vstr a0.t_.s_, vi a0.t_.n_] :: F) w) k ?_ ?_)
 ·exact ⟨_, m, (a0.x_.at_), (act_upds ⟨by kernel_rfl, by kernel_rfl, trivial⟩), (Nat.le_refl _), h, (Mem.le.refl _), hst⟩
 rintro k38 ih39 _ _ ⟨f0, m40, x18, rfl, hk37, h, hl36, hst⟩
 obtain _ | k42 := k38
 ·simp [lexer_skip_l1] at h
 rw [lexer_skip_l1] at h
 refine sq (sq (wc_draw false (fun x => Rd m40 (oo ob0 155 [vstr a0.x_.s_, vi x18, vi a0.t_.kind, vi a0.t_.at_, vstr a0.t_.s_, vi a0.t_.n_] :: []) x) (by kernel_rfl) ?_))
 have hst := hst.drew
 refine wpG_seg [0, 4, 1, 5, 2, 6, 3, 7, 8, 9, 10] [(4, vp ob0 0), (8, vp ob0 0), (5, vp ob0 0), (9, vp ob0 0), (6, vp ob0 1), (10, vp ob0 0), (7, vi x18), (11, vstr a0.x_.s_), (12, vi ((a0.x_.s_).length : Int)), (13, vb (decide (x18 < ((a0.x_.s_).length : Int)))), (14, vb (decide (x18 < ((a0.x_.s_).length : Int))))] [(ad ob0 1, vi x18), (ad ob0 0, vstr a0.x_.s_)] #[true, true, true, true, true, true, true, true, true, true, true, false, false, false, false, false, false, false, false, false, false, false, false] (fuel := 12) (PQ.then_ (PQ.then_ (PQ.then_ (PQ.block_ PQ.body)))) (by kernel_rfl) (by kernel_rfl) (hst.rd.with_ 0 rfl (hst.rd.none_)) (fun x hx => ⟨hx.c 0, hx.c 0, trivial⟩) ?_
 rcases sp h with ⟨hc51, h⟩ | ⟨hc51, h⟩
 ·rw [hc51]
  refine wpG_seg [11, 12, 16, 13, 17, 14, 18, 15, 19] [(15, vf 97 [] []), (16, vp ob0 0), (20, vp ob0 0), (17, vp ob0 0), (21, vp ob0 0), (18, vp ob0 0), (22, vp ob0 1), (19, vstr a0.x_.s_), (23, vi x18)] [(ad ob0 0, vstr a0.x_.s_), (ad ob0 1, vi x18)] #[true, true, true, true, true, true, true, true, true, true, true, true, true, true, true, true, true, true, true, true, false, false, false] (fuel := 3) (PQ.then_ (PQ.then_ (PQ.then_ (PQ.block_ PQ.body)))) (by kernel_rfl) (by kernel_rfl) (hst.rd.with_ 0 rfl (hst.rd.none_)) (fun x hx => ⟨hx.c 0, hx.c 0, trivial⟩) ?_
  obtain ⟨c53, hc54, h⟩ := ix h
  refine wpG_take_val (PQ.then_ (PQ.then_ (PQ.then_ (PQ.block_ PQ.body)))) (i := 20) rfl (by kernel_rfl) (by kernel_rfl) (hst.rd.with_ 0 rfl (hst.rd.none_)) (fun x hx => ria hc54.1 hc54.2) ?_
  refine wpG_exec 21 (by kernel_rfl) rfl ?_
  obtain ⟨r55, hq56, h⟩ := bs h
  refine cal (c_syntax_inner hq56 hst) ?_
  rintro _ _ ⟨m57, rfl, hl58, hst⟩
  refine nl (tn (⟨_, fun _ h => h, .inr (Rd.lower hl58 (hst.rd.with_ 0 rfl (hst.rd.none_))), ?_⟩))
  refine wpG_exec 22 (by kernel_rfl) rfl (sg 1 [(26, vb r55)] [] trivial (nl (tn (⟨_, fun _ h => h, .inl ⟨rfl, allListed_of _ (by kernel_rfl)⟩, ?_⟩))))
  refine wpG_done (by kernel_rfl) (tn (cn h (fun h => ?_) (fun h => ?_)))
  ·refine wp_skip (tn (bk (rg (sg 7 [(27, vp ob0 0), (28, vp ob0 0), (29, vp ob0 1), (30, vi x18), (31, vi (w64 (x18 + 1))), (32, vp ob0 0), (33, vp ob0 1)] [(ad ob0 1, vi x18)] ⟨hst.c 0, trivial⟩ (so0 1 [vi (w64 (x18 + 1))] [vstr a0.x_.s_, vi (w64 (x18 + 1)), vi a0.t_.kind, vi a0.t_.at_, vstr a0.t_.s_, vi a0.t_.n_] hst (fun _ hst => ?_))))))
   refine nl (bn (tn ?_))
   have e59 := hl36.trans hl58
   exact ih39 k42 (by omega) _ _ ⟨_, m57, (w64 (x18 + 1)), (act_upds ⟨by kernel_rfl, by kernel_rfl, trivial⟩), (by omega), h, e59, hst⟩
  refine wp_exit (tx (tx (bx (we [] ?_))))
  have e60 := hl36.trans hl58
  cases h
  exact ⟨_, rfl, m57, rfl, e60, hst⟩
 rw [hc51]
 refine wpG_seg [11, 12, 16, 13, 17, 14, 18, 15, 19, 20, 21] [(15, undef), (16, undef), (20, undef), (17, undef), (21, undef), (18, undef), (22, undef), (19, undef), (23, undef), (24, undef), (25, undef)] [] #[true, true, true, true, true, true, true, true, true, true, true, true, true, true, true, true, true, true, true, true, true, true, false] (fuel := 1) (PQ.then_ (PQ.then_ (PQ.then_ (PQ.block_ PQ.body)))) (by kernel_rfl) (by kernel_rfl) (hst.rd.with_ 0 rfl (hst.rd.none_)) (fun x hx => trivial) ?_
 refine wpG_exec 22 (by kernel_rfl) rfl (sg 1 [(26, vb false)] [] trivial (nl (tn (⟨_, fun _ h => h, .inl ⟨rfl, allListed_of _ (by kernel_rfl)⟩, ?_⟩))))
 refine wpG_done (by kernel_rfl) (tn (cf (wp_exit (tx (tx (bx (we [] ?_)))))))
 cases h
 exact ⟨_, rfl, m40, rfl, hl36, hst⟩

def R_lexer_skip_i1 (g : World) (m : Mem) (F : List Asr) (ob0 : Nat) (r : SParser) (v : Value) (w' : World) : Prop := ∃ (m' : Mem), v = vt [] ∧ m.le m' ∧ St g m' (oo ob0 155 (cSParser r) :: F) w'
theorem c_lexer_skip_i1 {k : Nat} {a0 : SParser} {r : SParser} {g : World} {m : Mem} {F : List Asr} {w : World} {ob0 : Nat} (h : lexer_skip_i1 k a0 = some r) (hst : St g m (oo ob0 155 (cSParser a0) :: F) w) :
    Calls Tryz.prog 172 ⟨[vp ob0 0, vf 152 [] []]⟩ w (OPost (R_lexer_skip_i1 g m F ob0) r) := by
 refine calls_enter Tryz.func172 rfl rfl ?_
 unfold lexer_skip_i1 at h
 refine bk (wc_loop (fun kk a w => ∃ (f0 : Fr) (m40 : Mem) (x18 : Int), a = act Tryz.f172.ntmps (upds f0 [(0, vp ob0 0), (1, vf 152 [] [])]) ∧ kk ≤ k ∧ lexer_skip_i1_l1 kk a0 x18 = some r ∧ m.le m40 ∧ St g m40 (oo ob0 155 [vstr a0.x_.s_, vi x18, vi a0.t_.kind, vi a0.t_.at_, vstr a0.t_.s_, vi a0.t_.n_] :: F) w) k ?_ ?_)
 ·exact ⟨_, m, (a0.x_.at_), (act_upds ⟨by kernel_rfl, by kernel_rfl, trivial⟩), (Nat.le_refl _), h, (Mem.le.refl _), hst⟩
 rintro k38 ih39 _ _ ⟨f0, m40, x18, rfl, hk37, h, hl36, hst⟩
 obtain _ | k42 := k38
 ·simp [lexer_skip_i1_l1] at h
 rw [lexer_skip_i1_l1] at h
 refine sq (sq (wc_draw false (fun x => Rd m40 (oo ob0 155 [vstr a0.x_.s_, vi x18, vi a0.t_.kind, vi a0.t_.at_, vstr a0.t_.s_, vi a0.t_.n_] :: []) x) (by kernel_rfl) ?_))
 have hst := hst.drew
 refine wpG_seg [0, 4, 1, 5, 2, 6, 3, 7, 8, 9, 10] [(4, vp ob0 0), (8, vp ob0 0), (5, vp ob0 0), (9, vp ob0 0), (6, vp ob0 1), (10, vp ob0 0), (7, vi x18), (11, vstr a0.x_.s_), (12, vi ((a0.x_.s_).length : Int)), (13, vb (decide (x18 < ((a0.x_.s_).length : Int)))), (14, vb (decide (x18 < ((a0.x_.s_).length : Int))))] [(ad ob0 1, vi x18), (ad ob0 0, vstr a0.x_.s_)] #[true, true, true, true, true, true, true, true, true, true, true, false, false, false, false, false, false, false, false, false, false, false, false] (fuel := 12) (PQ.then_ (PQ.then_ (PQ.then_ (PQ.block_ PQ.body)))) (by kernel_rfl) (by kernel_rfl) (hst.rd.with_ 0 rfl (hst.rd.none_)) (fun x hx => ⟨hx.c 0, hx.c 0, trivial⟩) ?_
 rcases sp h with ⟨hc51, h⟩ | ⟨hc51, h⟩
 ·rw [hc51]
  refine wpG_seg [11, 12, 16, 13, 17, 14, 18, 15, 19] [(15, vf 152 [] []), (16, vp ob0 0), (20, vp ob0 0), (17, vp ob0 0), (21, vp ob0 0), (18, vp ob0 0), (22, vp ob0 1), (19, vstr a0.x_.s_), (23, vi x18)] [(ad ob0 0, vstr a0.x_.s_), (ad ob0 1, vi x18)] #[true, true, true, true, true, true, true, true, true, true, true, true, true, true, true, true, true, true, true, true, false, false, false] (fuel := 3) (PQ.then_ (PQ.then_ (PQ.then_ (PQ.block_ PQ.body)))) (by kernel_rfl) (by kernel_rfl) (hst.rd.with_ 0 rfl (hst.rd.none_)) (fun x hx => ⟨hx.c 0, hx.c 0, trivial⟩) ?_
  obtain ⟨c53, hc54, h⟩ := ix h
  refine wpG_take_val (PQ.then_ (PQ.then_ (PQ.then_ (PQ.block_ PQ.body)))) (i := 20) rfl (by kernel_rfl) (by kernel_rfl) (hst.rd.with_ 0 rfl (hst.rd.none_)) (fun x hx => ria hc54.1 hc54.2) ?_
  refine wpG_exec 21 (by kernel_rfl) rfl ?_
  obtain ⟨r55, hq56, h⟩ := bs h
  refine cal (c_syntax_digit hq56 hst) ?_
  rintro _ _ ⟨m57, rfl, hl58, hst⟩
  refine nl (tn (⟨_, fun _ h => h, .inr (Rd.lower hl58 (hst.rd.with_ 0 rfl (hst.rd.none_))), ?_⟩))
  refine wpG_exec 22 (by kernel_rfl) rfl (sg 1 [(26, vb r55)] [] trivial (nl (tn (⟨_, fun _ h => h, .inl ⟨rfl, allListed_of _ (by kernel_rfl)⟩, ?_⟩))))
  refine wpG_done (by kernel_rfl) (tn (cn h (fun h => ?_) (fun h => ?_)))
  ·refine wp_skip (tn (bk (rg (sg 7 [(27, vp ob0 0), (28, vp ob0 0), (29, vp ob0 1), (30, vi x18), (31, vi (w64 (x18 + 1))), (32, vp ob0 0), (33, vp ob0 1)] [(ad ob0 1, vi x18)] ⟨hst.c 0, trivial⟩ (so0 1 [vi (w64 (x18 + 1))] [vstr a0.x_.s_, vi (w64 (x18 + 1)), vi a0.t_.kind, vi a0.t_.at_, vstr a0.t_.s_, vi a0.t_.n_] hst (fun _ hst => ?_))))))
   refine nl (bn (tn ?_))
   have e59 := hl36.trans hl58
   exact ih39 k42 (by omega) _ _ ⟨_, m57, (w64 (x18 + 1)), (act_upds ⟨by kernel_rfl, by kernel_rfl, trivial⟩), (by omega), h, e59, hst⟩
  refine wp_exit (tx (tx (bx (we [] ?_))))
  have e60 := hl36.trans hl58
  cases h
  exact ⟨_, rfl, m57, rfl, e60, hst⟩
 rw [hc51]
 refine wpG_seg [11, 12, 16, 13, 17, 14, 18, 15, 19, 20, 21] [(15, undef), (16, undef), (20, undef), (17, undef), (21, undef), (18, undef), (22, undef), (19, undef), (23, undef), (24, undef), (25, undef)] [] #[true, true, true, true, true, true, true, true, true, true, true, true, true, true, true, true, true, true, true, true, true, true, false] (fuel := 1) (PQ.then_ (PQ.then_ (PQ.then_ (PQ.block_ PQ.body)))) (by kernel_rfl) (by kernel_rfl) (hst.rd.with_ 0 rfl (hst.rd.none_)) (fun x hx => trivial) ?_
 refine wpG_exec 22 (by kernel_rfl) rfl (sg 1 [(26, vb false)] [] trivial (nl (tn (⟨_, fun _ h => h, .inl ⟨rfl, allListed_of _ (by kernel_rfl)⟩, ?_⟩))))
 refine wpG_done (by kernel_rfl) (tn (cf (wp_exit (tx (tx (bx (we [] ?_)))))))
 cases h
 exact ⟨_, rfl, m40, rfl, hl36, hst⟩

def R_strconv_Atoi (g : World) (m : Mem) (F : List Asr) (r : Int × Bool) (v : Value) (w' : World) : Prop := ∃ (m' : Mem) (v0 : Value), v = vt [vi r.1, v0] ∧ m.le m' ∧ St g m' (F) w' ∧ ErrV v0 r.2
theorem c_strconv_Atoi {a0 : Str} {r : Int × Bool} {g : World} {m : Mem} {F : List Asr} {w : World} (h : strconv_Atoi a0 = some r) (hst : St g m (F) w) :
    Calls Tryz.prog 173 ⟨[vstr a0]⟩ w (OPost (R_strconv_Atoi g m F) r) := by
  unfold strconv_Atoi at h
  obtain ⟨hb, h⟩ := chk_some h
  obtain ⟨n, hn, h⟩ := bs h
  cases h
  refine (Tryz.strconv_Atoi ⟨⟨a0⟩⟩ n (of_decide_eq_true hb) hn w).mono ?_
  rintro e w' ⟨rfl, t, rfl⟩
  exact ⟨_, rfl, m, .nilIface, rfl, Mem.le.refl m, hst.wider (fun b hb => Lib.bytesWorld_at_old _ _ _ _ hb) rfl rfl rfl, .inl ⟨rfl, rfl⟩⟩

def R_lexer_quoted (g : World) (m : Mem) (F : List Asr) (ob0 : Nat) (r : SParser × SToken) (v : Value) (w' : World) : Prop := ∃ (m' : Mem), v = va (cSToken r.2) ∧ m.le m' ∧ St g m' (oo ob0 155 (cSParser r.1) :: F) w'
theorem c_lexer_quoted {k : Nat} {a0 : SParser} {r : Except Pan (SParser × SToken)} {g : World} {m : Mem} {F : List Asr} {w : World} {ob0 : Nat} (h : lexer_quoted k a0 = some r) (hst : St g m (oo ob0 155 (cSParser a0) :: F) w) :
    Calls Tryz.prog 174 ⟨[vp ob0 0]⟩ w (XPost (R_lexer_quoted g m F ob0) g m (oo ob0 155 (cSParser a0) :: F) r) := by
 refine calls_enter Tryz.func174 rfl rfl ?_
 unfold lexer_quoted at h
 refine qr (al [vi 0, vi 0, vstr w_0, vi 0] hst (fun b1 _ hst => ?_))
 refine nl (tn (qr (sg 5 [(8, vp ob0 0), (9, vp ob0 0), (10, vp ob0 1), (11, vi a0.x_.at_), (3, vi a0.x_.at_)] [(ad ob0 1, vi a0.x_.at_)] ⟨hst.c 1, trivial⟩ (nl (tn (qr ?_))))))
 have hrc3 := RC.nil (TInt .u8) m
 have hst := hst.nil_row 5 1
 refine s0 1 [(4, vn)] (nl (tn (sq (qr (s0 3 [(12, vi a0.x_.at_), (13, vi (w64 (a0.x_.at_ + 1))), (5, vi (w64 (a0.x_.at_ + 1)))] (nl (tn (bk (wc_loop (fun kk a w => ∃ (f0 : Fr) (m146 : Mem) (x70 : List Int) (A71 : Option Addr) (c72 : Nat) (cs73 : List Value) (x75 : Int), a = act Tryz.f174.ntmps (upds f0 [(0, vp ob0 0), (2, vp b1 0), (3, vi a0.x_.at_), (4, vs A71 x70 c72), (5, vi x75)]) ∧ kk ≤ k ∧ lexer_quoted_l7 kk a0 x70 x75 = some r ∧ m.le m146 ∧ St g m146 (rw_ 5 1 A71 x70 c72 cs73 :: oo b1 121 [vi 0, vi 0, vstr w_0, vi 0] :: oo ob0 155 (cSParser a0) :: F) w ∧ RC (TInt .u8) m146 x70 cs73) k ?_ ?_)))))))))
 ·exact ⟨_, m, ([]), none, 0, [], (w64 (a0.x_.at_ + 1)), (act_upds ⟨by kernel_rfl, by kernel_rfl, by kernel_rfl, by kernel_rfl, by kernel_rfl, trivial⟩), (Nat.le_refl _), h, (Mem.le.refl _), hst, hrc3⟩
 rintro k144 ih145 _ _ ⟨f0, m146, x70, A71, c72, cs73, x75, rfl, hk143, h, hl142, hst, hrc74⟩
 obtain _ | k148 := k144
 ·simp [lexer_quoted_l7] at h
 rw [lexer_quoted_l7] at h
 refine sq (qr (sg 7 [(14, vi x75), (15, vp ob0 0), (16, vp ob0 0), (17, vp ob0 0), (18, vstr a0.x_.s_), (19, vi ((a0.x_.s_).length : Int)), (20, vb (decide (x75 < ((a0.x_.s_).length : Int))))] [(ad ob0 0, vstr a0.x_.s_)] ⟨hst.c 2, trivial⟩ (nl (tn (cn h (fun h => ?_) (fun h => ?_))))))
 ·refine wp_skip (tn (sq (bk (qr (sg 5 [(23, vp ob0 0), (24, vp ob0 0), (25, vp ob0 0), (26, vstr a0.x_.s_), (27, vi x75)] [(ad ob0 0, vstr a0.x_.s_)] ⟨hst.c 2, trivial⟩ ?_)))))
  obtain ⟨c150, hc151, h⟩ := ix h
  refine vl (ria hc151.1 hc151.2) (s0 1 [(6, vu (c150.toNat : Int))] (nl (tn (bk (qr (s0 3 [(34, vu (c150.toNat : Int)), (35, vb ((c150.toNat : Int) == 34)), (33, vb ((c150.toNat : Int) == 34))] (nl (tn (cn h (fun h => ?_) (fun h => ?_))))))))))
  ·refine qr (s0 5 [(36, vp ob0 0), (37, vi x75), (38, vi (w64 (x75 + 1))), (39, vp ob0 0), (40, vp ob0 1)] (so2 1 [vi (w64 (x75 + 1))] [vstr a0.x_.s_, vi (w64 (x75 + 1)), vi a0.t_.kind, vi a0.t_.at_, vstr a0.t_.s_, vi a0.t_.n_] hst (fun _ hst => ?_)))
   refine nl (tn (qr (s0 2 [(41, vi a0.x_.at_), (42, vs A71 x70 c72)] (vl (cro hst.rd 0 hrc74) (s0 1 [(44, va [vi 3, vi a0.x_.at_, vstr (List.map (fun q : Int => UInt8.ofNat q.toNat) x70), vi 0])] ?_)))))
   refine so1 0 [vi 3, vi a0.x_.at_, vstr (List.map (fun q : Int => UInt8.ofNat q.toNat) x70), vi 0] [vi 3, vi a0.x_.at_, vstr (List.map (fun q : Int => UInt8.ofNat q.toNat) x70), vi 0] hst (fun _ hst => ?_)
   refine nl (tn (wp_ret (br (br (tr (tr (br (tr (wrr [va [vi 3, vi a0.x_.at_, vstr (List.map (fun q : Int => UInt8.ofNat q.toNat) x70), vi 0]] [(ad b1 0, vi 3), (ad b1 1, vi a0.x_.at_), (ad b1 2, vstr (List.map (fun q : Int => UInt8.ofNat q.toNat) x70)), (ad b1 3, vi 0)] ⟨hst.c 1, hst.c 1, hst.c 1, hst.c 1, trivial⟩ ?_)))))))))
   have hst := pk2 hst
   cases h
   exact ⟨_, rfl, m146, rfl, hl142, hst⟩
  refine wc_join (fun a w => ∃ (f0 : Fr) (k158 : Nat) (m160 : Mem) (x153 : Bool) (x154 : Bool) (x155 : Bool) (x156 : Bool), a = act Tryz.f174.ntmps (upds f0 [(0, vp ob0 0), (2, vp b1 0), (3, vi a0.x_.at_), (4, vs A71 x70 c72), (5, vi x75), (6, vu (c150.toNat : Int)), (14, vi x75), (15, vp ob0 0), (16, vp ob0 0), (17, vp ob0 0), (18, vstr a0.x_.s_), (19, vi ((a0.x_.s_).length : Int)), (20, vb (decide (x75 < ((a0.x_.s_).length : Int)))), (23, vp ob0 0), (24, vp ob0 0), (25, vp ob0 0), (26, vstr a0.x_.s_), (27, vi x75), (28, vu (c150.toNat : Int)), (33, vb ((c150.toNat : Int) == 34)), (34, vu (c150.toNat : Int)), (35, vb ((c150.toNat : Int) == 34)), (45, vb x153), (46, vu (c150.toNat : Int)), (47, vb x154), (48, vb x155), (51, vb x156)]) ∧ k158 ≤ k148 ∧ lexer_quoted_j8 k158 a0 x70 x75 c150 x153 = some r ∧ m146.le m160 ∧ St g m160 (rw_ 5 1 A71 x70 c72 cs73 :: oo b1 121 [vi 0, vi 0, vstr w_0, vi 0] :: oo ob0 155 (cSParser a0) :: F) w) ?_ ?_
  ·rintro _ _ ⟨f0, k158, m160, x153, x154, x155, x156, rfl, hk159, h, hl157, hst⟩
   obtain _ | k161 := k158
   ·simp [lexer_quoted_j8] at h
   rw [lexer_quoted_j8] at h
   refine cn h (fun h => ?_) (fun h => ?_)
   ·refine rg (s0 3 [(52, vi x75), (53, va [vi x75, vi 14]), (54, .iface 84 (va [vi x75, vi 14]))] (pa (v := .iface 84 (va [vi x75, vi 14])) (bp (bp (tp (tp (bp (tp (wpn ?_)))))))))
    cases h
    have e162 := hl142.trans hl157
    exact ⟨_, rfl, rfl, m160, e162, hst.pick 3 [2] (by kernel_rfl)⟩
   refine wc_join (fun a w => ∃ (f0 : Fr) (k169 : Nat) (m171 : Mem) (x164 : Bool) (x165 : Bool) (x166 : Bool) (x167 : Bool), a = act Tryz.f174.ntmps (upds f0 [(0, vp ob0 0), (2, vp b1 0), (3, vi a0.x_.at_), (4, vs A71 x70 c72), (5, vi x75), (6, vu (c150.toNat : Int)), (14, vi x75), (15, vp ob0 0), (16, vp ob0 0), (17, vp ob0 0), (18, vstr a0.x_.s_), (19, vi ((a0.x_.s_).length : Int)), (20, vb (decide (x75 < ((a0.x_.s_).length : Int)))), (23, vp ob0 0), (24, vp ob0 0), (25, vp ob0 0), (26, vstr a0.x_.s_), (27, vi x75), (28, vu (c150.toNat : Int)), (33, vb ((c150.toNat : Int) == 34)), (34, vu (c150.toNat : Int)), (35, vb ((c150.toNat : Int) == 34)), (45, vb x153), (46, vu (c150.toNat : Int)), (47, vb x154), (48, vb x155), (51, vb x156), (55, vb x164), (56, vu (c150.toNat : Int)), (57, vb x165), (58, vb x166), (67, vb x167)]) ∧ k169 ≤ k161 ∧ lexer_quoted_j9 k169 a0 x70 x75 c150 x164 = some r ∧ m160.le m171 ∧ St g m171 (rw_ 5 1 A71 x70 c72 cs73 :: oo b1 121 [vi 0, vi 0, vstr w_0, vi 0] :: oo ob0 155 (cSParser a0) :: F) w) ?_ ?_
   ·rintro _ _ ⟨f0, k169, m171, x164, x165, x166, x167, rfl, hk170, h, hl168, hst⟩
    obtain _ | k172 := k169
    ·simp [lexer_quoted_j9] at h
    rw [lexer_quoted_j9] at h
    refine cn h (fun h => ?_) (fun h => ?_)
    ·refine wc_join (fun a w => ∃ (f0 : Fr) (k185 : Nat) (m187 : Mem) (x178 : Int) (x179 : Int) (x180 : Int) (x181 : Bool) (x182 : Bool) (x183 : Bool), a = act Tryz.f174.ntmps (upds f0 [(0, vp ob0 0), (2, vp b1 0), (3, vi a0.x_.at_), (4, vs A71 x70 c72), (5, vi x75), (6, vu (c150.toNat : Int)), (7, vu x178), (14, vi x75), (15, vp ob0 0), (16, vp ob0 0), (17, vp ob0 0), (18, vstr a0.x_.s_), (19, vi ((a0.x_.s_).length : Int)), (20, vb (decide (x75 < ((a0.x_.s_).length : Int)))), (23, vp ob0 0), (24, vp ob0 0), (25, vp ob0 0), (26, vstr a0.x_.s_), (27, vi x75), (28, vu (c150.toNat : Int)), (33, vb ((c150.toNat : Int) == 34)), (34, vu (c150.toNat : Int)), (35, vb ((c150.toNat : Int) == 34)), (45, vb x153), (46, vu (c150.toNat : Int)), (47, vb x154), (48, vb x155), (51, vb x156), (55, vb x164), (56, vu (c150.toNat : Int)), (57, vb x165), (58, vb x166), (67, vb x167), (68, vp ob0 0), (69, vp ob0 0), (70, vp ob0 0), (71, vstr a0.x_.s_), (72, vi x75), (73, vi (w64 (x75 + 1))), (74, vu x179), (75, vu x180), (76, vb x181), (77, vb x182), (80, vb x183)]) ∧ k185 ≤ k172 ∧ lexer_quoted_j10 k185 a0 x70 x75 = some r ∧ m171.le m187 ∧ St g m187 (rw_ 5 1 A71 x70 c72 cs73 :: oo b1 121 [vi 0, vi 0, vstr w_0, vi 0] :: oo ob0 155 (cSParser a0) :: F) w) ?_ ?_
     ·rintro _ _ ⟨f0, k185, m187, x178, x179, x180, x181, x182, x183, rfl, hk186, h, hl184, hst⟩
      obtain _ | k188 := k185
      ·simp [lexer_quoted_j10] at h
      rw [lexer_quoted_j10] at h
      refine qr (s0 3 [(84, vi x75), (85, vi (w64 (x75 + 1))), (5, vi (w64 (x75 + 1)))] (nl (tn (rg (sg 6 [(86, vs A71 x70 c72), (87, vp ob0 0), (88, vp ob0 0), (89, vp ob0 0), (90, vstr a0.x_.s_), (91, vi (w64 (x75 + 1)))] [(ad ob0 0, vstr a0.x_.s_)] ⟨hst.c 2, trivial⟩ ?_)))))
      obtain ⟨c190, hc191, h⟩ := ix h
      refine vl (ria hc191.1 hc191.2) (li 5 1 [vu (c190.toNat : Int)] hst (fun b192 _ hst => ?_))
      obtain ⟨hb193, h⟩ := chk_some h
      have e198 := hl157.trans (hl168.trans hl184)
      refine ap1 (TInt .u8) (xs := x70) (ys := [(c190.toNat : Int)]) 1 1 0 hst (RC.mono e198 hrc74) (RC.k1 rfl (RC.nil _ _)) hb193 (fun A194 c195 cs196 _ hrc197 hst => ?_)
      have hst := pk0 hst
      refine s0 1 [(4, vs A194 (x70 ++ [(c190.toNat : Int)]) c195)] (nl (bn (bn (tn (rg (s0 3 [(21, vi (w64 (x75 + 1))), (22, vi (w64 ((w64 (x75 + 1)) + 1))), (5, vi (w64 ((w64 (x75 + 1)) + 1)))] (nl (tn ?_))))))))
      have e199 := hl142.trans (hl157.trans (hl168.trans hl184))
      exact ih145 k188 (by omega) _ _ ⟨_, m187, ((x70 ++ [(c190.toNat : Int)])), A194, c195, cs196, (w64 ((w64 (x75 + 1)) + 1)), (act_upds ⟨by kernel_rfl, by kernel_rfl, by kernel_rfl, by kernel_rfl, by kernel_rfl, trivial⟩), (by omega), h, e199, hst, hrc197⟩
     refine qr (sg 6 [(68, vp ob0 0), (69, vp ob0 0), (70, vp ob0 0), (71, vstr a0.x_.s_), (72, vi x75), (73, vi (w64 (x75 + 1)))] [(ad ob0 0, vstr a0.x_.s_)] ⟨hst.c 2, trivial⟩ ?_)
     obtain ⟨c201, hc202, h⟩ := ix h
     refine vl (ria hc202.1 hc202.2) (s0 1 [(7, vu (c201.toNat : Int))] (nl (tn (qr (s0 3 [(75, vu (c201.toNat : Int)), (76, vb ((c201.toNat : Int) != 34)), (77, vb ((c201.toNat : Int) != 34))] ?_)))))
     rcases sp h with ⟨hc203, h⟩ | ⟨hc203, h⟩
     ·rw [hc203]
      refine s0 3 [(78, vu (c201.toNat : Int)), (79, vb ((c201.toNat : Int) != 92)), (80, vb ((c201.toNat : Int) != 92))] (nl (tn (cn h (fun h => ?_) (fun h => ?_))))
      ·refine rg (s0 3 [(81, vi x75), (82, va [vi x75, vi 14]), (83, .iface 84 (va [vi x75, vi 14]))] (pa (v := .iface 84 (va [vi x75, vi 14])) (tp (bp (bp (tp (tp (bp (tp (wpn ?_))))))))))
       cases h
       have e204 := hl142.trans (hl157.trans hl168)
       exact ⟨_, rfl, rfl, m171, e204, hst.pick 3 [2] (by kernel_rfl)⟩
      refine wp_skip (tn ?_)
      exact ⟨_, k172, m171, ((c201.toNat : Int)), ((c201.toNat : Int)), ((c201.toNat : Int)), (true), (true), (((c201.toNat : Int) != 92)), (act_upds ⟨by kernel_rfl, by kernel_rfl, by kernel_rfl, by kernel_rfl, by kernel_rfl, by kernel_rfl, by kernel_rfl, by kernel_rfl, by kernel_rfl, by kernel_rfl, by kernel_rfl, by kernel_rfl, by kernel_rfl, by kernel_rfl, by kernel_rfl, by kernel_rfl, by kernel_rfl, by kernel_rfl, by kernel_rfl, by kernel_rfl, by kernel_rfl, by kernel_rfl, by kernel_rfl, by kernel_rfl, by kernel_rfl, by kernel_rfl, by kernel_rfl, by kernel_rfl, by kernel_rfl, by kernel_rfl, by kernel_rfl, by kernel_rfl, by kernel_rfl, by kernel_rfl, by kernel_rfl, by kernel_rfl, by kernel_rfl, by kernel_rfl, by kernel_rfl, by kernel_rfl, by kernel_rfl, by kernel_rfl, by kernel_rfl, by kernel_rfl, trivial⟩), (by omega), h, (Mem.le.refl _), hst⟩
     rw [hc203]
     refine s0 3 [(78, undef), (79, undef), (80, vb false)] (nl (tn (cf (wp_skip (tn ?_)))))
     exact ⟨_, k172, m171, ((c201.toNat : Int)), ((c201.toNat : Int)), ((c201.toNat : Int)), (false), (false), (false), (act_upds ⟨by kernel_rfl, by kernel_rfl, by kernel_rfl, by kernel_rfl, by kernel_rfl, by kernel_rfl, by kernel_rfl, by kernel_rfl, by kernel_rfl, by kernel_rfl, by kernel_rfl, by kernel_rfl, by kernel_rfl, by kernel_rfl, by kernel_rfl, by kernel_rfl, by kernel_rfl, by kernel_rfl, by kernel_rfl, by kernel_rfl, by kernel_rfl, by kernel_rfl, by kernel_rfl, by kernel_rfl, by kernel_rfl, by kernel_rfl, by kernel_rfl, by kernel_rfl, by kernel_rfl, by kernel_rfl, by kernel_rfl, by kernel_rfl, by kernel_rfl, by kernel_rfl, by kernel_rfl, by kernel_rfl, by kernel_rfl, by kernel_rfl, by kernel_rfl, by kernel_rfl, by kernel_rfl, by kernel_rfl, by kernel_rfl, by kernel_rfl, trivial⟩), (by omega), h, (Mem.le.refl _), hst⟩
    refine rg (s0 2 [(29, vs A71 x70 c72), (30, vu (c150.toNat : Int))] (li 5 1 [vu (c150.toNat : Int)] hst (fun b205 _ hst => ?_)))
    obtain ⟨hb206, h⟩ := chk_some h
    have e211 := hl157.trans hl168
    refine ap1 (TInt .u8) (xs := x70) (ys := [(c150.toNat : Int)]) 1 1 0 hst (RC.mono e211 hrc74) (RC.k1 rfl (RC.nil _ _)) hb206 (fun A207 c208 cs209 _ hrc210 hst => ?_)
    have hst := pk0 hst
    refine s0 1 [(4, vs A207 (x70 ++ [(c150.toNat : Int)]) c208)] (nl (bn (bn (tn (rg (s0 3 [(21, vi x75), (22, vi (w64 (x75 + 1))), (5, vi (w64 (x75 + 1)))] (nl (tn ?_))))))))
    have e212 := hl142.trans (hl157.trans hl168)
    exact ih145 k172 (by omega) _ _ ⟨_, m171, ((x70 ++ [(c150.toNat : Int)])), A207, c208, cs209, (w64 (x75 + 1)), (act_upds ⟨by kernel_rfl, by kernel_rfl, by kernel_rfl, by kernel_rfl, by kernel_rfl, trivial⟩), (by omega), h, e212, hst, hrc210⟩
   refine rg (s0 3 [(56, vu (c150.toNat : Int)), (57, vb ((c150.toNat : Int) == 92)), (58, vb ((c150.toNat : Int) == 92))] ?_)
   rcases sp h with ⟨hc213, h⟩ | ⟨hc213, h⟩
   ·rw [hc213]
    refine sg 10 [(59, vi x75), (60, vi (w64 (x75 + 1))), (61, vp ob0 0), (62, vp ob0 0), (63, vp ob0 0), (64, vstr a0.x_.s_), (65, vi ((a0.x_.s_).length : Int)), (66, vb (decide ((w64 (x75 + 1)) < ((a0.x_.s_).length : Int)))), (67, vb (decide ((w64 (x75 + 1)) < ((a0.x_.s_).length : Int)))), (55, vb (decide ((w64 (x75 + 1)) < ((a0.x_.s_).length : Int))))] [(ad ob0 0, vstr a0.x_.s_)] ⟨hst.c 2, trivial⟩ (nl (tn ?_))
    exact ⟨_, k161, m160, (decide ((w64 (x75 + 1)) < ((a0.x_.s_).length : Int))), (true), (true), (decide ((w64 (x75 + 1)) < ((a0.x_.s_).length : Int))), (act_upds ⟨by kernel_rfl, by kernel_rfl, by kernel_rfl, by kernel_rfl, by kernel_rfl, by kernel_rfl, by kernel_rfl, by kernel_rfl, by kernel_rfl, by kernel_rfl, by kernel_rfl, by kernel_rfl, by kernel_rfl, by kernel_rfl, by kernel_rfl, by kernel_rfl, by kernel_rfl, by kernel_rfl, by kernel_rfl, by kernel_rfl, by kernel_rfl, by kernel_rfl, by kernel_rfl, by kernel_rfl, by kernel_rfl, by kernel_rfl, by kernel_rfl, by kernel_rfl, by kernel_rfl, by kernel_rfl, by kernel_rfl, by kernel_rfl, trivial⟩), (by omega), h, (Mem.le.refl _), hst⟩
   rw [hc213]
   refine s0 10 [(59, undef), (60, undef), (61, undef), (62, undef), (63, undef), (64, undef), (65, undef), (66, undef), (67, vb false), (55, vb false)] (nl (tn ?_))
   exact ⟨_, k161, m160, (false), (false), (false), (false), (act_upds ⟨by kernel_rfl, by kernel_rfl, by kernel_rfl, by kernel_rfl, by kernel_rfl, by kernel_rfl, by kernel_rfl, by kernel_rfl, by kernel_rfl, by kernel_rfl, by kernel_rfl, by kernel_rfl, by kernel_rfl, by kernel_rfl, by kernel_rfl, by kernel_rfl, by kernel_rfl, by kernel_rfl, by kernel_rfl, by kernel_rfl, by kernel_rfl, by kernel_rfl, by kernel_rfl, by kernel_rfl, by kernel_rfl, by kernel_rfl, by kernel_rfl, by kernel_rfl, by kernel_rfl, by kernel_rfl, by kernel_rfl, by kernel_rfl, trivial⟩), (by omega), h, (Mem.le.refl _), hst⟩
  refine rg (s0 3 [(46, vu (c150.toNat : Int)), (47, vb (decide ((c150.toNat : Int) < 32))), (48, vb (decide ((c150.toNat : Int) < 32)))] ?_)
  rcases sp h with ⟨hc214, h⟩ | ⟨hc214, h⟩
  ·rw [hc214]
   refine s0 4 [(49, undef), (50, undef), (51, vb true), (45, vb true)] (nl (tn ?_))
   exact ⟨_, k148, m146, (true), (true), (true), (true), (act_upds ⟨by kernel_rfl, by kernel_rfl, by kernel_rfl, by kernel_rfl, by kernel_rfl, by kernel_rfl, by kernel_rfl, by kernel_rfl, by kernel_rfl, by kernel_rfl, by kernel_rfl, by kernel_rfl, by kernel_rfl, by kernel_rfl, by kernel_rfl, by kernel_rfl, by kernel_rfl, by kernel_rfl, by kernel_rfl, by kernel_rfl, by kernel_rfl, by kernel_rfl, by kernel_rfl, by kernel_rfl, by kernel_rfl, by kernel_rfl, by kernel_rfl, trivial⟩), (by omega), h, (Mem.le.refl _), hst⟩
  rw [hc214]
  refine s0 4 [(49, vu (c150.toNat : Int)), (50, vb (decide ((c150.toNat : Int) > 126))), (51, vb (decide ((c150.toNat : Int) > 126))), (45, vb (decide ((c150.toNat : Int) > 126)))] (nl (tn ?_))
  exact ⟨_, k148, m146, (decide ((c150.toNat : Int) > 126)), (false), (false), (decide ((c150.toNat : Int) > 126)), (act_upds ⟨by kernel_rfl, by kernel_rfl, by kernel_rfl, by kernel_rfl, by kernel_rfl, by kernel_rfl, by kernel_rfl, by kernel_rfl, by kernel_rfl, by kernel_rfl, by kernel_rfl, by kernel_rfl, by kernel_rfl, by kernel_rfl, by kernel_rfl, by kernel_rfl, by kernel_rfl, by kernel_rfl, by kernel_rfl, by kernel_rfl, by kernel_rfl, by kernel_rfl, by kernel_rfl, by kernel_rfl, by kernel_rfl, by kernel_rfl, by kernel_rfl, trivial⟩), (by omega), h, (Mem.le.refl _), hst⟩
 refine wp_exit (tx (tx (bx (tn (rg (s0 3 [(95, vi a0.x_.at_), (96, va [vi a0.x_.at_, vi 14]), (97, .iface 84 (va [vi a0.x_.at_, vi 14]))] (pa (v := .iface 84 (va [vi a0.x_.at_, vi 14])) (wpn ?_))))))))
 cases h
 exact ⟨_, rfl, rfl, m146, hl142, hst.pick 3 [2] (by kernel_rfl)⟩

def R_stringslite_HasPrefix (g : World) (m : Mem) (F : List Asr) (r : Bool) (v : Value) (w' : World) : Prop := ∃ (m' : Mem), v = vb r ∧ m.le m' ∧ St g m' (F) w'
theorem c_stringslite_HasPrefix {a0 : Str} {a1 : Str} {r : Bool} {g : World} {m : Mem} {F : List Asr} {w : World} (h : stringslite_HasPrefix a0 a1 = some r) (hst : St g m (F) w) :
    Calls Tryz.prog 185 ⟨[vstr a0, vstr a1]⟩ w (OPost (R_stringslite_HasPrefix g m F) r) := by
 refine calls_enter Tryz.func185 rfl rfl ?_
 unfold stringslite_HasPrefix at h
 refine qr (s0 1 [(4, vb false)] (nl (tn (qr (s0 6 [(5, vstr a0), (6, vi ((a0).length : Int)), (7, vstr a1), (8, vi ((a1).length : Int)), (9, vb (decide (((a0).length : Int) ≥ ((a1).length : Int)))), (10, vb (decide (((a0).length : Int) ≥ ((a1).length : Int))))] ?_)))))
 rcases sp h with ⟨hc1, h⟩ | ⟨hc1, h⟩
 ·rw [hc1]
  refine s0 3 [(11, vstr a0), (12, vstr a1), (13, vi ((a1).length : Int))] ?_
  obtain ⟨hb2, h⟩ := chk_some h
  refine vl (rs0 hb2) (s0 1 [(15, vstr a1)] (vl (re (List.take (Int.toNat ((a1).length : Int)) a0) a1) (s0 2 [(17, vb ((List.take (Int.toNat ((a1).length : Int)) a0) == a1)), (4, vb ((List.take (Int.toNat ((a1).length : Int)) a0) == a1))] (nl (tn (wp_ret (wr [vb ((List.take (Int.toNat ((a1).length : Int)) a0) == a1)] ?_)))))))
  cases h
  exact ⟨_, rfl, m, rfl, (Mem.le.refl _), hst⟩
 rw [hc1]
 refine s0 8 [(11, undef), (12, undef), (13, undef), (14, undef), (15, undef), (16, undef), (17, vb false), (4, vb false)] (nl (tn (wp_ret (wr [vb false] ?_))))
 have h := Option.some.inj h; subst h
 exact ⟨_, rfl, m, rfl, (Mem.le.refl _), hst⟩

def R_strings_HasPrefix (g : World) (m : Mem) (F : List Asr) (r : Bool) (v : Value) (w' : World) : Prop := ∃ (m' : Mem), v = vb r ∧ m.le m' ∧ St g m' (F) w'
theorem c_strings_HasPrefix {a0 : Str} {a1 : Str} {r : Bool} {g : World} {m : Mem} {F : List Asr} {w : World} (h : strings_HasPrefix a0 a1 = some r) (hst : St g m (F) w) :
    Calls Tryz.prog 175 ⟨[vstr a0, vstr a1]⟩ w (OPost (R_strings_HasPrefix g m F) r) := by
 refine calls_enter Tryz.func175 rfl rfl ?_
 unfold strings_HasPrefix at h
 refine qr (s0 1 [(4, vb false)] (nl (tn (qr (s0 2 [(5, vstr a0), (6, vstr a1)] ?_)))))
 obtain ⟨r1, hq2, h⟩ := bs h
 refine cal (c_stringslite_HasPrefix hq2 hst) ?_
 rintro _ _ ⟨m3, rfl, hl4, hst⟩
 refine s0 1 [(4, vb r1)] (nl (tn (wp_ret (wr [vb r1] ?_))))
 have h := Option.some.inj h; subst h
 exact ⟨_, rfl, m3, rfl, hl4, hst⟩

def R_lexer_next (g : World) (m : Mem) (F : List Asr) (ob0 : Nat) (r : SParser × SToken) (v : Value) (w' : World) : Prop := ∃ (m' : Mem), v = va (cSToken r.2) ∧ m.le m' ∧ St g m' (oo ob0 155 (cSParser r.1) :: F) w'
theorem c_lexer_next {k : Nat} {a0 : SParser} {r : Except Pan (SParser × SToken)} {g : World} {m : Mem} {F : List Asr} {w : World} {ob0 : Nat} (h : lexer_next k a0 = some r) (hst : St g m (oo ob0 155 (cSParser a0) :: F) w) :
    Calls Tryz.prog 155 ⟨[vp ob0 0]⟩ w (XPost (R_lexer_next g m F ob0) g m F r) := by
 refine calls_enter Tryz.func155 rfl rfl ?_
 unfold lexer_next at h
 refine qr (al [vi 0, vi 0, vstr w_0, vi 0] hst (fun b1 _ hst => ?_))
 refine nl (tn (wc_join (fun a w => ∃ (f0 : Fr) (k31 : Nat) (m33 : Mem) (x29 : Int), a = act Tryz.f155.ntmps (upds f0 [(0, vp ob0 0), (2, vp b1 0)]) ∧ k31 ≤ k ∧ lexer_next_j1 k31 a0 x29 = some r ∧ m.le m33 ∧ St g m33 (oo b1 121 [vi 0, vi 0, vstr w_0, vi 0] :: oo ob0 155 [vstr a0.x_.s_, vi x29, vi a0.t_.kind, vi a0.t_.at_, vstr a0.t_.s_, vi a0.t_.n_] :: F) w) ?_ ?_))
 ·rintro _ _ ⟨f0, k31, m33, x29, rfl, hk32, h, hl30, hst⟩
  unfold lexer_next_j1 at h
  refine qr (sg 5 [(38, vp ob0 0), (39, vp ob0 0), (40, vp ob0 1), (41, vi x29), (3, vi x29)] [(ad ob0 1, vi x29)] ⟨hst.c 1, trivial⟩ (nl (tn (sq (qr (sg 7 [(42, vi x29), (43, vp ob0 0), (44, vp ob0 0), (45, vp ob0 0), (46, vstr a0.x_.s_), (47, vi ((a0.x_.s_).length : Int)), (48, vb (x29 == ((a0.x_.s_).length : Int)))] [(ad ob0 0, vstr a0.x_.s_)] ⟨hst.c 1, trivial⟩ (nl (tn (cn h (fun h => ?_) (fun h => ?_))))))))))
  ·refine qr (s0 2 [(49, vi x29), (50, va [vi 0, vi x29, vstr w_0, vi 0])] (so0 0 [vi 0, vi x29, vstr w_0, vi 0] [vi 0, vi x29, vstr w_0, vi 0] hst (fun _ hst => ?_)))
   refine nl (tn (wp_ret (tr (wrr [va [vi 0, vi x29, vstr w_0, vi 0]] [(ad b1 0, vi 0), (ad b1 1, vi x29), (ad b1 2, vstr w_0), (ad b1 3, vi 0)] ⟨hst.c 0, hst.c 0, hst.c 0, hst.c 0, trivial⟩ ?_))))
   have hst := pk0 hst
   cases h
   exact ⟨_, rfl, m33, rfl, hl30, hst⟩
  refine wp_skip (tn (sq (qr (sg 5 [(51, vp ob0 0), (52, vp ob0 0), (53, vp ob0 0), (54, vstr a0.x_.s_), (55, vi x29)] [(ad ob0 0, vstr a0.x_.s_)] ⟨hst.c 1, trivial⟩ ?_))))
  obtain ⟨c77, hc78, h⟩ := ix h
  refine vl (ria hc78.1 hc78.2) (s0 1 [(4, vu (c77.toNat : Int))] (nl (tn (bk (qr (s0 1 [(58, vu (c77.toNat : Int))] ?_))))))
  obtain ⟨r79, hq80, h⟩ := bs h
  refine cal (c_syntax_letter hq80 hst) ?_
  rintro _ _ ⟨m81, rfl, hl82, hst⟩
  refine s0 1 [(57, vb r79)] (nl (tn (cn h (fun h => ?_) (fun h => ?_))))
  ·refine qr (s0 1 [(60, vp ob0 0)] ?_)
   have hst := pk1 hst
   obtain ⟨r83, hq84, h⟩ := bs h
   refine cal (c_lexer_skip hq84 hst) ?_
   rintro _ _ ⟨m85, rfl, hl86, hst⟩
   refine nl (tn (sq (wc_draw false (fun x => Rd m85 (oo ob0 155 (cSParser r83) :: []) x) (by kernel_rfl) ?_)))
   have hst := hst.drew
   refine wpG_seg [0, 1, 5, 6, 2, 7, 3, 8, 4, 9] [(62, vi x29), (63, vp ob0 0), (67, vi x29), (68, vp ob0 0), (64, vp ob0 0), (69, vp ob0 0), (65, vp ob0 0), (70, vp ob0 1), (66, vstr r83.x_.s_), (71, vi r83.x_.at_)] [(ad ob0 0, vstr r83.x_.s_), (ad ob0 1, vi r83.x_.at_)] #[true, true, true, true, true, true, true, true, true, true, false, false, false] (fuel := 3) (PQ.then_ (PQ.block_ (PQ.then_ PQ.body))) (by kernel_rfl) (by kernel_rfl) (hst.rd.with_ 0 rfl (hst.rd.none_)) (fun x hx => ⟨hx.c 0, hx.c 0, trivial⟩) ?_
   obtain ⟨hb88, h⟩ := chk_some h
   refine wpG_take_val (PQ.then_ (PQ.block_ (PQ.then_ PQ.body))) (i := 10) rfl (by kernel_rfl) (by kernel_rfl) (hst.rd.with_ 0 rfl (hst.rd.none_)) (fun x hx => rs2 hb88) ?_
   refine wpG_seg [11] [(73, va [vi 1, vi x29, vstr (List.take ((Int.toNat r83.x_.at_) - (Int.toNat x29)) (List.drop (Int.toNat x29) r83.x_.s_)), vi 0])] [] #[true, true, true, true, true, true, true, true, true, true, true, true, false] (fuel := 1) (PQ.then_ (PQ.block_ (PQ.then_ PQ.body))) (by kernel_rfl) (by kernel_rfl) (hst.rd.with_ 0 rfl (hst.rd.none_)) (fun x hx => trivial) ?_
   refine wpG_exec 12 (by kernel_rfl) rfl (so1 0 [vi 1, vi x29, vstr (List.take ((Int.toNat r83.x_.at_) - (Int.toNat x29)) (List.drop (Int.toNat x29) r83.x_.s_)), vi 0] [vi 1, vi x29, vstr (List.take ((Int.toNat r83.x_.at_) - (Int.toNat x29)) (List.drop (Int.toNat x29) r83.x_.s_)), vi 0] hst (fun _ hst => ?_))
   refine nl (tn (⟨_, fun _ h => h, .inl ⟨rfl, allListed_of _ (by kernel_rfl)⟩, ?_⟩))
   refine wpG_done (by kernel_rfl) (tn (wp_ret (br (tr (wrr [va [vi 1, vi x29, vstr (List.take ((Int.toNat r83.x_.at_) - (Int.toNat x29)) (List.drop (Int.toNat x29) r83.x_.s_)), vi 0]] [(ad b1 0, vi 1), (ad b1 1, vi x29), (ad b1 2, vstr (List.take ((Int.toNat r83.x_.at_) - (Int.toNat x29)) (List.drop (Int.toNat x29) r83.x_.s_))), (ad b1 3, vi 0)] ⟨hst.c 1, hst.c 1, hst.c 1, hst.c 1, trivial⟩ ?_)))))
   have hst := pk3 hst
   have e89 := hl30.trans (hl82.trans hl86)
   cases h
   exact ⟨_, rfl, m85, rfl, e89, hst⟩
  refine qr (s0 1 [(75, vu (c77.toNat : Int))] ?_)
  obtain ⟨r90, hq91, h⟩ := bs h
  refine cal (c_syntax_digit hq91 hst) ?_
  rintro _ _ ⟨m92, rfl, hl93, hst⟩
  refine s0 1 [(74, vb r90)] (nl (tn (cn h (fun h => ?_) (fun h => ?_))))
  ·refine qr (s0 1 [(77, vp ob0 0)] ?_)
   have hst := pk1 hst
   obtain ⟨r94, hq95, h⟩ := bs h
   refine cal (c_lexer_skip_i1 hq95 hst) ?_
   rintro _ _ ⟨m96, rfl, hl97, hst⟩
   refine nl (tn (sq (wc_draw false (fun x => Rd m96 (oo ob0 155 (cSParser r94) :: []) x) (by kernel_rfl) ?_)))
   have hst := hst.drew
   refine wpG_seg [0, 4, 5, 1, 6, 2, 7, 3, 8] [(80, vp ob0 0), (84, vi x29), (85, vp ob0 0), (81, vp ob0 0), (86, vp ob0 0), (82, vp ob0 0), (87, vp ob0 1), (83, vstr r94.x_.s_), (88, vi r94.x_.at_)] [(ad ob0 0, vstr r94.x_.s_), (ad ob0 1, vi r94.x_.at_)] #[true, true, true, true, true, true, true, true, true, false, false, false, false, false, false, false] (fuel := 7) (PQ.then_ (PQ.block_ (PQ.then_ PQ.body))) (by kernel_rfl) (by kernel_rfl) (hst.rd.with_ 0 rfl (hst.rd.none_)) (fun x hx => ⟨hx.c 0, hx.c 0, trivial⟩) ?_
   obtain ⟨hb104, h⟩ := chk_some h
   refine wpG_take_val (PQ.then_ (PQ.block_ (PQ.then_ PQ.body))) (i := 9) rfl (by kernel_rfl) (by kernel_rfl) (hst.rd.with_ 0 rfl (hst.rd.none_)) (fun x hx => rs2 hb104) ?_
   refine wpG_exec 10 (by kernel_rfl) rfl ?_
   obtain ⟨r105, hq106, h⟩ := bs h
   refine cal (c_strconv_Atoi hq106 hst) ?_
   rintro _ _ ⟨m107, v109, rfl, hl108, hst, hv109⟩
   refine nl (tn (⟨_, fun _ h => h, .inr (Rd.lower hl108 (hst.rd.with_ 0 rfl (hst.rd.none_))), ?_⟩))
   refine wpG_strong (S2 := fun x => Rd m107 (oo ob0 155 (cSParser r94) :: []) x) (fun x hx => Rd.lower hl108 hx) ?_
   refine wpG_seg [11, 12, 13, 14] [(79, vt [vi r105.1, v109]), (91, vi r105.1), (92, v109), (5, vi r105.1)] [] #[true, true, true, true, true, true, true, true, true, true, true, true, true, true, true, false] (fuel := 1) (PQ.then_ (PQ.block_ (PQ.then_ PQ.body))) (by kernel_rfl) (by kernel_rfl) (hst.rd.with_ 0 rfl (hst.rd.none_)) (fun x hx => trivial) ?_
   refine wpG_exec 15 (by kernel_rfl) rfl (sg 1 [(6, v109)] [] trivial (nl (tn (⟨_, fun _ h => h, .inl ⟨rfl, allListed_of _ (by kernel_rfl)⟩, ?_⟩))))
   refine wpG_done (by kernel_rfl) (tn (sq (wc_join (fun a w => ∃ (f0 : Fr) (m118 : Mem) (x114 : Bool), a = act Tryz.f155.ntmps (upds f0 [(0, vp ob0 0), (2, vp b1 0), (3, vi x29), (5, vi r105.1), (98, vb x114)]) ∧ lexer_next_j2 x29 r94 r105 x114 = some r ∧ m107.le m118 ∧ St g m118 (oo ob0 155 (cSParser r94) :: oo b1 121 [vi 0, vi 0, vstr w_0, vi 0] :: F) w) ?_ ?_)))
   ·rintro _ _ ⟨f0, m118, x114, rfl, h, hl115, hst⟩
    unfold lexer_next_j2 at h
    refine cn h (fun h => ?_) (fun h => ?_)
    ·refine rg (s0 3 [(99, vi x29), (100, va [vi x29, vi 2]), (101, .iface 84 (va [vi x29, vi 2]))] (pa (v := .iface 84 (va [vi x29, vi 2])) (tp (bp (tp (wpn ?_))))))
     cases h
     have e119 := hl30.trans (hl82.trans (hl93.trans (hl97.trans (hl108.trans hl115))))
     exact ⟨_, rfl, rfl, m118, e119, hst.pick 2 [] (by kernel_rfl)⟩
    refine wp_skip (tn (qr (s0 3 [(102, vi x29), (103, vi r105.1), (104, va [vi 2, vi x29, vstr w_0, vi r105.1])] (so1 0 [vi 2, vi x29, vstr w_0, vi r105.1] [vi 2, vi x29, vstr w_0, vi r105.1] hst (fun _ hst => ?_)))))
    refine nl (tn (wp_ret (br (tr (wrr [va [vi 2, vi x29, vstr w_0, vi r105.1]] [(ad b1 0, vi 2), (ad b1 1, vi x29), (ad b1 2, vstr w_0), (ad b1 3, vi r105.1)] ⟨hst.c 1, hst.c 1, hst.c 1, hst.c 1, trivial⟩ ?_)))))
    have hst := pk3 hst
    have e120 := hl30.trans (hl82.trans (hl93.trans (hl97.trans (hl108.trans hl115))))
    cases h
    exact ⟨_, rfl, m118, rfl, e120, hst⟩
   refine rg (s0 1 [(93, v109)] (vl (rer hv109) (s0 1 [(95, vb r105.2)] ?_)))
   rcases sp h with ⟨hc121, h⟩ | ⟨hc121, h⟩
   ·rw [hc121]
    refine s0 3 [(96, undef), (97, undef), (98, vb true)] (nl (tn ?_))
    exact ⟨_, m107, (true), (act_upds ⟨by kernel_rfl, by kernel_rfl, by kernel_rfl, by kernel_rfl, by kernel_rfl, trivial⟩), h, (Mem.le.refl _), hst⟩
   rw [hc121]
   refine s0 3 [(96, vi r105.1), (97, vb (decide (r105.1 > 1099511627776))), (98, vb (decide (r105.1 > 1099511627776)))] (nl (tn ?_))
   exact ⟨_, m107, (decide (r105.1 > 1099511627776)), (act_upds ⟨by kernel_rfl, by kernel_rfl, by kernel_rfl, by kernel_rfl, by kernel_rfl, trivial⟩), h, (Mem.le.refl _), hst⟩
  refine qr (s0 3 [(106, vu (c77.toNat : Int)), (107, vb ((c77.toNat : Int) == 34)), (105, vb ((c77.toNat : Int) == 34))] (nl (tn (cn h (fun h => ?_) (fun h => ?_)))))
  ·refine qr (s0 1 [(108, vp ob0 0)] ?_)
   have hst := pk1 hst
   rcases xbind_some h with ⟨p126, hq123, rfl⟩ | ⟨r122, hq123, h⟩
   ·have e127 := hl30.trans (hl82.trans hl93)
    exact cpa (c_lexer_quoted hq123 hst) (fun _ _ hp => ⟨rfl, _, rfl, hp.p e127 2 []⟩)
   refine cal (c_lexer_quoted hq123 hst) ?_
   rintro _ _ ⟨m124, rfl, hl125, hst⟩
   refine so1 0 (cSToken r122.2) (cSToken r122.2) hst (fun _ hst => ?_)
   refine nl (tn (wp_ret (br (tr (wrr [va (cSToken r122.2)] [(ad b1 0, vi r122.2.kind), (ad b1 1, vi r122.2.at_), (ad b1 2, vstr r122.2.s_), (ad b1 3, vi r122.2.n_)] ⟨hst.c 1, hst.c 1, hst.c 1, hst.c 1, trivial⟩ ?_)))))
   have hst := pk3 hst
   have e128 := hl30.trans (hl82.trans (hl93.trans hl125))
   cases h
   exact ⟨_, rfl, m124, rfl, e128, hst⟩
  refine wp_skip (bn (tn (sq (qr (s0 2 [(110, va [vstr wx2e2e, vstr wx213d, vstr wx3e3d, vstr wx3d, vstr wx3c, vstr wx7b, vstr wx7d, vstr wx28, vstr wx29, vstr wx2c, vstr wx2e, vstr wx2f, vstr wx2d]), (111, vi 0)] (nl (tn (bk (wc_loop (fun kk a w => ∃ (f0 : Fr) (m149 : Mem) (x135 : Int), a = act Tryz.f155.ntmps (upds f0 [(0, vp ob0 0), (2, vp b1 0), (3, vi x29), (110, va [vstr wx2e2e, vstr wx213d, vstr wx3e3d, vstr wx3d, vstr wx3c, vstr wx7b, vstr wx7d, vstr wx28, vstr wx29, vstr wx2c, vstr wx2e, vstr wx2f, vstr wx2d]), (111, vi x135)]) ∧ kk ≤ k31 ∧ lexer_next_l3 kk a0 x29 x135 = some r ∧ m92.le m149 ∧ St g m149 (oo b1 121 [vi 0, vi 0, vstr w_0, vi 0] :: oo ob0 155 [vstr a0.x_.s_, vi x29, vi a0.t_.kind, vi a0.t_.at_, vstr a0.t_.s_, vi a0.t_.n_] :: F) w) k31 ?_ ?_)))))))))
  ·exact ⟨_, m92, (0), (act_upds ⟨by kernel_rfl, by kernel_rfl, by kernel_rfl, by kernel_rfl, by kernel_rfl, trivial⟩), (Nat.le_refl _), h, (Mem.le.refl _), hst⟩
  rintro k147 ih148 _ _ ⟨f0, m149, x135, rfl, hk146, h, hl145, hst⟩
  obtain _ | k151 := k147
  ·simp [lexer_next_l3] at h
  rw [lexer_next_l3] at h
  refine qr (s0 1 [(112, vb (decide (x135 < 13)))] (nl (tn (sq (cn h (fun h => ?_) (fun h => ?_))))))
  ·refine wp_skip (tn (sq (bk (qr ?_))))
   obtain ⟨c153, hc154, h⟩ := ix h
   refine vl (ras 9 .i64 ([wx2e2e, wx213d, wx3e3d, wx3d, wx3c, wx7b, wx7d, wx28, wx29, wx2c, wx2e, wx2f, wx2d] : List Str) hc154.1 hc154.2) (s0 1 [(8, vstr c153)] (nl (tn (qr (sg 5 [(114, vp ob0 0), (115, vp ob0 0), (116, vp ob0 0), (117, vstr a0.x_.s_), (118, vi x29)] [(ad ob0 0, vstr a0.x_.s_)] ⟨hst.c 1, trivial⟩ ?_)))))
   obtain ⟨hb155, h⟩ := chk_some h
   refine vl (rs1 hb155) (s0 1 [(120, vstr c153)] ?_)
   obtain ⟨r156, hq157, h⟩ := bs h
   refine cal (c_strings_HasPrefix hq157 hst) ?_
   rintro _ _ ⟨m158, rfl, hl159, hst⟩
   refine nl (tn (cn h (fun h => ?_) (fun h => ?_)))
   ·refine qr (sg 9 [(122, vp ob0 0), (123, vp ob0 0), (124, vp ob0 1), (125, vi x29), (126, vstr c153), (127, vi ((c153).length : Int)), (128, vi (w64 (x29 + ((c153).length : Int)))), (129, vp ob0 0), (130, vp ob0 1)] [(ad ob0 1, vi x29)] ⟨hst.c 1, trivial⟩ (so1 1 [vi (w64 (x29 + ((c153).length : Int)))] [vstr a0.x_.s_, vi (w64 (x29 + ((c153).length : Int))), vi a0.t_.kind, vi a0.t_.at_, vstr a0.t_.s_, vi a0.t_.n_] hst (fun _ hst => ?_)))
    refine nl (tn (qr (s0 3 [(131, vi x29), (132, vstr c153), (133, va [vi 4, vi x29, vstr c153, vi 0])] (so0 0 [vi 4, vi x29, vstr c153, vi 0] [vi 4, vi x29, vstr c153, vi 0] hst (fun _ hst => ?_)))))
    refine nl (tn (wp_ret (br (tr (tr (br (tr (wrr [va [vi 4, vi x29, vstr c153, vi 0]] [(ad b1 0, vi 4), (ad b1 1, vi x29), (ad b1 2, vstr c153), (ad b1 3, vi 0)] ⟨hst.c 0, hst.c 0, hst.c 0, hst.c 0, trivial⟩ ?_))))))))
    have hst := pk0 hst
    have e160 := hl30.trans (hl82.trans (hl93.trans (hl145.trans hl159)))
    cases h
    exact ⟨_, rfl, m158, rfl, e160, hst⟩
   refine wp_skip (bn (tn (rg (s0 2 [(134, vi (w64 (x135 + 1))), (111, vi (w64 (x135 + 1)))] (nl (tn ?_))))))
   have e161 := hl145.trans hl159
   exact ih148 k151 (by omega) _ _ ⟨_, m158, (w64 (x135 + 1)), (act_upds ⟨by kernel_rfl, by kernel_rfl, by kernel_rfl, by kernel_rfl, by kernel_rfl, trivial⟩), (by omega), h, e161, hst⟩
  refine wp_exit (tx (tx (bx (tn (rg (s0 3 [(135, vi x29), (136, va [vi x29, vi 14]), (137, .iface 84 (va [vi x29, vi 14]))] (pa (v := .iface 84 (va [vi x29, vi 14])) (wpn ?_))))))))
  cases h
  have e162 := hl30.trans (hl82.trans (hl93.trans hl145))
  exact ⟨_, rfl, rfl, m149, e162, hst.pick 2 [] (by kernel_rfl)⟩
 refine bk (wc_loop (fun kk a w => ∃ (f0 : Fr) (m186 : Mem) (x172 : Int), a = act Tryz.f155.ntmps (upds f0 [(0, vp ob0 0), (2, vp b1 0)]) ∧ kk ≤ k ∧ lexer_next_l4 kk a0 x172 = some r ∧ m.le m186 ∧ St g m186 (oo b1 121 [vi 0, vi 0, vstr w_0, vi 0] :: oo ob0 155 [vstr a0.x_.s_, vi x172, vi a0.t_.kind, vi a0.t_.at_, vstr a0.t_.s_, vi a0.t_.n_] :: F) w) k ?_ ?_)
 ·exact ⟨_, m, (a0.x_.at_), (act_upds ⟨by kernel_rfl, by kernel_rfl, trivial⟩), (Nat.le_refl _), h, (Mem.le.refl _), hst⟩
 rintro k184 ih185 _ _ ⟨f0, m186, x172, rfl, hk183, h, hl182, hst⟩
 obtain _ | k188 := k184
 ·simp [lexer_next_l4] at h
 rw [lexer_next_l4] at h
 refine sq (sq (wc_draw false (fun x => Rd m186 (oo ob0 155 [vstr a0.x_.s_, vi x172, vi a0.t_.kind, vi a0.t_.at_, vstr a0.t_.s_, vi a0.t_.n_] :: []) x) (by kernel_rfl) ?_))
 have hst := hst.drew
 refine wpG_seg [0, 4, 1, 5, 2, 6, 3, 7, 8, 9, 10] [(9, vp ob0 0), (13, vp ob0 0), (10, vp ob0 0), (14, vp ob0 0), (11, vp ob0 1), (15, vp ob0 0), (12, vi x172), (16, vstr a0.x_.s_), (17, vi ((a0.x_.s_).length : Int)), (18, vb (decide (x172 < ((a0.x_.s_).length : Int)))), (19, vb (decide (x172 < ((a0.x_.s_).length : Int))))] [(ad ob0 1, vi x172), (ad ob0 0, vstr a0.x_.s_)] #[true, true, true, true, true, true, true, true, true, true, true, false, false, false, false, false, false, false, false, false, false, false] (fuel := 11) (PQ.then_ (PQ.then_ (PQ.then_ (PQ.block_ (PQ.then_ PQ.body))))) (by kernel_rfl) (by kernel_rfl) (hst.rd.with_ 1 rfl (hst.rd.none_)) (fun x hx => ⟨hx.c 0, hx.c 0, trivial⟩) ?_
 rcases sp h with ⟨hc193, h⟩ | ⟨hc193, h⟩
 ·rw [hc193]
  refine wpG_seg [11, 15, 12, 16, 13, 17, 14, 18] [(20, vp ob0 0), (24, vp ob0 0), (21, vp ob0 0), (25, vp ob0 0), (22, vp ob0 0), (26, vp ob0 1), (23, vstr a0.x_.s_), (27, vi x172)] [(ad ob0 0, vstr a0.x_.s_), (ad ob0 1, vi x172)] #[true, true, true, true, true, true, true, true, true, true, true, true, true, true, true, true, true, true, true, false, false, false] (fuel := 3) (PQ.then_ (PQ.then_ (PQ.then_ (PQ.block_ (PQ.then_ PQ.body))))) (by kernel_rfl) (by kernel_rfl) (hst.rd.with_ 1 rfl (hst.rd.none_)) (fun x hx => ⟨hx.c 0, hx.c 0, trivial⟩) ?_
  obtain ⟨c195, hc196, h⟩ := ix h
  refine wpG_take_val (PQ.then_ (PQ.then_ (PQ.then_ (PQ.block_ (PQ.then_ PQ.body))))) (i := 19) rfl (by kernel_rfl) (by kernel_rfl) (hst.rd.with_ 1 rfl (hst.rd.none_)) (fun x hx => ria hc196.1 hc196.2) ?_
  refine wpG_seg [20] [(29, vb ((c195.toNat : Int) == 32))] [] #[true, true, true, true, true, true, true, true, true, true, true, true, true, true, true, true, true, true, true, true, true, false] (fuel := 1) (PQ.then_ (PQ.then_ (PQ.then_ (PQ.block_ (PQ.then_ PQ.body))))) (by kernel_rfl) (by kernel_rfl) (hst.rd.with_ 1 rfl (hst.rd.none_)) (fun x hx => trivial) ?_
  refine wpG_exec 21 (by kernel_rfl) rfl (sg 1 [(30, vb ((c195.toNat : Int) == 32))] [] trivial (nl (tn (⟨_, fun _ h => h, .inl ⟨rfl, allListed_of _ (by kernel_rfl)⟩, ?_⟩))))
  refine wpG_done (by kernel_rfl) (tn (cn h (fun h => ?_) (fun h => ?_)))
  ·refine wp_skip (tn (bk (rg (sg 7 [(31, vp ob0 0), (32, vp ob0 0), (33, vp ob0 1), (34, vi x172), (35, vi (w64 (x172 + 1))), (36, vp ob0 0), (37, vp ob0 1)] [(ad ob0 1, vi x172)] ⟨hst.c 1, trivial⟩ (so1 1 [vi (w64 (x172 + 1))] [vstr a0.x_.s_, vi (w64 (x172 + 1)), vi a0.t_.kind, vi a0.t_.at_, vstr a0.t_.s_, vi a0.t_.n_] hst (fun _ hst => ?_))))))
   refine nl (bn (tn ?_))
   exact ih185 k188 (by omega) _ _ ⟨_, m186, (w64 (x172 + 1)), (act_upds ⟨by kernel_rfl, by kernel_rfl, trivial⟩), (by omega), h, hl182, hst⟩
  refine wp_exit (tx (tx (bx (tn ?_))))
  exact ⟨_, k188, m186, (x172), (act_upds ⟨by kernel_rfl, by kernel_rfl, trivial⟩), (by omega), h, hl182, hst⟩
 rw [hc193]
 refine wpG_seg [11, 15, 12, 16, 13, 17, 14, 18, 19, 20] [(20, undef), (24, undef), (21, undef), (25, undef), (22, undef), (26, undef), (23, undef), (27, undef), (28, undef), (29, undef)] [] #[true, true, true, true, true, true, true, true, true, true, true, true, true, true, true, true, true, true, true, true, true, false] (fuel := 1) (PQ.then_ (PQ.then_ (PQ.then_ (PQ.block_ (PQ.then_ PQ.body))))) (by kernel_rfl) (by kernel_rfl) (hst.rd.with_ 1 rfl (hst.rd.none_)) (fun x hx => trivial) ?_
 refine wpG_exec 21 (by kernel_rfl) rfl (sg 1 [(30, vb false)] [] trivial (nl (tn (⟨_, fun _ h => h, .inl ⟨rfl, allListed_of _ (by kernel_rfl)⟩, ?_⟩))))
 refine wpG_done (by kernel_rfl) (tn (cf (wp_exit (tx (tx (bx (tn ?_)))))))
 exact ⟨_, k188, m186, (x172), (act_upds ⟨by kernel_rfl, by kernel_rfl, trivial⟩), (by omega), h, hl182, hst⟩

def R_parser_advance (g : World) (m : Mem) (F : List Asr) (ob0 : Nat) (r : SParser) (v : Value) (w' : World) : Prop := ∃ (m' : Mem), v = vt [] ∧ m.le m' ∧ St g m' (oo ob0 155 (cSParser r) :: F) w'
theorem c_parser_advance {k : Nat} {a0 : SParser} {r : Except Pan SParser} {g : World} {m : Mem} {F : List Asr} {w : World} {ob0 : Nat} (h : parser_advance k a0 = some r) (hst : St g m (oo ob0 155 (cSParser a0) :: F) w) :
    Calls Tryz.prog 102 ⟨[vp ob0 0]⟩ w (XPost (R_parser_advance g m F ob0) g m F r) := by
 refine calls_enter Tryz.func102 rfl rfl ?_
 unfold parser_advance at h
 refine rg (s0 4 [(2, vp ob0 0), (3, vp ob0 0), (4, vp ob0 0), (5, vp ob0 0)] ?_)
 rcases xbind_some h with ⟨p5, hq2, rfl⟩ | ⟨r1, hq2, h⟩
 ·exact cpa (c_lexer_next hq2 hst) (fun _ _ hp => ⟨rfl, _, rfl, hp.p (Mem.le.refl _) 0 []⟩)
 refine cal (c_lexer_next hq2 hst) ?_
 rintro _ _ ⟨m3, rfl, hl4, hst⟩
 refine s0 2 [(7, vp ob0 0), (8, vp ob0 2)] (so0 2 (cSToken r1.2) [vstr r1.1.x_.s_, vi r1.1.x_.at_, vi r1.2.kind, vi r1.2.at_, vstr r1.2.s_, vi r1.2.n_] hst (fun _ hst => ?_))
 refine nl (we [] ?_)
 cases h
 exact ⟨_, rfl, m3, rfl, hl4, hst⟩

def R_parser_is (g : World) (m : Mem) (F : List Asr) (ob0 : Nat) (r : SParser × Bool) (v : Value) (w' : World) : Prop := ∃ (m' : Mem), v = vb r.2 ∧ m.le m' ∧ St g m' (oo ob0 155 (cSParser r.1) :: F) w'
theorem c_parser_is {a0 : SParser} {a1 : Str} {r : SParser × Bool} {g : World} {m : Mem} {F : List Asr} {w : World} {ob0 : Nat} (h : parser_is a0 a1 = some r) (hst : St g m (oo ob0 155 (cSParser a0) :: F) w) :
    Calls Tryz.prog 157 ⟨[vp ob0 0, vstr a1]⟩ w (OPost (R_parser_is g m F ob0) r) := by
 refine calls_enter Tryz.func157 rfl rfl ?_
 unfold parser_is at h
 refine qr (s0 1 [(4, vb false)] (nl (tn (qr (sg 7 [(5, vp ob0 0), (6, vp ob0 0), (7, vp ob0 2), (8, vp ob0 2), (9, vi a0.t_.kind), (10, vb (a0.t_.kind == 1)), (11, vb (a0.t_.kind == 1))] [(ad ob0 2, vi a0.t_.kind)] ⟨hst.c 0, trivial⟩ ?_)))))
 rcases sp h with ⟨hc1, h⟩ | ⟨hc1, h⟩
 ·rw [hc1]
  refine sg 14 [(12, undef), (13, undef), (14, undef), (15, undef), (16, undef), (17, undef), (18, vb true), (19, vb true), (20, vp ob0 0), (21, vp ob0 0), (22, vp ob0 2), (23, vp ob0 4), (24, vstr a0.t_.s_), (25, vstr a1)] [(ad ob0 4, vstr a0.t_.s_)] ⟨hst.c 0, trivial⟩ (vl (re a0.t_.s_ a1) (s0 2 [(27, vb (a0.t_.s_ == a1)), (4, vb (a0.t_.s_ == a1))] (nl (tn (wp_ret (wr [vb (a0.t_.s_ == a1)] ?_))))))
  cases h
  exact ⟨_, rfl, m, rfl, (Mem.le.refl _), hst⟩
 rw [hc1]
 refine sg 8 [(12, vp ob0 0), (13, vp ob0 0), (14, vp ob0 2), (15, vp ob0 2), (16, vi a0.t_.kind), (17, vb (a0.t_.kind == 4)), (18, vb (a0.t_.kind == 4)), (19, vb (a0.t_.kind == 4))] [(ad ob0 2, vi a0.t_.kind)] ⟨hst.c 0, trivial⟩ ?_
 rcases sp h with ⟨hc2, h⟩ | ⟨hc2, h⟩
 ·rw [hc2]
  refine sg 6 [(20, vp ob0 0), (21, vp ob0 0), (22, vp ob0 2), (23, vp ob0 4), (24, vstr a0.t_.s_), (25, vstr a1)] [(ad ob0 4, vstr a0.t_.s_)] ⟨hst.c 0, trivial⟩ (vl (re a0.t_.s_ a1) (s0 2 [(27, vb (a0.t_.s_ == a1)), (4, vb (a0.t_.s_ == a1))] (nl (tn (wp_ret (wr [vb (a0.t_.s_ == a1)] ?_))))))
  cases h
  exact ⟨_, rfl, m, rfl, (Mem.le.refl _), hst⟩
 rw [hc2]
 refine s0 9 [(20, undef), (21, undef), (22, undef), (23, undef), (24, undef), (25, undef), (26, undef), (27, vb false), (4, vb false)] (nl (tn (wp_ret (wr [vb false] ?_))))
 cases h
 exact ⟨_, rfl, m, rfl, (Mem.le.refl _), hst⟩

def R_parser_takes (g : World) (m : Mem) (F : List Asr) (ob0 : Nat) (r : SParser × Bool) (v : Value) (w' : World) : Prop := ∃ (m' : Mem), v = vb r.2 ∧ m.le m' ∧ St g m' (oo ob0 155 (cSParser r.1) :: F) w'
theorem c_parser_takes {k : Nat} {a0 : SParser} {a1 : Str} {r : Except Pan (SParser × Bool)} {g : World} {m : Mem} {F : List Asr} {w : World} {ob0 : Nat} (h : parser_takes k a0 a1 = some r) (hst : St g m (oo ob0 155 (cSParser a0) :: F) w) :
    Calls Tryz.prog 108 ⟨[vp ob0 0, vstr a1]⟩ w (XPost (R_parser_takes g m F ob0) g m F r) := by
 refine calls_enter Tryz.func108 rfl rfl ?_
 unfold parser_takes at h
 refine qr (s0 1 [(4, vb false)] (nl (tn (sq (qr (s0 2 [(5, vp ob0 0), (6, vstr a1)] ?_))))))
 obtain ⟨r1, hq2, h⟩ := bs h
 refine cal (c_parser_is hq2 hst) ?_
 rintro _ _ ⟨m3, rfl, hl4, hst⟩
 refine s0 1 [(8, vb (!r1.2))] (nl (tn (cn h (fun h => ?_) (fun h => ?_))))
 ·refine qr (s0 1 [(4, vb false)] (nl (tn (wp_ret (tr (wr [vb false] ?_))))))
  cases h
  exact ⟨_, rfl, m3, rfl, hl4, hst⟩
 refine wp_skip (tn (qr (s0 1 [(9, vp ob0 0)] ?_)))
 rcases xbind_some h with ⟨p9, hq6, rfl⟩ | ⟨r5, hq6, h⟩
 ·exact cpa (c_parser_advance hq6 hst) (fun _ _ hp => ⟨rfl, _, rfl, hp.p hl4 0 []⟩)
 refine cal (c_parser_advance hq6 hst) ?_
 rintro _ _ ⟨m7, rfl, hl8, hst⟩
 refine nl (tn (qr (s0 1 [(4, vb true)] (nl (tn (wp_ret (wr [vb true] ?_)))))))
 have e10 := hl4.trans hl8
 cases h
 exact ⟨_, rfl, m7, rfl, e10, hst⟩

def R_parser_wrong (g : World) (m : Mem) (F : List Asr) (ob0 : Nat) (r : SParser) (v : Value) (w' : World) : Prop := ∃ (m' : Mem), v = vt [] ∧ m.le m' ∧ St g m' (oo ob0 155 (cSParser r) :: F) w'
theorem c_parser_wrong {a0 : SParser} {r : Except Pan SParser} {g : World} {m : Mem} {F : List Asr} {w : World} {ob0 : Nat} (h : parser_wrong a0 = some r) (hst : St g m (oo ob0 155 (cSParser a0) :: F) w) :
    Calls Tryz.prog 103 ⟨[vp ob0 0]⟩ w (XPost (R_parser_wrong g m F ob0) g m (oo ob0 155 (cSParser a0) :: F) r) := by
 refine calls_enter Tryz.func103 rfl rfl ?_
 unfold parser_wrong at h
 refine rg (sg 7 [(2, vp ob0 0), (3, vp ob0 0), (4, vp ob0 2), (5, vp ob0 3), (6, vi a0.t_.at_), (7, va [vi a0.t_.at_, vi 14]), (8, .iface 84 (va [vi a0.t_.at_, vi 14]))] [(ad ob0 3, vi a0.t_.at_)] ⟨hst.c 0, trivial⟩ (pa (v := .iface 84 (va [vi a0.t_.at_, vi 14])) (wpn ?_)))
 cases h
 exact ⟨_, rfl, rfl, m, (Mem.le.refl _), hst.pick 1 [0] (by kernel_rfl)⟩

def R_parser_need (g : World) (m : Mem) (F : List Asr) (ob0 : Nat) (r : SParser) (v : Value) (w' : World) : Prop := ∃ (m' : Mem), v = vt [] ∧ m.le m' ∧ St g m' (oo ob0 155 (cSParser r) :: F) w'
theorem c_parser_need {k : Nat} {a0 : SParser} {a1 : Str} {r : Except Pan SParser} {g : World} {m : Mem} {F : List Asr} {w : World} {ob0 : Nat} (h : parser_need k a0 a1 = some r) (hst : St g m (oo ob0 155 (cSParser a0) :: F) w) :
    Calls Tryz.prog 104 ⟨[vp ob0 0, vstr a1]⟩ w (XPost (R_parser_need g m F ob0) g m F r) := by
 refine calls_enter Tryz.func104 rfl rfl ?_
 unfold parser_need at h
 refine qr (s0 2 [(4, vp ob0 0), (5, vstr a1)] ?_)
 rcases xbind_some h with ⟨p5, hq2, rfl⟩ | ⟨r1, hq2, h⟩
 ·exact cpa (c_parser_takes hq2 hst) (fun _ _ hp => ⟨rfl, _, rfl, hp.p (Mem.le.refl _) 0 []⟩)
 refine cal (c_parser_takes hq2 hst) ?_
 rintro _ _ ⟨m3, rfl, hl4, hst⟩
 refine s0 1 [(7, vb (!r1.2))] (nl (tn (cn h (fun h => ?_) (fun h => ?_))))
 ·refine rg (s0 1 [(8, vp ob0 0)] ?_)
  rcases xbind_some h with ⟨p10, hq7, rfl⟩ | ⟨r6, hq7, h⟩
  ·exact cpa (c_parser_wrong hq7 hst) (fun _ _ hp => ⟨rfl, _, rfl, hp.p hl4 1 []⟩)
  cases h
 refine wp_skip (we [] ?_)
 cases h
 exact ⟨_, rfl, m3, rfl, hl4, hst⟩

def R_syntax_isWord (g : World) (m : Mem) (F : List Asr) (r : Bool) (v : Value) (w' : World) : Prop := ∃ (m' : Mem), v = vb r ∧ m.le m' ∧ St g m' (F) w'
theorem c_syntax_isWord {k : Nat} {a0 : Str} {r : Bool} {g : World} {m : Mem} {F : List Asr} {w : World} (h : syntax_isWord k a0 = some r) (hst : St g m (F) w) :
    Calls Tryz.prog 43 ⟨[vstr a0]⟩ w (OPost (R_syntax_isWord g m F) r) := by
 refine calls_enter Tryz.func43 rfl rfl ?_
 unfold syntax_isWord at h
 refine qr (s0 1 [(2, vb false)] (nl (tn (sq (wc_join (fun a w => ∃ (f0 : Fr) (k19 : Nat) (m21 : Mem) (x17 : Bool), a = act Tryz.f43.ntmps (upds f0 [(0, vstr a0), (2, vb false), (11, vb x17)]) ∧ k19 ≤ k ∧ syntax_isWord_j1 k19 a0 x17 = some r ∧ m.le m21 ∧ St g m21 (F) w) ?_ ?_)))))
 ·rintro _ _ ⟨f0, k19, m21, x17, rfl, hk20, h, hl18, hst⟩
  unfold syntax_isWord_j1 at h
  refine cn h (fun h => ?_) (fun h => ?_)
  ·refine qr (s0 1 [(2, vb false)] (nl (tn (wp_ret (tr (wr [vb false] ?_))))))
   have h := Option.some.inj h; subst h
   exact ⟨_, rfl, m21, rfl, hl18, hst⟩
  refine wp_skip (tn (sq (qr (s0 3 [(12, vstr a0), (13, vi ((a0).length : Int)), (14, vi 0)] (nl (tn (bk (wc_loop (fun kk a w => ∃ (f0 : Fr) (m43 : Mem) (x30 : Int), a = act Tryz.f43.ntmps (upds f0 [(0, vstr a0), (2, vb false), (13, vi ((a0).length : Int)), (14, vi x30)]) ∧ kk ≤ k19 ∧ syntax_isWord_l2 kk a0 x30 = some r ∧ m21.le m43 ∧ St g m43 (F) w) k19 ?_ ?_))))))))
  ·exact ⟨_, m21, (0), (act_upds ⟨by kernel_rfl, by kernel_rfl, by kernel_rfl, by kernel_rfl, trivial⟩), (Nat.le_refl _), h, (Mem.le.refl _), hst⟩
  rintro k41 ih42 _ _ ⟨f0, m43, x30, rfl, hk40, h, hl39, hst⟩
  obtain _ | k45 := k41
  ·simp [syntax_isWord_l2] at h
  rw [syntax_isWord_l2] at h
  refine qr (s0 1 [(15, vb (decide (x30 < ((a0).length : Int))))] (nl (tn (sq (cn h (fun h => ?_) (fun h => ?_))))))
  ·refine wp_skip (tn (sq (bk (qr (s0 2 [(16, vi x30), (3, vi x30)] (nl (tn (qr (s0 2 [(17, vstr a0), (18, vi x30)] ?_)))))))))
   obtain ⟨c47, hc48, h⟩ := ix h
   refine vl (ria hc48.1 hc48.2) ?_
   obtain ⟨r49, hq50, h⟩ := bs h
   refine cal (c_syntax_inner hq50 hst) ?_
   rintro _ _ ⟨m51, rfl, hl52, hst⟩
   refine s0 1 [(21, vb (!r49))] (nl (tn (cn h (fun h => ?_) (fun h => ?_))))
   ·refine qr (s0 1 [(2, vb false)] (nl (tn (wp_ret (br (tr (tr (br (tr (wr [vb false] ?_))))))))))
    have e53 := hl18.trans (hl39.trans hl52)
    have h := Option.some.inj h; subst h
    exact ⟨_, rfl, m51, rfl, e53, hst⟩
   refine wp_skip (bn (tn (rg (s0 2 [(22, vi (w64 (x30 + 1))), (14, vi (w64 (x30 + 1)))] (nl (tn ?_))))))
   have e54 := hl39.trans hl52
   exact ih42 k45 (by omega) _ _ ⟨_, m51, (w64 (x30 + 1)), (act_upds ⟨by kernel_rfl, by kernel_rfl, by kernel_rfl, by kernel_rfl, trivial⟩), (by omega), h, e54, hst⟩
  refine wp_exit (tx (tx (bx (tn (qr (s0 1 [(2, vb true)] (nl (tn (wp_ret (wr [vb true] ?_))))))))))
  have e55 := hl18.trans hl39
  have h := Option.some.inj h; subst h
  exact ⟨_, rfl, m43, rfl, e55, hst⟩
 refine rg (s0 1 [(4, vstr a0)] (vl (re a0 w_0) (s0 1 [(6, vb (a0 == w_0))] ?_)))
 rcases sp h with ⟨hc56, h⟩ | ⟨hc56, h⟩
 ·rw [hc56]
  refine s0 5 [(7, undef), (8, undef), (9, undef), (10, undef), (11, vb true)] (nl (tn ?_))
  exact ⟨_, k, m, (true), (act_upds ⟨by kernel_rfl, by kernel_rfl, by kernel_rfl, trivial⟩), (by omega), h, (Mem.le.refl _), hst⟩
 rw [hc56]
 refine s0 1 [(7, vstr a0)] ?_
 obtain ⟨c58, hc59, h⟩ := ix h
 refine vl (ria hc59.1 hc59.2) ?_
 obtain ⟨r60, hq61, h⟩ := bs h
 refine cal (c_syntax_letter hq61 hst) ?_
 rintro _ _ ⟨m62, rfl, hl63, hst⟩
 refine s0 2 [(10, vb (!r60)), (11, vb (!r60))] (nl (tn ?_))
 exact ⟨_, k, m62, (!r60), (act_upds ⟨by kernel_rfl, by kernel_rfl, by kernel_rfl, trivial⟩), (by omega), h, hl63, hst⟩

def R_syntax_IsVariable (g : World) (m : Mem) (F : List Asr) (r : Bool) (v : Value) (w' : World) : Prop := ∃ (m' : Mem), v = vb r ∧ m.le m' ∧ St g m' (F) w'
theorem c_syntax_IsVariable {k : Nat} {a0 : Str} {r : Bool} {g : World} {m : Mem} {F : List Asr} {w : World} (h : syntax_IsVariable k a0 = some r) (hst : St g m (F) w) (hG : Glob m) :
    Calls Tryz.prog 15 ⟨[vstr a0]⟩ w (OPost (R_syntax_IsVariable g m F) r) := by
 refine calls_enter Tryz.func15 rfl rfl ?_
 unfold syntax_IsVariable at h
 refine qr (s0 1 [(2, vb false)] (nl (tn (qr (s0 1 [(3, vstr a0)] ?_)))))
 obtain ⟨r1, hq2, h⟩ := bs h
 refine cal (c_syntax_isWord hq2 hst) ?_
 rintro _ _ ⟨m3, rfl, hl4, hst⟩
 refine s0 1 [(5, vb r1)] ?_
 rcases sp h with ⟨hc5, h⟩ | ⟨hc5, h⟩
 ·rw [hc5]
  refine s0 5 [(6, vstr a0), (7, vi ((a0).length : Int)), (8, vb (decide (((a0).length : Int) ≤ 64))), (9, vb (decide (((a0).length : Int) ≤ 64))), (10, vb (decide (((a0).length : Int) ≤ 64)))] ?_
  rcases sp h with ⟨hc6, h⟩ | ⟨hc6, h⟩
  ·rw [hc6]
   refine cal (c_reserved hst (Glob.mono hl4 hG)) ?_
   rintro _ _ ⟨mb7, rfl, hst, hmap8⟩
   refine s0 1 [(12, vstr a0)] (vl (run_lookup_ents (k := 9) (e := 4) (xs := resWords) (s := a0) rfl (by kernel_rfl) (by kernel_rfl) (by kernel_rfl) (by kernel_rfl) (by kernel_rfl) hmap8) (s0 3 [(14, vb (!(resWords.contains a0))), (15, vb (!(resWords.contains a0))), (2, vb (!(resWords.contains a0)))] (nl (tn (wp_ret (wr [vb (!(resWords.contains a0))] ?_))))))
   cases h
   exact ⟨_, rfl, m3, rfl, hl4, hst⟩
  rw [hc6]
  refine s0 6 [(11, undef), (12, undef), (13, undef), (14, undef), (15, vb false), (2, vb false)] (nl (tn (wp_ret (wr [vb false] ?_))))
  have h := Option.some.inj h; subst h
  exact ⟨_, rfl, m3, rfl, hl4, hst⟩
 rw [hc5]
 refine s0 11 [(6, undef), (7, undef), (8, undef), (9, vb false), (10, vb false), (11, undef), (12, undef), (13, undef), (14, undef), (15, vb false), (2, vb false)] (nl (tn (wp_ret (wr [vb false] ?_))))
 have h := Option.some.inj h; subst h
 exact ⟨_, rfl, m3, rfl, hl4, hst⟩

def R_parser_name (g : World) (m : Mem) (F : List Asr) (ob0 : Nat) (r : SParser × Str) (v : Value) (w' : World) : Prop := ∃ (m' : Mem), v = vstr r.2 ∧ m.le m' ∧ St g m' (oo ob0 155 (cSParser r.1) :: F) w'
theorem c_parser_name {k : Nat} {a0 : SParser} {r : Except Pan (SParser × Str)} {g : World} {m : Mem} {F : List Asr} {w : World} {ob0 : Nat} (h : parser_name k a0 = some r) (hst : St g m (oo ob0 155 (cSParser a0) :: F) w) (hG : Glob m) :
    Calls Tryz.prog 156 ⟨[vp ob0 0, vf 15 [] []]⟩ w (XPost (R_parser_name g m F ob0) g m F r) := by
 refine calls_enter Tryz.func156 rfl rfl ?_
 unfold parser_name at h
 refine qr (s0 1 [(4, vstr w_0)] (nl (tn (sq (wc_join (fun a w => ∃ (f0 : Fr) (k23 : Nat) (m25 : Mem) (x21 : Bool), a = act Tryz.f156.ntmps (upds f0 [(0, vp ob0 0), (4, vstr w_0), (21, vb x21)]) ∧ k23 ≤ k ∧ parser_name_j1 k23 a0 x21 = some r ∧ m.le m25 ∧ St g m25 (oo ob0 155 (cSParser a0) :: F) w) ?_ ?_)))))
 ·rintro _ _ ⟨f0, k23, m25, x21, rfl, hk24, h, hl22, hst⟩
  unfold parser_name_j1 at h
  refine cn h (fun h => ?_) (fun h => ?_)
  ·refine rg (s0 1 [(22, vp ob0 0)] ?_)
   rcases xbind_some h with ⟨p30, hq27, rfl⟩ | ⟨r26, hq27, h⟩
   ·exact cpa (c_parser_wrong hq27 hst) (fun _ _ hp => ⟨rfl, _, rfl, hp.p hl22 1 []⟩)
   cases h
  refine wp_skip (tn (qr (sg 6 [(24, vp ob0 0), (25, vp ob0 0), (26, vp ob0 2), (27, vp ob0 4), (28, vstr a0.t_.s_), (5, vstr a0.t_.s_)] [(ad ob0 4, vstr a0.t_.s_)] ⟨hst.c 0, trivial⟩ (nl (tn (qr (s0 1 [(29, vp ob0 0)] ?_)))))))
  rcases xbind_some h with ⟨p35, hq32, rfl⟩ | ⟨r31, hq32, h⟩
  ·exact cpa (c_parser_advance hq32 hst) (fun _ _ hp => ⟨rfl, _, rfl, hp.p hl22 0 []⟩)
  refine cal (c_parser_advance hq32 hst) ?_
  rintro _ _ ⟨m33, rfl, hl34, hst⟩
  refine nl (tn (qr (s0 2 [(31, vstr a0.t_.s_), (4, vstr a0.t_.s_)] (nl (tn (wp_ret (wr [vstr a0.t_.s_] ?_)))))))
  have e36 := hl22.trans hl34
  cases h
  exact ⟨_, rfl, m33, rfl, e36, hst⟩
 refine rg (sg 7 [(6, vp ob0 0), (7, vp ob0 0), (8, vp ob0 2), (9, vp ob0 2), (10, vi a0.t_.kind), (11, vb (a0.t_.kind != 1)), (12, vb (a0.t_.kind != 1))] [(ad ob0 2, vi a0.t_.kind)] ⟨hst.c 0, trivial⟩ ?_)
 rcases sp h with ⟨hc37, h⟩ | ⟨hc37, h⟩
 ·rw [hc37]
  refine s0 9 [(13, undef), (14, undef), (15, undef), (16, undef), (17, undef), (18, undef), (19, undef), (20, undef), (21, vb true)] (nl (tn ?_))
  exact ⟨_, k, m, (true), (act_upds ⟨by kernel_rfl, by kernel_rfl, by kernel_rfl, trivial⟩), (by omega), h, (Mem.le.refl _), hst⟩
 rw [hc37]
 refine sg 6 [(13, vf 15 [] []), (14, vp ob0 0), (15, vp ob0 0), (16, vp ob0 2), (17, vp ob0 4), (18, vstr a0.t_.s_)] [(ad ob0 4, vstr a0.t_.s_)] ⟨hst.c 0, trivial⟩ ?_
 obtain ⟨r38, hq39, h⟩ := bs h
 refine cal (c_syntax_IsVariable hq39 hst hG) ?_
 rintro _ _ ⟨m40, rfl, hl41, hst⟩
 refine s0 2 [(20, vb (!r38)), (21, vb (!r38))] (nl (tn ?_))
 exact ⟨_, k, m40, (!r38), (act_upds ⟨by kernel_rfl, by kernel_rfl, by kernel_rfl, trivial⟩), (by omega), h, hl41, hst⟩

def R_parser_label (g : World) (m : Mem) (F : List Asr) (ob0 : Nat) (r : SParser × Str) (v : Value) (w' : World) : Prop := ∃ (m' : Mem), v = vstr r.2 ∧ m.le m' ∧ St g m' (oo ob0 155 (cSParser r.1) :: F) w'
theorem c_parser_label {k : Nat} {a0 : SParser} {r : Except Pan (SParser × Str)} {g : World} {m : Mem} {F : List Asr} {w : World} {ob0 : Nat} (h : parser_label k a0 = some r) (hst : St g m (oo ob0 155 (cSParser a0) :: F) w) :
    Calls Tryz.prog 177 ⟨[vp ob0 0]⟩ w (XPost (R_parser_label g m F ob0) g m F r) := by
 refine calls_enter Tryz.func177 rfl rfl ?_
 unfold parser_label at h
 refine qr (s0 1 [(2, vstr w_0)] (nl (tn (wc_join (fun a w => ∃ (f0 : Fr) (k8 : Nat) (m10 : Mem), a = act Tryz.f177.ntmps (upds f0 [(0, vp ob0 0), (2, vstr w_0)]) ∧ k8 ≤ k ∧ parser_label_j1 k8 a0 = some r ∧ m.le m10 ∧ St g m10 (oo ob0 155 (cSParser a0) :: F) w) ?_ ?_))))
 ·rintro _ _ ⟨f0, k8, m10, rfl, hk9, h, hl7, hst⟩
  unfold parser_label_j1 at h
  refine qr (sg 6 [(20, vp ob0 0), (21, vp ob0 0), (22, vp ob0 2), (23, vp ob0 4), (24, vstr a0.t_.s_), (3, vstr a0.t_.s_)] [(ad ob0 4, vstr a0.t_.s_)] ⟨hst.c 0, trivial⟩ (nl (tn (qr (s0 1 [(25, vp ob0 0)] ?_)))))
  rcases xbind_some h with ⟨p15, hq12, rfl⟩ | ⟨r11, hq12, h⟩
  ·exact cpa (c_parser_advance hq12 hst) (fun _ _ hp => ⟨rfl, _, rfl, hp.p hl7 0 []⟩)
  refine cal (c_parser_advance hq12 hst) ?_
  rintro _ _ ⟨m13, rfl, hl14, hst⟩
  refine nl (tn (qr (s0 2 [(27, vstr a0.t_.s_), (2, vstr a0.t_.s_)] (nl (tn (wp_ret (wr [vstr a0.t_.s_] ?_)))))))
  have e16 := hl7.trans hl14
  cases h
  exact ⟨_, rfl, m13, rfl, e16, hst⟩
 refine qr (sg 7 [(4, vp ob0 0), (5, vp ob0 0), (6, vp ob0 2), (7, vp ob0 2), (8, vi a0.t_.kind), (9, vb (a0.t_.kind != 1)), (10, vb (a0.t_.kind != 1))] [(ad ob0 2, vi a0.t_.kind)] ⟨hst.c 0, trivial⟩ ?_)
 rcases sp h with ⟨hc17, h⟩ | ⟨hc17, h⟩
 ·rw [hc17]
  refine sg 7 [(11, vp ob0 0), (12, vp ob0 0), (13, vp ob0 2), (14, vp ob0 2), (15, vi a0.t_.kind), (16, vb (a0.t_.kind != 3)), (17, vb (a0.t_.kind != 3))] [(ad ob0 2, vi a0.t_.kind)] ⟨hst.c 0, trivial⟩ (nl (tn (cn h (fun h => ?_) (fun h => ?_))))
  ·refine rg (s0 1 [(18, vp ob0 0)] ?_)
   rcases xbind_some h with ⟨p22, hq19, rfl⟩ | ⟨r18, hq19, h⟩
   ·exact cpa (c_parser_wrong hq19 hst) (fun _ _ hp => ⟨rfl, _, rfl, hp.p (Mem.le.refl _) 1 []⟩)
   cases h
  refine wp_skip (tn ?_)
  exact ⟨_, k, m, (act_upds ⟨by kernel_rfl, by kernel_rfl, trivial⟩), (by omega), h, (Mem.le.refl _), hst⟩
 rw [hc17]
 refine s0 7 [(11, undef), (12, undef), (13, undef), (14, undef), (15, undef), (16, undef), (17, vb false)] (nl (tn (cf (wp_skip (tn ?_)))))
 exact ⟨_, k, m, (act_upds ⟨by kernel_rfl, by kernel_rfl, trivial⟩), (by omega), h, (Mem.le.refl _), hst⟩

def R_syntax_IsField (g : World) (m : Mem) (F : List Asr) (r : Bool) (v : Value) (w' : World) : Prop := ∃ (m' : Mem), v = vb r ∧ m.le m' ∧ St g m' (F) w'
theorem c_syntax_IsField {k : Nat} {a0 : Str} {r : Bool} {g : World} {m : Mem} {F : List Asr} {w : World} (h : syntax_IsField k a0 = some r) (hst : St g m (F) w) :
    Calls Tryz.prog 17 ⟨[vstr a0]⟩ w (OPost (R_syntax_IsField g m F) r) := by
 refine calls_enter Tryz.func17 rfl rfl ?_
 unfold syntax_IsField at h
 refine qr (s0 1 [(2, vb false)] (nl (tn (sq (wc_join (fun a w => ∃ (f0 : Fr) (m15 : Mem) (x11 : Bool), a = act Tryz.f17.ntmps (upds f0 [(0, vstr a0), (2, vb false), (10, vb x11)]) ∧ syntax_IsField_j1 a0 x11 = some r ∧ m.le m15 ∧ St g m15 (F) w) ?_ ?_)))))
 ·rintro _ _ ⟨f0, m15, x11, rfl, h, hl12, hst⟩
  unfold syntax_IsField_j1 at h
  refine cn h (fun h => ?_) (fun h => ?_)
  ·refine qr (s0 1 [(2, vb false)] (nl (tn (wp_ret (tr (wr [vb false] ?_))))))
   have h := Option.some.inj h; subst h
   exact ⟨_, rfl, m15, rfl, hl12, hst⟩
  refine wp_skip (tn (sq (qr (s0 1 [(11, vstr a0)] (nl (tn (bk (sq (qr (vl (re a0 w_and) (s0 1 [(12, vb (a0 == w_and))] (nl (tn (cn h (fun h => ?_) (fun h => ?_)))))))))))))))
  ·refine wp_skip (tn (cn h (fun h => ?_) (fun h => ?_)))
   ·refine qr (s0 1 [(2, vb false)] (nl (tn (wp_ret (br (tr (wr [vb false] ?_)))))))
    have h := Option.some.inj h; subst h
    exact ⟨_, rfl, m15, rfl, hl12, hst⟩
   refine wp_skip (bn (tn (qr (s0 1 [(2, vb true)] (nl (tn (wp_ret (wr [vb true] ?_))))))))
   have h := Option.some.inj h; subst h
   exact ⟨_, rfl, m15, rfl, hl12, hst⟩
  refine qr (vl (re a0 w_attr) (s0 1 [(12, vb (a0 == w_attr))] (nl (tn (cn h (fun h => ?_) (fun h => ?_))))))
  ·refine wp_skip (tn (cn h (fun h => ?_) (fun h => ?_)))
   ·refine qr (s0 1 [(2, vb false)] (nl (tn (wp_ret (br (tr (wr [vb false] ?_)))))))
    have h := Option.some.inj h; subst h
    exact ⟨_, rfl, m15, rfl, hl12, hst⟩
   refine wp_skip (bn (tn (qr (s0 1 [(2, vb true)] (nl (tn (wp_ret (wr [vb true] ?_))))))))
   have h := Option.some.inj h; subst h
   exact ⟨_, rfl, m15, rfl, hl12, hst⟩
  refine qr (vl (re a0 w_false) (s0 1 [(12, vb (a0 == w_false))] (nl (tn (cn h (fun h => ?_) (fun h => ?_))))))
  ·refine wp_skip (tn (cn h (fun h => ?_) (fun h => ?_)))
   ·refine qr (s0 1 [(2, vb false)] (nl (tn (wp_ret (br (tr (wr [vb false] ?_)))))))
    have h := Option.some.inj h; subst h
    exact ⟨_, rfl, m15, rfl, hl12, hst⟩
   refine wp_skip (bn (tn (qr (s0 1 [(2, vb true)] (nl (tn (wp_ret (wr [vb true] ?_))))))))
   have h := Option.some.inj h; subst h
   exact ⟨_, rfl, m15, rfl, hl12, hst⟩
  refine qr (vl (re a0 w_has) (s0 1 [(12, vb (a0 == w_has))] (nl (tn (cn h (fun h => ?_) (fun h => ?_))))))
  ·refine wp_skip (tn (cn h (fun h => ?_) (fun h => ?_)))
   ·refine qr (s0 1 [(2, vb false)] (nl (tn (wp_ret (br (tr (wr [vb false] ?_)))))))
    have h := Option.some.inj h; subst h
    exact ⟨_, rfl, m15, rfl, hl12, hst⟩
   refine wp_skip (bn (tn (qr (s0 1 [(2, vb true)] (nl (tn (wp_ret (wr [vb true] ?_))))))))
   have h := Option.some.inj h; subst h
   exact ⟨_, rfl, m15, rfl, hl12, hst⟩
  refine qr (vl (re a0 w_not) (s0 1 [(12, vb (a0 == w_not))] (nl (tn (cn h (fun h => ?_) (fun h => ?_))))))
  ·refine wp_skip (tn (cn h (fun h => ?_) (fun h => ?_)))
   ·refine qr (s0 1 [(2, vb false)] (nl (tn (wp_ret (br (tr (wr [vb false] ?_)))))))
    have h := Option.some.inj h; subst h
    exact ⟨_, rfl, m15, rfl, hl12, hst⟩
   refine wp_skip (bn (tn (qr (s0 1 [(2, vb true)] (nl (tn (wp_ret (wr [vb true] ?_))))))))
   have h := Option.some.inj h; subst h
   exact ⟨_, rfl, m15, rfl, hl12, hst⟩
  refine qr (vl (re a0 w_or) (s0 1 [(12, vb (a0 == w_or))] (nl (tn (cn h (fun h => ?_) (fun h => ?_))))))
  ·refine wp_skip (tn (cn h (fun h => ?_) (fun h => ?_)))
   ·refine qr (s0 1 [(2, vb false)] (nl (tn (wp_ret (br (tr (wr [vb false] ?_)))))))
    have h := Option.some.inj h; subst h
    exact ⟨_, rfl, m15, rfl, hl12, hst⟩
   refine wp_skip (bn (tn (qr (s0 1 [(2, vb true)] (nl (tn (wp_ret (wr [vb true] ?_))))))))
   have h := Option.some.inj h; subst h
   exact ⟨_, rfl, m15, rfl, hl12, hst⟩
  refine qr (vl (re a0 w_prefix) (s0 1 [(12, vb (a0 == w_prefix))] (nl (tn (cn h (fun h => ?_) (fun h => ?_))))))
  ·refine wp_skip (tn (cn h (fun h => ?_) (fun h => ?_)))
   ·refine qr (s0 1 [(2, vb false)] (nl (tn (wp_ret (br (tr (wr [vb false] ?_)))))))
    have h := Option.some.inj h; subst h
    exact ⟨_, rfl, m15, rfl, hl12, hst⟩
   refine wp_skip (bn (tn (qr (s0 1 [(2, vb true)] (nl (tn (wp_ret (wr [vb true] ?_))))))))
   have h := Option.some.inj h; subst h
   exact ⟨_, rfl, m15, rfl, hl12, hst⟩
  refine rg (vl (re a0 w_true) (s0 1 [(12, vb (a0 == w_true))] (nl (tn (cn h (fun h => ?_) (fun h => ?_))))))
  ·refine qr (s0 1 [(2, vb false)] (nl (tn (wp_ret (br (tr (wr [vb false] ?_)))))))
   have h := Option.some.inj h; subst h
   exact ⟨_, rfl, m15, rfl, hl12, hst⟩
  refine wp_skip (bn (tn (qr (s0 1 [(2, vb true)] (nl (tn (wp_ret (wr [vb true] ?_))))))))
  have h := Option.some.inj h; subst h
  exact ⟨_, rfl, m15, rfl, hl12, hst⟩
 refine rg (s0 1 [(3, vstr a0)] ?_)
 obtain ⟨r16, hq17, h⟩ := bs h
 refine cal (c_syntax_isWord hq17 hst) ?_
 rintro _ _ ⟨m18, rfl, hl19, hst⟩
 refine s0 2 [(5, vb (!r16)), (6, vb (!r16))] ?_
 rcases sp h with ⟨hc20, h⟩ | ⟨hc20, h⟩
 ·rw [hc20]
  refine s0 4 [(7, undef), (8, undef), (9, undef), (10, vb true)] (nl (tn ?_))
  exact ⟨_, m18, (true), (act_upds ⟨by kernel_rfl, by kernel_rfl, by kernel_rfl, trivial⟩), h, hl19, hst⟩
 rw [hc20]
 refine s0 4 [(7, vstr a0), (8, vi ((a0).length : Int)), (9, vb (decide (((a0).length : Int) > 64))), (10, vb (decide (((a0).length : Int) > 64)))] (nl (tn ?_))
 exact ⟨_, m18, (decide (((a0).length : Int) > 64)), (act_upds ⟨by kernel_rfl, by kernel_rfl, by kernel_rfl, trivial⟩), h, hl19, hst⟩

def R_parser_name_i1 (g : World) (m : Mem) (F : List Asr) (ob0 : Nat) (r : SParser × Str) (v : Value) (w' : World) : Prop := ∃ (m' : Mem), v = vstr r.2 ∧ m.le m' ∧ St g m' (oo ob0 155 (cSParser r.1) :: F) w'
theorem c_parser_name_i1 {k : Nat} {a0 : SParser} {r : Except Pan (SParser × Str)} {g : World} {m : Mem} {F : List Asr} {w : World} {ob0 : Nat} (h : parser_name_i1 k a0 = some r) (hst : St g m (oo ob0 155 (cSParser a0) :: F) w) :
    Calls Tryz.prog 156 ⟨[vp ob0 0, vf 17 [] []]⟩ w (XPost (R_parser_name_i1 g m F ob0) g m F r) := by
 refine calls_enter Tryz.func156 rfl rfl ?_
 unfold parser_name_i1 at h
 refine qr (s0 1 [(4, vstr w_0)] (nl (tn (sq (wc_join (fun a w => ∃ (f0 : Fr) (k23 : Nat) (m25 : Mem) (x21 : Bool), a = act Tryz.f156.ntmps (upds f0 [(0, vp ob0 0), (4, vstr w_0), (21, vb x21)]) ∧ k23 ≤ k ∧ parser_name_i1_j1 k23 a0 x21 = some r ∧ m.le m25 ∧ St g m25 (oo ob0 155 (cSParser a0) :: F) w) ?_ ?_)))))
 ·rintro _ _ ⟨f0, k23, m25, x21, rfl, hk24, h, hl22, hst⟩
  unfold parser_name_i1_j1 at h
  refine cn h (fun h => ?_) (fun h => ?_)
  ·refine rg (s0 1 [(22, vp ob0 0)] ?_)
   rcases xbind_some h with ⟨p30, hq27, rfl⟩ | ⟨r26, hq27, h⟩
   ·exact cpa (c_parser_wrong hq27 hst) (fun _ _ hp => ⟨rfl, _, rfl, hp.p hl22 1 []⟩)
   cases h
  refine wp_skip (tn (qr (sg 6 [(24, vp ob0 0), (25, vp ob0 0), (26, vp ob0 2), (27, vp ob0 4), (28, vstr a0.t_.s_), (5, vstr a0.t_.s_)] [(ad ob0 4, vstr a0.t_.s_)] ⟨hst.c 0, trivial⟩ (nl (tn (qr (s0 1 [(29, vp ob0 0)] ?_)))))))
  rcases xbind_some h with ⟨p35, hq32, rfl⟩ | ⟨r31, hq32, h⟩
  ·exact cpa (c_parser_advance hq32 hst) (fun _ _ hp => ⟨rfl, _, rfl, hp.p hl22 0 []⟩)
  refine cal (c_parser_advance hq32 hst) ?_
  rintro _ _ ⟨m33, rfl, hl34, hst⟩
  refine nl (tn (qr (s0 2 [(31, vstr a0.t_.s_), (4, vstr a0.t_.s_)] (nl (tn (wp_ret (wr [vstr a0.t_.s_] ?_)))))))
  have e36 := hl22.trans hl34
  cases h
  exact ⟨_, rfl, m33, rfl, e36, hst⟩
 refine rg (sg 7 [(6, vp ob0 0), (7, vp ob0 0), (8, vp ob0 2), (9, vp ob0 2), (10, vi a0.t_.kind), (11, vb (a0.t_.kind != 1)), (12, vb (a0.t_.kind != 1))] [(ad ob0 2, vi a0.t_.kind)] ⟨hst.c 0, trivial⟩ ?_)
 rcases sp h with ⟨hc37, h⟩ | ⟨hc37, h⟩
 ·rw [hc37]
  refine s0 9 [(13, undef), (14, undef), (15, undef), (16, undef), (17, undef), (18, undef), (19, undef), (20, undef), (21, vb true)] (nl (tn ?_))
  exact ⟨_, k, m, (true), (act_upds ⟨by kernel_rfl, by kernel_rfl, by kernel_rfl, trivial⟩), (by omega), h, (Mem.le.refl _), hst⟩
 rw [hc37]
 refine sg 6 [(13, vf 17 [] []), (14, vp ob0 0), (15, vp ob0 0), (16, vp ob0 2), (17, vp ob0 4), (18, vstr a0.t_.s_)] [(ad ob0 4, vstr a0.t_.s_)] ⟨hst.c 0, trivial⟩ ?_
 obtain ⟨r38, hq39, h⟩ := bs h
 refine cal (c_syntax_IsField hq39 hst) ?_
 rintro _ _ ⟨m40, rfl, hl41, hst⟩
 refine s0 2 [(20, vb (!r38)), (21, vb (!r38))] (nl (tn ?_))
 exact ⟨_, k, m40, (!r38), (act_upds ⟨by kernel_rfl, by kernel_rfl, by kernel_rfl, trivial⟩), (by omega), h, hl41, hst⟩

def R_parser_path (g : World) (m : Mem) (F : List Asr) (ob0 : Nat) (r : SParser × Str × Str) (v : Value) (w' : World) : Prop := ∃ (m' : Mem), v = vt [vstr r.2.1, vstr r.2.2] ∧ m.le m' ∧ St g m' (oo ob0 155 (cSParser r.1) :: F) w'
theorem c_parser_path {k : Nat} {a0 : SParser} {r : Except Pan (SParser × Str × Str)} {g : World} {m : Mem} {F : List Asr} {w : World} {ob0 : Nat} (h : parser_path k a0 = some r) (hst : St g m (oo ob0 155 (cSParser a0) :: F) w) :
    Calls Tryz.prog 159 ⟨[vp ob0 0]⟩ w (XPost (R_parser_path g m F ob0) g m F r) := by
 refine calls_enter Tryz.func159 rfl rfl ?_
 unfold parser_path at h
 refine qr (s0 2 [(2, vstr w_0), (3, vstr w_0)] (nl (tn (sq (qr (s0 1 [(4, vp ob0 0)] ?_))))))
 rcases xbind_some h with ⟨p5, hq2, rfl⟩ | ⟨r1, hq2, h⟩
 ·exact cpa (c_parser_takes hq2 hst) (fun _ _ hp => ⟨rfl, _, rfl, hp.p (Mem.le.refl _) 0 []⟩)
 refine cal (c_parser_takes hq2 hst) ?_
 rintro _ _ ⟨m3, rfl, hl4, hst⟩
 refine nl (tn (cn h (fun h => ?_) (fun h => ?_)))
 ·refine qr (s0 1 [(6, vp ob0 0)] ?_)
  rcases xbind_some h with ⟨p10, hq7, rfl⟩ | ⟨r6, hq7, h⟩
  ·exact cpa (c_parser_need hq7 hst) (fun _ _ hp => ⟨rfl, _, rfl, hp.p hl4 0 []⟩)
  refine cal (c_parser_need hq7 hst) ?_
  rintro _ _ ⟨m8, rfl, hl9, hst⟩
  refine nl (tn (qr (s0 1 [(8, vp ob0 0)] ?_)))
  rcases xbind_some h with ⟨p15, hq12, rfl⟩ | ⟨r11, hq12, h⟩
  ·have e16 := hl4.trans hl9
   exact cpa (c_parser_label hq12 hst) (fun _ _ hp => ⟨rfl, _, rfl, hp.p e16 0 []⟩)
  refine cal (c_parser_label hq12 hst) ?_
  rintro _ _ ⟨m13, rfl, hl14, hst⟩
  refine s0 2 [(2, vstr w_attr), (3, vstr r11.2)] (nl (tn (wp_ret (tr (wr [vstr w_attr, vstr r11.2] ?_)))))
  have e17 := hl4.trans (hl9.trans hl14)
  cases h
  exact ⟨_, rfl, m13, rfl, e17, hst⟩
 refine wp_skip (tn (qr (s0 1 [(10, vp ob0 0)] ?_)))
 rcases xbind_some h with ⟨p22, hq19, rfl⟩ | ⟨r18, hq19, h⟩
 ·exact cpa (c_parser_name_i1 hq19 hst) (fun _ _ hp => ⟨rfl, _, rfl, hp.p hl4 0 []⟩)
 refine cal (c_parser_name_i1 hq19 hst) ?_
 rintro _ _ ⟨m20, rfl, hl21, hst⟩
 refine s0 2 [(2, vstr r18.2), (3, vstr w_0)] (nl (tn (wp_ret (wr [vstr r18.2, vstr w_0] ?_))))
 have e23 := hl4.trans hl21
 cases h
 exact ⟨_, rfl, m20, rfl, e23, hst⟩

def R_parser_int (g : World) (m : Mem) (F : List Asr) (ob0 : Nat) (r : SParser × Int) (v : Value) (w' : World) : Prop := ∃ (m' : Mem), v = vi r.2 ∧ m.le m' ∧ St g m' (oo ob0 155 (cSParser r.1) :: F) w'
theorem c_parser_int {k : Nat} {a0 : SParser} {r : Except Pan (SParser × Int)} {g : World} {m : Mem} {F : List Asr} {w : World} {ob0 : Nat} (h : parser_int k a0 = some r) (hst : St g m (oo ob0 155 (cSParser a0) :: F) w) :
    Calls Tryz.prog 111 ⟨[vp ob0 0]⟩ w (XPost (R_parser_int g m F ob0) g m F r) := by
 refine calls_enter Tryz.func111 rfl rfl ?_
 unfold parser_int at h
 refine qr (s0 1 [(2, vi 0)] (nl (tn (sq (qr (sg 6 [(4, vp ob0 0), (5, vp ob0 0), (6, vp ob0 2), (7, vp ob0 2), (8, vi a0.t_.kind), (9, vb (a0.t_.kind != 2))] [(ad ob0 2, vi a0.t_.kind)] ⟨hst.c 0, trivial⟩ (nl (tn (cn h (fun h => ?_) (fun h => ?_))))))))))
 ·refine rg (s0 1 [(10, vp ob0 0)] ?_)
  rcases xbind_some h with ⟨p10, hq7, rfl⟩ | ⟨r6, hq7, h⟩
  ·exact cpa (c_parser_wrong hq7 hst) (fun _ _ hp => ⟨rfl, _, rfl, hp.p (Mem.le.refl _) 1 []⟩)
  cases h
 refine wp_skip (tn (qr (sg 6 [(12, vp ob0 0), (13, vp ob0 0), (14, vp ob0 2), (15, vp ob0 5), (16, vi a0.t_.n_), (3, vi a0.t_.n_)] [(ad ob0 5, vi a0.t_.n_)] ⟨hst.c 0, trivial⟩ (nl (tn (qr (s0 1 [(17, vp ob0 0)] ?_)))))))
 rcases xbind_some h with ⟨p15, hq12, rfl⟩ | ⟨r11, hq12, h⟩
 ·exact cpa (c_parser_advance hq12 hst) (fun _ _ hp => ⟨rfl, _, rfl, hp.p (Mem.le.refl _) 0 []⟩)
 refine cal (c_parser_advance hq12 hst) ?_
 rintro _ _ ⟨m13, rfl, hl14, hst⟩
 refine nl (tn (qr (s0 2 [(19, vi a0.t_.n_), (2, vi a0.t_.n_)] (nl (tn (wp_ret (wr [vi a0.t_.n_] ?_)))))))
 cases h
 exact ⟨_, rfl, m13, rfl, hl14, hst⟩

def R_parser_value (g : World) (m : Mem) (F : List Asr) (ob0 : Nat) (r : SParser × GValue) (v : Value) (w' : World) : Prop := ∃ (m' : Mem), v = va (cGValue r.2) ∧ m.le m' ∧ St g m' (oo ob0 155 (cSParser r.1) :: F) w'
theorem c_parser_value {k : Nat} {a0 : SParser} {r : Except Pan (SParser × GValue)} {g : World} {m : Mem} {F : List Asr} {w : World} {ob0 : Nat} (h : parser_value k a0 = some r) (hst : St g m (oo ob0 155 (cSParser a0) :: F) w) :
    Calls Tryz.prog 186 ⟨[vp ob0 0]⟩ w (XPost (R_parser_value g m F ob0) g m F r) := by
 refine calls_enter Tryz.func186 rfl rfl ?_
 unfold parser_value at h
 refine qr (al [vi 0, vstr w_0, vi 0] hst (fun b1 _ hst => ?_))
 refine nl (tn (sq (bk (qr (sg 7 [(4, vp ob0 0), (5, vp ob0 0), (6, vp ob0 2), (7, vp ob0 2), (8, vi a0.t_.kind), (9, vb (a0.t_.kind == 3)), (3, vb (a0.t_.kind == 3))] [(ad ob0 2, vi a0.t_.kind)] ⟨hst.c 1, trivial⟩ (nl (tn (cn h (fun h => ?_) (fun h => ?_)))))))))
 ·refine qr (s0 1 [(10, vp ob0 0)] ?_)
  have hst := pk1 hst
  rcases xbind_some h with ⟨p6, hq3, rfl⟩ | ⟨r2, hq3, h⟩
  ·exact cpa (c_parser_label hq3 hst) (fun _ _ hp => ⟨rfl, _, rfl, hp.p (Mem.le.refl _) 1 []⟩)
  refine cal (c_parser_label hq3 hst) ?_
  rintro _ _ ⟨m4, rfl, hl5, hst⟩
  refine s0 1 [(12, va [vi 1, vstr r2.2, vi 0])] (so1 0 [vi 1, vstr r2.2, vi 0] [vi 1, vstr r2.2, vi 0] hst (fun _ hst => ?_))
  refine nl (tn (wp_ret (br (tr (wrr [va [vi 1, vstr r2.2, vi 0]] [(ad b1 0, vi 1), (ad b1 1, vstr r2.2), (ad b1 2, vi 0)] ⟨hst.c 1, hst.c 1, hst.c 1, trivial⟩ ?_)))))
  have hst := pk3 hst
  cases h
  exact ⟨_, rfl, m4, rfl, hl5, hst⟩
 refine qr (s0 1 [(14, vp ob0 0)] ?_)
 have hst := pk1 hst
 rcases xbind_some h with ⟨p11, hq8, rfl⟩ | ⟨r7, hq8, h⟩
 ·exact cpa (c_parser_takes hq8 hst) (fun _ _ hp => ⟨rfl, _, rfl, hp.p (Mem.le.refl _) 1 []⟩)
 refine cal (c_parser_takes hq8 hst) ?_
 rintro _ _ ⟨m9, rfl, hl10, hst⟩
 refine s0 1 [(13, vb r7.2)] (nl (tn (cn h (fun h => ?_) (fun h => ?_))))
 ·refine qr (s0 1 [(16, va [vi 3, vstr w_0, vi 1])] (so1 0 [vi 3, vstr w_0, vi 1] [vi 3, vstr w_0, vi 1] hst (fun _ hst => ?_)))
  refine nl (tn (wp_ret (br (tr (wrr [va [vi 3, vstr w_0, vi 1]] [(ad b1 0, vi 3), (ad b1 1, vstr w_0), (ad b1 2, vi 1)] ⟨hst.c 1, hst.c 1, hst.c 1, trivial⟩ ?_)))))
  have hst := pk3 hst
  cases h
  exact ⟨_, rfl, m9, rfl, hl10, hst⟩
 refine qr (s0 1 [(18, vp ob0 0)] ?_)
 rcases xbind_some h with ⟨p16, hq13, rfl⟩ | ⟨r12, hq13, h⟩
 ·exact cpa (c_parser_takes hq13 hst) (fun _ _ hp => ⟨rfl, _, rfl, hp.p hl10 1 []⟩)
 refine cal (c_parser_takes hq13 hst) ?_
 rintro _ _ ⟨m14, rfl, hl15, hst⟩
 refine s0 1 [(17, vb r12.2)] (nl (tn (cn h (fun h => ?_) (fun h => ?_))))
 ·refine qr (s0 1 [(20, va [vi 3, vstr w_0, vi 0])] (so1 0 [vi 3, vstr w_0, vi 0] [vi 3, vstr w_0, vi 0] hst (fun _ hst => ?_)))
  refine nl (tn (wp_ret (br (tr (wrr [va [vi 3, vstr w_0, vi 0]] [(ad b1 0, vi 3), (ad b1 1, vstr w_0), (ad b1 2, vi 0)] ⟨hst.c 1, hst.c 1, hst.c 1, trivial⟩ ?_)))))
  have hst := pk3 hst
  have e17 := hl10.trans hl15
  cases h
  exact ⟨_, rfl, m14, rfl, e17, hst⟩
 refine qr (s0 1 [(22, vp ob0 0)] ?_)
 rcases xbind_some h with ⟨p22, hq19, rfl⟩ | ⟨r18, hq19, h⟩
 ·have e23 := hl10.trans hl15
  exact cpa (c_parser_takes hq19 hst) (fun _ _ hp => ⟨rfl, _, rfl, hp.p e23 1 []⟩)
 refine cal (c_parser_takes hq19 hst) ?_
 rintro _ _ ⟨m20, rfl, hl21, hst⟩
 refine s0 1 [(21, vb r18.2)] (nl (tn (cn h (fun h => ?_) (fun h => ?_))))
 ·refine qr (s0 1 [(24, vp ob0 0)] ?_)
  rcases xbind_some h with ⟨p28, hq25, rfl⟩ | ⟨r24, hq25, h⟩
  ·have e29 := hl10.trans (hl15.trans hl21)
   exact cpa (c_parser_int hq25 hst) (fun _ _ hp => ⟨rfl, _, rfl, hp.p e29 1 []⟩)
  refine cal (c_parser_int hq25 hst) ?_
  rintro _ _ ⟨m26, rfl, hl27, hst⟩
  refine s0 2 [(26, vi (w64 (0 - r24.2))), (27, va [vi 2, vstr w_0, vi (w64 (0 - r24.2))])] (so1 0 [vi 2, vstr w_0, vi (w64 (0 - r24.2))] [vi 2, vstr w_0, vi (w64 (0 - r24.2))] hst (fun _ hst => ?_))
  refine nl (tn (wp_ret (br (tr (wrr [va [vi 2, vstr w_0, vi (w64 (0 - r24.2))]] [(ad b1 0, vi 2), (ad b1 1, vstr w_0), (ad b1 2, vi (w64 (0 - r24.2)))] ⟨hst.c 1, hst.c 1, hst.c 1, trivial⟩ ?_)))))
  have hst := pk3 hst
  have e30 := hl10.trans (hl15.trans (hl21.trans hl27))
  cases h
  exact ⟨_, rfl, m26, rfl, e30, hst⟩
 refine wp_skip (bn (tn (qr (s0 1 [(28, vp ob0 0)] ?_))))
 rcases xbind_some h with ⟨p35, hq32, rfl⟩ | ⟨r31, hq32, h⟩
 ·have e36 := hl10.trans (hl15.trans hl21)
  exact cpa (c_parser_int hq32 hst) (fun _ _ hp => ⟨rfl, _, rfl, hp.p e36 1 []⟩)
 refine cal (c_parser_int hq32 hst) ?_
 rintro _ _ ⟨m33, rfl, hl34, hst⟩
 refine s0 1 [(30, va [vi 2, vstr w_0, vi r31.2])] (so1 0 [vi 2, vstr w_0, vi r31.2] [vi 2, vstr w_0, vi r31.2] hst (fun _ hst => ?_))
 refine nl (tn (wp_ret (wrr [va [vi 2, vstr w_0, vi r31.2]] [(ad b1 0, vi 2), (ad b1 1, vstr w_0), (ad b1 2, vi r31.2)] ⟨hst.c 1, hst.c 1, hst.c 1, trivial⟩ ?_)))
 have hst := pk3 hst
 have e37 := hl10.trans (hl15.trans (hl21.trans hl34))
 cases h
 exact ⟨_, rfl, m33, rfl, e37, hst⟩

def R_parser_test (g : World) (m : Mem) (F : List Asr) (ob0 : Nat) (r : SParser × GPred) (v : Value) (w' : World) : Prop := ∃ (m' : Mem) (v0 : Value), v = va (cGPred r.2 v0) ∧ m.le m' ∧ St g m' (oo ob0 155 (cSParser r.1) :: F) w' ∧ RS (TGPred) m' v0 r.2.Args
theorem c_parser_test {k : Nat} {a0 : SParser} {r : Except Pan (SParser × GPred)} {g : World} {m : Mem} {F : List Asr} {w : World} {ob0 : Nat} (h : parser_test k a0 = some r) (hst : St g m (oo ob0 155 (cSParser a0) :: F) w) :
    Calls Tryz.prog 178 ⟨[vp ob0 0]⟩ w (XPost (R_parser_test g m F ob0) g m F r) := by
 refine calls_enter Tryz.func178 rfl rfl ?_
 unfold parser_test at h
 refine qr (al [vi 0, vstr w_0, vstr w_0, vi 0, vstr w_0, vi 0, vn] hst (fun b1 _ hst => ?_))
 have hrc3 := RC.nil (TGPred) m
 have hst := hst.nil_row 44 7
 refine nl (tn (qr (al [vi 0, vstr w_0, vstr w_0, vi 0, vstr w_0, vi 0, vn] hst (fun b4 _ hst => ?_))))
 have hrc6 := RC.nil (TGPred) m
 have hst := hst.nil_row 44 7
 refine nl (tn (qr (s0 1 [(6, vp ob0 0)] ?_)))
 have hst := pk8 hst
 rcases xbind_some h with ⟨p11, hq8, rfl⟩ | ⟨r7, hq8, h⟩
 ·exact cpa (c_parser_path hq8 hst) (fun _ _ hp => ⟨rfl, _, rfl, hp.p (Mem.le.refl _) 4 []⟩)
 refine cal (c_parser_path hq8 hst) ?_
 rintro _ _ ⟨m9, rfl, hl10, hst⟩
 refine s0 4 [(5, vt [vstr r7.2.1, vstr r7.2.2]), (8, vstr r7.2.1), (9, vstr r7.2.2), (10, vp b4 1)] (so2 1 [vstr r7.2.1] [vi 0, vstr r7.2.1, vstr w_0, vi 0, vstr w_0, vi 0, vn] hst (fun _ hst => ?_))
 refine s0 1 [(11, vp b4 2)] (so2 2 [vstr r7.2.2] [vi 0, vstr r7.2.1, vstr r7.2.2, vi 0, vstr w_0, vi 0, vn] hst (fun _ hst => ?_))
 refine nl (tn (qr (sg 6 [(12, vp ob0 0), (13, vp ob0 0), (14, vp ob0 2), (15, vp ob0 4), (16, vstr r7.1.t_.s_), (4, vstr r7.1.t_.s_)] [(ad ob0 4, vstr r7.1.t_.s_)] ⟨hst.c 0, trivial⟩ (nl (tn (wc_join (fun a w => ∃ (f0 : Fr) (k106 : Nat) (m108 : Mem) (x98 : Str) (x99 : Int) (x100 : Int) (x101 : Int) (x102 : Str) (x103 : Int) (x104 : Int), a = act Tryz.f178.ntmps (upds f0 [(0, vp ob0 0), (2, vp b1 0), (3, vp b4 0), (4, vstr r7.1.t_.s_)]) ∧ k106 ≤ k ∧ parser_test_j3 k106 r7 x98 x99 x100 x101 x102 x103 x104 = some r ∧ m9.le m108 ∧ St g m108 (oo ob0 155 [vstr x98, vi x99, vi x100, vi x101, vstr x102, vi x103] :: rn 44 7 :: oo b4 44 [vi x104, vstr r7.2.1, vstr r7.2.2, vi 0, vstr w_0, vi 0, vn] :: rn 44 7 :: oo b1 44 [vi 0, vstr w_0, vstr w_0, vi 0, vstr w_0, vi 0, vn] :: F) w) ?_ ?_))))))
 ·rintro _ _ ⟨f0, k106, m108, x98, x99, x100, x101, x102, x103, x104, rfl, hk107, h, hl105, hst⟩
  unfold parser_test_j3 at h
  refine qr (s0 1 [(43, vp ob0 0)] ?_)
  rcases xbind_some h with ⟨p113, hq110, rfl⟩ | ⟨r109, hq110, h⟩
  ·have e114 := hl10.trans hl105
   exact cpa (c_parser_value hq110 hst) (fun _ _ hp => ⟨rfl, _, rfl, hp.p e114 4 []⟩)
  refine cal (c_parser_value hq110 hst) ?_
  rintro _ _ ⟨m111, rfl, hl112, hst⟩
  refine s0 1 [(45, vp b4 3)] (so2 3 (cGValue r109.2) [vi x104, vstr r7.2.1, vstr r7.2.2, vi r109.2.Kind, vstr r109.2.Text, vi r109.2.Int, vn] hst (fun _ hst => ?_))
  refine nl (tn (sq (qr (s0 1 [(46, vstr r7.1.t_.s_)] (vl (re r7.1.t_.s_ wx213d) (s0 1 [(48, vb (r7.1.t_.s_ == wx213d))] ?_))))))
  rcases sp h with ⟨hc115, h⟩ | ⟨hc115, h⟩
  ·rw [hc115]
   refine s0 3 [(49, undef), (50, undef), (51, vb true)] (nl (tn (ct (qr (sg 1 [(52, va [vi x104, vstr r7.2.1, vstr r7.2.2, vi r109.2.Kind, vstr r109.2.Text, vi r109.2.Int, vn])] [(ad b4 0, vi x104), (ad b4 1, vstr r7.2.1), (ad b4 2, vstr r7.2.2), (ad b4 3, vi r109.2.Kind), (ad b4 4, vstr r109.2.Text), (ad b4 5, vi r109.2.Int), (ad b4 6, vn)] ⟨hst.c 2, hst.c 2, hst.c 2, hst.c 2, hst.c 2, hst.c 2, hst.c 2, trivial⟩ ?_)))))
   have hst := pk1 hst
   have e120 := hl10.trans (hl105.trans hl112)
   obtain ⟨m117, hl118, hst, hs119⟩ := hst.seal_row (T := TGPred) (xs := ([] : List GPred)) rfl (RC.mono e120 hrc6)
   refine li 44 1 [vi x104, vstr r7.2.1, vstr r7.2.2, vi r109.2.Kind, vstr r109.2.Text, vi r109.2.Int, vn] hst (fun b116 _ hst => ?_)
   have hrc122 : RC (TGPred) m117 [(GPred.mk x104 r7.2.1 r7.2.2 r109.2 ([] : List GPred))] [vi x104, vstr r7.2.1, vstr r7.2.2, vi r109.2.Kind, vstr r109.2.Text, vi r109.2.Int, vn] := (RC.k7 (TGPred.close_ (GPred.mk x104 r7.2.1 r7.2.2 r109.2 ([] : List GPred)) hs119) (RC.nil _ _))
   have hst := hst.obj_row (size := 7) (k := 1) rfl (Nat.le_of_ble_eq_true rfl)
   refine s0 1 [(54, va [vi 3, vstr w_0, vstr w_0, vi 0, vstr w_0, vi 0, .slice (some ⟨b116, 0, none⟩) 1 1])] (so4 0 [vi 3, vstr w_0, vstr w_0, vi 0, vstr w_0, vi 0, .slice (some ⟨b116, 0, none⟩) 1 1] [vi 3, vstr w_0, vstr w_0, vi 0, vstr w_0, vi 0, .slice (some ⟨b116, 0, none⟩) 1 1] hst (fun _ hst => ?_))
   refine nl (tn (wp_ret (tr ?_)))
   obtain ⟨m123, hl124, hst, hs125⟩ := hst.seal_row (T := TGPred) (xs := [(GPred.mk x104 r7.2.1 r7.2.2 r109.2 ([] : List GPred))]) rfl hrc122
   refine wrr [va [vi 3, vstr w_0, vstr w_0, vi 0, vstr w_0, vi 0, .slice (some ⟨b116, 0, none⟩) 1 1]] [(ad b1 0, vi 3), (ad b1 1, vstr w_0), (ad b1 2, vstr w_0), (ad b1 3, vi 0), (ad b1 4, vstr w_0), (ad b1 5, vi 0), (ad b1 6, .slice (some ⟨b116, 0, none⟩) 1 1)] ⟨hst.c 3, hst.c 3, hst.c 3, hst.c 3, hst.c 3, hst.c 3, hst.c 3, trivial⟩ ?_
   have hst := pk9 hst
   have e126 := e120.trans (hl118.trans hl124)
   cases h
   exact ⟨_, rfl, m123, (.slice (some ⟨b116, 0, none⟩) 1 1), rfl, e126, hst, hs125⟩
  rw [hc115]
  refine s0 1 [(49, vstr r7.1.t_.s_)] (vl (re r7.1.t_.s_ wx3e3d) (s0 1 [(51, vb (r7.1.t_.s_ == wx3e3d))] (nl (tn (cn h (fun h => ?_) (fun h => ?_))))))
  ·refine qr (sg 1 [(52, va [vi x104, vstr r7.2.1, vstr r7.2.2, vi r109.2.Kind, vstr r109.2.Text, vi r109.2.Int, vn])] [(ad b4 0, vi x104), (ad b4 1, vstr r7.2.1), (ad b4 2, vstr r7.2.2), (ad b4 3, vi r109.2.Kind), (ad b4 4, vstr r109.2.Text), (ad b4 5, vi r109.2.Int), (ad b4 6, vn)] ⟨hst.c 2, hst.c 2, hst.c 2, hst.c 2, hst.c 2, hst.c 2, hst.c 2, trivial⟩ ?_)
   have hst := pk1 hst
   have e131 := hl10.trans (hl105.trans hl112)
   obtain ⟨m128, hl129, hst, hs130⟩ := hst.seal_row (T := TGPred) (xs := ([] : List GPred)) rfl (RC.mono e131 hrc6)
   refine li 44 1 [vi x104, vstr r7.2.1, vstr r7.2.2, vi r109.2.Kind, vstr r109.2.Text, vi r109.2.Int, vn] hst (fun b127 _ hst => ?_)
   have hrc133 : RC (TGPred) m128 [(GPred.mk x104 r7.2.1 r7.2.2 r109.2 ([] : List GPred))] [vi x104, vstr r7.2.1, vstr r7.2.2, vi r109.2.Kind, vstr r109.2.Text, vi r109.2.Int, vn] := (RC.k7 (TGPred.close_ (GPred.mk x104 r7.2.1 r7.2.2 r109.2 ([] : List GPred)) hs130) (RC.nil _ _))
   have hst := hst.obj_row (size := 7) (k := 1) rfl (Nat.le_of_ble_eq_true rfl)
   refine s0 1 [(54, va [vi 3, vstr w_0, vstr w_0, vi 0, vstr w_0, vi 0, .slice (some ⟨b127, 0, none⟩) 1 1])] (so4 0 [vi 3, vstr w_0, vstr w_0, vi 0, vstr w_0, vi 0, .slice (some ⟨b127, 0, none⟩) 1 1] [vi 3, vstr w_0, vstr w_0, vi 0, vstr w_0, vi 0, .slice (some ⟨b127, 0, none⟩) 1 1] hst (fun _ hst => ?_))
   refine nl (tn (wp_ret (tr ?_)))
   obtain ⟨m134, hl135, hst, hs136⟩ := hst.seal_row (T := TGPred) (xs := [(GPred.mk x104 r7.2.1 r7.2.2 r109.2 ([] : List GPred))]) rfl hrc133
   refine wrr [va [vi 3, vstr w_0, vstr w_0, vi 0, vstr w_0, vi 0, .slice (some ⟨b127, 0, none⟩) 1 1]] [(ad b1 0, vi 3), (ad b1 1, vstr w_0), (ad b1 2, vstr w_0), (ad b1 3, vi 0), (ad b1 4, vstr w_0), (ad b1 5, vi 0), (ad b1 6, .slice (some ⟨b127, 0, none⟩) 1 1)] ⟨hst.c 3, hst.c 3, hst.c 3, hst.c 3, hst.c 3, hst.c 3, hst.c 3, trivial⟩ ?_
   have hst := pk9 hst
   have e137 := e131.trans (hl129.trans hl135)
   cases h
   exact ⟨_, rfl, m134, (.slice (some ⟨b127, 0, none⟩) 1 1), rfl, e137, hst, hs136⟩
  refine wp_skip (tn (qr (sg 1 [(55, va [vi x104, vstr r7.2.1, vstr r7.2.2, vi r109.2.Kind, vstr r109.2.Text, vi r109.2.Int, vn])] [(ad b4 0, vi x104), (ad b4 1, vstr r7.2.1), (ad b4 2, vstr r7.2.2), (ad b4 3, vi r109.2.Kind), (ad b4 4, vstr r109.2.Text), (ad b4 5, vi r109.2.Int), (ad b4 6, vn)] ⟨hst.c 2, hst.c 2, hst.c 2, hst.c 2, hst.c 2, hst.c 2, hst.c 2, trivial⟩ (so4 0 [vi x104, vstr r7.2.1, vstr r7.2.2, vi r109.2.Kind, vstr r109.2.Text, vi r109.2.Int, vn] [vi x104, vstr r7.2.1, vstr r7.2.2, vi r109.2.Kind, vstr r109.2.Text, vi r109.2.Int, vn] hst (fun _ hst => ?_)))))
  refine nl (tn (wp_ret ?_))
  have hst := pk1 hst
  have e141 := hl10.trans (hl105.trans hl112)
  obtain ⟨m138, hl139, hst, hs140⟩ := hst.seal_row (T := TGPred) (xs := ([] : List GPred)) rfl (RC.mono e141 hrc6)
  refine wrr [va [vi x104, vstr r7.2.1, vstr r7.2.2, vi r109.2.Kind, vstr r109.2.Text, vi r109.2.Int, vn]] [(ad b1 0, vi x104), (ad b1 1, vstr r7.2.1), (ad b1 2, vstr r7.2.2), (ad b1 3, vi r109.2.Kind), (ad b1 4, vstr r109.2.Text), (ad b1 5, vi r109.2.Int), (ad b1 6, vn)] ⟨hst.c 3, hst.c 3, hst.c 3, hst.c 3, hst.c 3, hst.c 3, hst.c 3, trivial⟩ ?_
  have hst := pk9 hst
  have e142 := e141.trans hl139
  cases h
  exact ⟨_, rfl, m138, (vn), rfl, e142, hst, hs140⟩
 refine bk (wc_join (fun a w => ∃ (f0 : Fr) (k162 : Nat) (m164 : Mem) (x154 : Str) (x155 : Int) (x156 : Int) (x157 : Int) (x158 : Str) (x159 : Int) (x160 : Bool), a = act Tryz.f178.ntmps (upds f0 [(0, vp ob0 0), (2, vp b1 0), (3, vp b4 0), (4, vstr r7.1.t_.s_), (19, vb x160)]) ∧ k162 ≤ k ∧ parser_test_j4 k162 r7 x154 x155 x156 x157 x158 x159 x160 = some r ∧ m9.le m164 ∧ St g m164 (oo ob0 155 [vstr x154, vi x155, vi x156, vi x157, vstr x158, vi x159] :: rn 44 7 :: oo b4 44 [vi 0, vstr r7.2.1, vstr r7.2.2, vi 0, vstr w_0, vi 0, vn] :: rn 44 7 :: oo b1 44 [vi 0, vstr w_0, vstr w_0, vi 0, vstr w_0, vi 0, vn] :: F) w) ?_ ?_)
 ·rintro _ _ ⟨f0, k162, m164, x154, x155, x156, x157, x158, x159, x160, rfl, hk163, h, hl161, hst⟩
  unfold parser_test_j4 at h
  refine cn h (fun h => ?_) (fun h => ?_)
  ·refine rg (s0 1 [(24, vp b4 0)] (so2 0 [vi 5] [vi 5, vstr r7.2.1, vstr r7.2.2, vi 0, vstr w_0, vi 0, vn] hst (fun _ hst => ?_)))
   refine nl (bn (tn ?_))
   exact ⟨_, k162, m164, (x154), (x155), (x156), (x157), (x158), (x159), (5), (act_upds ⟨by kernel_rfl, by kernel_rfl, by kernel_rfl, by kernel_rfl, trivial⟩), (by omega), h, hl161, hst⟩
  refine wc_join (fun a w => ∃ (f0 : Fr) (k185 : Nat) (m187 : Mem) (x177 : Str) (x178 : Int) (x179 : Int) (x180 : Int) (x181 : Str) (x182 : Int) (x183 : Bool), a = act Tryz.f178.ntmps (upds f0 [(0, vp ob0 0), (2, vp b1 0), (3, vp b4 0), (4, vstr r7.1.t_.s_), (25, vb x183)]) ∧ k185 ≤ k162 ∧ parser_test_j5 k185 r7 x177 x178 x179 x180 x181 x182 x183 = some r ∧ m164.le m187 ∧ St g m187 (oo ob0 155 [vstr x177, vi x178, vi x179, vi x180, vstr x181, vi x182] :: rn 44 7 :: oo b4 44 [vi 0, vstr r7.2.1, vstr r7.2.2, vi 0, vstr w_0, vi 0, vn] :: rn 44 7 :: oo b1 44 [vi 0, vstr w_0, vstr w_0, vi 0, vstr w_0, vi 0, vn] :: F) w) ?_ ?_
  ·rintro _ _ ⟨f0, k185, m187, x177, x178, x179, x180, x181, x182, x183, rfl, hk186, h, hl184, hst⟩
   unfold parser_test_j5 at h
   refine cn h (fun h => ?_) (fun h => ?_)
   ·refine rg (s0 1 [(30, vp b4 0)] (so2 0 [vi 6] [vi 6, vstr r7.2.1, vstr r7.2.2, vi 0, vstr w_0, vi 0, vn] hst (fun _ hst => ?_)))
    refine nl (bn (tn ?_))
    have e188 := hl161.trans hl184
    exact ⟨_, k185, m187, (x177), (x178), (x179), (x180), (x181), (x182), (6), (act_upds ⟨by kernel_rfl, by kernel_rfl, by kernel_rfl, by kernel_rfl, trivial⟩), (by omega), h, e188, hst⟩
   refine qr (s0 1 [(32, vp ob0 0)] ?_)
   rcases xbind_some h with ⟨p193, hq190, rfl⟩ | ⟨r189, hq190, h⟩
   ·have e194 := hl10.trans (hl161.trans hl184)
    exact cpa (c_parser_takes hq190 hst) (fun _ _ hp => ⟨rfl, _, rfl, hp.p e194 4 []⟩)
   refine cal (c_parser_takes hq190 hst) ?_
   rintro _ _ ⟨m191, rfl, hl192, hst⟩
   refine s0 1 [(31, vb r189.2)] (nl (tn (cn h (fun h => ?_) (fun h => ?_))))
   ·refine qr (s0 1 [(34, vp b4 0)] (so2 0 [vi 7] [vi 7, vstr r7.2.1, vstr r7.2.2, vi 0, vstr w_0, vi 0, vn] hst (fun _ hst => ?_)))
    refine nl (tn (qr (sg 6 [(35, vp ob0 0), (36, vp ob0 0), (37, vp ob0 2), (38, vp ob0 2), (39, vi r189.1.t_.kind), (40, vb (r189.1.t_.kind != 3))] [(ad ob0 2, vi r189.1.t_.kind)] ⟨hst.c 0, trivial⟩ (nl (tn (cn h (fun h => ?_) (fun h => ?_)))))))
    ·refine rg (s0 1 [(41, vp ob0 0)] ?_)
     rcases xbind_some h with ⟨p199, hq196, rfl⟩ | ⟨r195, hq196, h⟩
     ·have e200 := hl10.trans (hl161.trans (hl184.trans hl192))
      exact cpa (c_parser_wrong hq196 hst) (fun _ _ hp => ⟨rfl, _, rfl, hp.p e200 5 []⟩)
     cases h
    refine wp_skip (bn (tn ?_))
    have e201 := hl161.trans (hl184.trans hl192)
    exact ⟨_, k185, m191, (r189.1.x_.s_), (r189.1.x_.at_), (r189.1.t_.kind), (r189.1.t_.at_), (r189.1.t_.s_), (r189.1.t_.n_), (7), (act_upds ⟨by kernel_rfl, by kernel_rfl, by kernel_rfl, by kernel_rfl, trivial⟩), (by omega), h, e201, hst⟩
   refine rg (s0 1 [(17, vp ob0 0)] ?_)
   rcases xbind_some h with ⟨p206, hq203, rfl⟩ | ⟨r202, hq203, h⟩
   ·have e207 := hl10.trans (hl161.trans (hl184.trans hl192))
    exact cpa (c_parser_wrong hq203 hst) (fun _ _ hp => ⟨rfl, _, rfl, hp.p e207 5 []⟩)
   cases h
  refine qr (s0 1 [(26, vp ob0 0)] ?_)
  rcases xbind_some h with ⟨p212, hq209, rfl⟩ | ⟨r208, hq209, h⟩
  ·have e213 := hl10.trans hl161
   exact cpa (c_parser_takes hq209 hst) (fun _ _ hp => ⟨rfl, _, rfl, hp.p e213 4 []⟩)
  refine cal (c_parser_takes hq209 hst) ?_
  rintro _ _ ⟨m210, rfl, hl211, hst⟩
  refine s0 1 [(25, vb r208.2)] (nl (tn (cn h (fun h => ?_) (fun h => ?_))))
  ·refine wp_skip (tn ?_)
   exact ⟨_, k162, m210, (r208.1.x_.s_), (r208.1.x_.at_), (r208.1.t_.kind), (r208.1.t_.at_), (r208.1.t_.s_), (r208.1.t_.n_), (r208.2), (act_upds ⟨by kernel_rfl, by kernel_rfl, by kernel_rfl, by kernel_rfl, by kernel_rfl, trivial⟩), (by omega), h, hl211, hst⟩
  refine rg (s0 1 [(28, vp ob0 0)] ?_)
  rcases xbind_some h with ⟨p218, hq215, rfl⟩ | ⟨r214, hq215, h⟩
  ·have e219 := hl10.trans (hl161.trans hl211)
   exact cpa (c_parser_takes hq215 hst) (fun _ _ hp => ⟨rfl, _, rfl, hp.p e219 4 []⟩)
  refine cal (c_parser_takes hq215 hst) ?_
  rintro _ _ ⟨m216, rfl, hl217, hst⟩
  refine s0 1 [(25, vb r214.2)] (nl (tn ?_))
  have e220 := hl211.trans hl217
  exact ⟨_, k162, m216, (r214.1.x_.s_), (r214.1.x_.at_), (r214.1.t_.kind), (r214.1.t_.at_), (r214.1.t_.s_), (r214.1.t_.n_), (r214.2), (act_upds ⟨by kernel_rfl, by kernel_rfl, by kernel_rfl, by kernel_rfl, by kernel_rfl, trivial⟩), (by omega), h, e220, hst⟩
 refine qr (s0 1 [(20, vp ob0 0)] ?_)
 rcases xbind_some h with ⟨p225, hq222, rfl⟩ | ⟨r221, hq222, h⟩
 ·exact cpa (c_parser_takes hq222 hst) (fun _ _ hp => ⟨rfl, _, rfl, hp.p hl10 4 []⟩)
 refine cal (c_parser_takes hq222 hst) ?_
 rintro _ _ ⟨m223, rfl, hl224, hst⟩
 refine s0 1 [(19, vb r221.2)] (nl (tn (cn h (fun h => ?_) (fun h => ?_))))
 ·refine wp_skip (tn ?_)
  exact ⟨_, k, m223, (r221.1.x_.s_), (r221.1.x_.at_), (r221.1.t_.kind), (r221.1.t_.at_), (r221.1.t_.s_), (r221.1.t_.n_), (r221.2), (act_upds ⟨by kernel_rfl, by kernel_rfl, by kernel_rfl, by kernel_rfl, by kernel_rfl, trivial⟩), (by omega), h, hl224, hst⟩
 refine rg (s0 1 [(22, vp ob0 0)] ?_)
 rcases xbind_some h with ⟨p230, hq227, rfl⟩ | ⟨r226, hq227, h⟩
 ·have e231 := hl10.trans hl224
  exact cpa (c_parser_takes hq227 hst) (fun _ _ hp => ⟨rfl, _, rfl, hp.p e231 4 []⟩)
 refine cal (c_parser_takes hq227 hst) ?_
 rintro _ _ ⟨m228, rfl, hl229, hst⟩
 refine s0 1 [(19, vb r226.2)] (nl (tn ?_))
 have e232 := hl224.trans hl229
 exact ⟨_, k, m228, (r226.1.x_.s_), (r226.1.x_.at_), (r226.1.t_.kind), (r226.1.t_.at_), (r226.1.t_.s_), (r226.1.t_.n_), (r226.2), (act_upds ⟨by kernel_rfl, by kernel_rfl, by kernel_rfl, by kernel_rfl, by kernel_rfl, trivial⟩), (by omega), h, e232, hst⟩

def R_parser_predicate (g : World) (m : Mem) (F : List Asr) (ob0 : Nat) (r : SParser × GPred) (v : Value) (w' : World) : Prop := ∃ (m' : Mem) (v0 : Value), v = va (cGPred r.2 v0) ∧ m.le m' ∧ St g m' (oo ob0 155 (cSParser r.1) :: F) w' ∧ RS (TGPred) m' v0 r.2.Args
def R_parser_joined (g : World) (m : Mem) (F : List Asr) (ob0 : Nat) (r : SParser × GPred) (v : Value) (w' : World) : Prop := ∃ (m' : Mem) (v0 : Value), v = va (cGPred r.2 v0) ∧ m.le m' ∧ St g m' (oo ob0 155 (cSParser r.1) :: F) w' ∧ RS (TGPred) m' v0 r.2.Args
def R_parser_conjunct (g : World) (m : Mem) (F : List Asr) (ob0 : Nat) (r : SParser × GPred) (v : Value) (w' : World) : Prop := ∃ (m' : Mem) (v0 : Value), v = va (cGPred r.2 v0) ∧ m.le m' ∧ St g m' (oo ob0 155 (cSParser r.1) :: F) w' ∧ RS (TGPred) m' v0 r.2.Args
def R_parser_joined_i1 (g : World) (m : Mem) (F : List Asr) (ob0 : Nat) (r : SParser × GPred) (v : Value) (w' : World) : Prop := ∃ (m' : Mem) (v0 : Value), v = va (cGPred r.2 v0) ∧ m.le m' ∧ St g m' (oo ob0 155 (cSParser r.1) :: F) w' ∧ RS (TGPred) m' v0 r.2.Args
def R_parser_factor (g : World) (m : Mem) (F : List Asr) (ob0 : Nat) (r : SParser × GPred) (v : Value) (w' : World) : Prop := ∃ (m' : Mem) (v0 : Value), v = va (cGPred r.2 v0) ∧ m.le m' ∧ St g m' (oo ob0 155 (cSParser r.1) :: F) w' ∧ RS (TGPred) m' v0 r.2.Args
structure I_parser_predicate (k : Nat) : Prop where
  c_parser_predicate : ∀ {a0 : SParser} {r : Except Pan (SParser × GPred)} {g : World} {m : Mem} {F : List Asr} {w : World} {ob0 : Nat} (h : parser_predicate k a0 = some r) (hst : St g m (oo ob0 155 (cSParser a0) :: F) w),
    Calls Tryz.prog 51 ⟨[vp ob0 0]⟩ w (XPost (R_parser_predicate g m F ob0) g m F r)
  c_parser_joined : ∀ {a0 : SParser} {a1 : Int} {a2 : Str} {r : Except Pan (SParser × GPred)} {g : World} {m : Mem} {F : List Asr} {w : World} {ob0 : Nat} (h : parser_joined k a0 a1 a2 = some r) (hst : St g m (oo ob0 155 (cSParser a0) :: F) w),
    Calls Tryz.prog 117 ⟨[vp ob0 0, vi a1, vstr a2, vf 118 [vp ob0 0] []]⟩ w (XPost (R_parser_joined g m F ob0) g m F r)
  c_parser_conjunct : ∀ {a0 : SParser} {r : Except Pan (SParser × GPred)} {g : World} {m : Mem} {F : List Asr} {w : World} {ob0 : Nat} (h : parser_conjunct k a0 = some r) (hst : St g m (oo ob0 155 (cSParser a0) :: F) w),
    Calls Tryz.prog 118 ⟨[vp ob0 0]⟩ w (XPost (R_parser_conjunct g m F ob0) g m F r)
  c_parser_joined_i1 : ∀ {a0 : SParser} {a1 : Int} {a2 : Str} {r : Except Pan (SParser × GPred)} {g : World} {m : Mem} {F : List Asr} {w : World} {ob0 : Nat} (h : parser_joined_i1 k a0 a1 a2 = some r) (hst : St g m (oo ob0 155 (cSParser a0) :: F) w),
    Calls Tryz.prog 117 ⟨[vp ob0 0, vi a1, vstr a2, vf 163 [vp ob0 0] []]⟩ w (XPost (R_parser_joined_i1 g m F ob0) g m F r)
  c_parser_factor : ∀ {a0 : SParser} {r : Except Pan (SParser × GPred)} {g : World} {m : Mem} {F : List Asr} {w : World} {ob0 : Nat} (h : parser_factor k a0 = some r) (hst : St g m (oo ob0 155 (cSParser a0) :: F) w),
    Calls Tryz.prog 163 ⟨[vp ob0 0]⟩ w (XPost (R_parser_factor g m F ob0) g m F r)
theorem s_parser_predicate {k : Nat} (ih : ∀ j, j < k → I_parser_predicate j) {a0 : SParser} {r : Except Pan (SParser × GPred)} {g : World} {m : Mem} {F : List Asr} {w : World} {ob0 : Nat} (h : parser_predicate k a0 = some r) (hst : St g m (oo ob0 155 (cSParser a0) :: F) w) :
    Calls Tryz.prog 51 ⟨[vp ob0 0]⟩ w (XPost (R_parser_predicate g m F ob0) g m F r) := by
 refine calls_enter Tryz.func51 rfl rfl ?_
 obtain _ | k1 := k
 ·simp [parser_predicate] at h
 rw [parser_predicate] at h
 refine qr (al [vi 0, vstr w_0, vstr w_0, vi 0, vstr w_0, vi 0, vn] hst (fun b1 _ hst => ?_))
 have hrc3 := RC.nil (TGPred) m
 have hst := hst.nil_row 44 7
 refine nl (tn (qr (s0 3 [(3, vp ob0 0), (4, vp ob0 0), (5, vf 118 [vp ob0 0] [])] ?_)))
 have hst := pk5 hst
 rcases xbind_some h with ⟨p8, hq5, rfl⟩ | ⟨r4, hq5, h⟩
 ·exact cpa ((ih k1 (by omega)).c_parser_joined hq5 hst) (fun _ _ hp => ⟨rfl, _, rfl, hp.p (Mem.le.refl _) 2 []⟩)
 refine cal ((ih k1 (by omega)).c_parser_joined hq5 hst) ?_
 rintro _ _ ⟨m6, v9, rfl, hl7, hst, hv9⟩
 obtain ⟨A10, c11, rfl⟩ := hv9.shape
 refine so2 0 (cGPred r4.2 (vs A10 r4.2.Args c11)) (cGPred r4.2 (vs A10 r4.2.Args c11)) hst (fun _ hst => ?_)
 refine nl (tn (wp_ret (wrr [va (cGPred r4.2 (vs A10 r4.2.Args c11))] [(ad b1 0, vi r4.2.Op), (ad b1 1, vstr r4.2.Field), (ad b1 2, vstr r4.2.Key), (ad b1 3, vi r4.2.Value.Kind), (ad b1 4, vstr r4.2.Value.Text), (ad b1 5, vi r4.2.Value.Int), (ad b1 6, vs A10 r4.2.Args c11)] ⟨hst.c 2, hst.c 2, hst.c 2, hst.c 2, hst.c 2, hst.c 2, hst.c 2, trivial⟩ ?_)))
 have hst := pk6 hst
 cases h
 exact ⟨_, rfl, m6, (vs A10 r4.2.Args c11), rfl, hl7, hst, hv9⟩
theorem s_parser_joined {k : Nat} (ih : ∀ j, j < k → I_parser_predicate j) {a0 : SParser} {a1 : Int} {a2 : Str} {r : Except Pan (SParser × GPred)} {g : World} {m : Mem} {F : List Asr} {w : World} {ob0 : Nat} (h : parser_joined k a0 a1 a2 = some r) (hst : St g m (oo ob0 155 (cSParser a0) :: F) w) :
    Calls Tryz.prog 117 ⟨[vp ob0 0, vi a1, vstr a2, vf 118 [vp ob0 0] []]⟩ w (XPost (R_parser_joined g m F ob0) g m F r) := by
 refine calls_enter Tryz.func117 rfl rfl ?_
 obtain _ | k1 := k
 ·simp [parser_joined] at h
 rw [parser_joined] at h
 refine qr (al [vi 0, vstr w_0, vstr w_0, vi 0, vstr w_0, vi 0, vn] hst (fun b1 _ hst => ?_))
 have hrc3 := RC.nil (TGPred) m
 have hst := hst.nil_row 44 7
 refine nl (tn (qr (s0 2 [(10, vi a1), (11, vf 118 [vp ob0 0] [])] ?_)))
 have hst := pk5 hst
 rcases xbind_some h with ⟨p8, hq5, rfl⟩ | ⟨r4, hq5, h⟩
 ·exact cpa ((ih k1 (by omega)).c_parser_conjunct hq5 hst) (fun _ _ hp => ⟨rfl, _, rfl, hp.p (Mem.le.refl _) 2 []⟩)
 refine cal ((ih k1 (by omega)).c_parser_conjunct hq5 hst) ?_
 rintro _ _ ⟨m6, v9, rfl, hl7, hst, hv9⟩
 obtain ⟨A10, c11, rfl⟩ := hv9.shape
 refine li 44 1 [vi r4.2.Op, vstr r4.2.Field, vstr r4.2.Key, vi r4.2.Value.Kind, vstr r4.2.Value.Text, vi r4.2.Value.Int, vs A10 r4.2.Args c11] hst (fun b12 _ hst => ?_)
 have hrc14 : RC (TGPred) m6 [r4.2] [vi r4.2.Op, vstr r4.2.Field, vstr r4.2.Key, vi r4.2.Value.Kind, vstr r4.2.Value.Text, vi r4.2.Value.Int, vs A10 r4.2.Args c11] := (RC.k7 (TGPred.close_ r4.2 hv9) (RC.nil _ _))
 have hst := hst.obj_row (size := 7) (k := 1) rfl (Nat.le_of_ble_eq_true rfl)
 refine s0 1 [(14, va [vi a1, vstr w_0, vstr w_0, vi 0, vstr w_0, vi 0, .slice (some ⟨b12, 0, none⟩) 1 1])] (al [vi 0, vstr w_0, vstr w_0, vi 0, vstr w_0, vi 0, vn] hst (fun b15 _ hst => ?_))
 have hrc17 := RC.nil (TGPred) m6
 have hst := hst.nil_row 44 7
 refine so1 0 [vi a1, vstr w_0, vstr w_0, vi 0, vstr w_0, vi 0, .slice (some ⟨b12, 0, none⟩) 1 1] [vi a1, vstr w_0, vstr w_0, vi 0, vstr w_0, vi 0, .slice (some ⟨b12, 0, none⟩) 1 1] hst (fun _ hst => ?_)
 refine nl (tn ?_)
 have hst := pk0 hst
 refine sq (bk (wc_loop (fun kk a w => ∃ (f0 : Fr) (m273 : Mem) (x210 : List GPred) (A211 : Option Addr) (c212 : Nat) (cs213 : List Value) (x215 : Str) (x216 : Int) (x217 : Int) (x218 : Int) (x219 : Str) (x220 : Int), a = act Tryz.f117.ntmps (upds f0 [(0, vp ob0 0), (2, vstr a2), (3, vf 118 [vp ob0 0] []), (8, vp b1 0), (9, vp b15 0)]) ∧ kk ≤ k1 ∧ parser_joined_l1 kk a1 a2 x210 x215 x216 x217 x218 x219 x220 = some r ∧ m6.le m273 ∧ St g m273 (oo b15 44 [vi a1, vstr w_0, vstr w_0, vi 0, vstr w_0, vi 0, vs A211 x210 c212] :: rw_ 44 7 A211 x210 c212 cs213 :: oo ob0 155 [vstr x215, vi x216, vi x217, vi x218, vstr x219, vi x220] :: rn 44 7 :: oo b1 44 [vi 0, vstr w_0, vstr w_0, vi 0, vstr w_0, vi 0, vn] :: F) w ∧ RC (TGPred) m273 x210 cs213) k1 ?_ ?_))
 ·exact ⟨_, m6, ([r4.2]), (some ⟨b12, 0, none⟩), 1, [vi r4.2.Op, vstr r4.2.Field, vstr r4.2.Key, vi r4.2.Value.Kind, vstr r4.2.Value.Text, vi r4.2.Value.Int, vs A10 r4.2.Args c11], (r4.1.x_.s_), (r4.1.x_.at_), (r4.1.t_.kind), (r4.1.t_.at_), (r4.1.t_.s_), (r4.1.t_.n_), (act_upds ⟨by kernel_rfl, by kernel_rfl, by kernel_rfl, by kernel_rfl, by kernel_rfl, trivial⟩), (Nat.le_refl _), h, (Mem.le.refl _), hst, hrc14⟩
 rintro k271 ih272 _ _ ⟨f0, m273, x210, A211, c212, cs213, x215, x216, x217, x218, x219, x220, rfl, hk270, h, hl269, hst, hrc214⟩
 obtain _ | k275 := k271
 ·simp [parser_joined_l1] at h
 rw [parser_joined_l1] at h
 refine sq (qr (s0 2 [(15, vp ob0 0), (16, vstr a2)] ?_))
 have hst := pk5 hst
 rcases xbind_some h with ⟨p280, hq277, rfl⟩ | ⟨r276, hq277, h⟩
 ·have e281 := hl7.trans hl269
  exact cpa (c_parser_takes hq277 hst) (fun _ _ hp => ⟨rfl, _, rfl, hp.p e281 4 []⟩)
 refine cal (c_parser_takes hq277 hst) ?_
 rintro _ _ ⟨m278, rfl, hl279, hst⟩
 refine nl (tn (cn h (fun h => ?_) (fun h => ?_)))
 ·refine wp_skip (tn (bk (wc_draw false (fun x => Rd m278 (oo b15 44 [vi a1, vstr w_0, vstr w_0, vi 0, vstr w_0, vi 0, vs A211 x210 c212] :: []) x) (by kernel_rfl) ?_)))
  have hst := hst.drew
  refine wpG_seg [0, 2, 1] [(18, vp b15 6), (20, vf 118 [vp ob0 0] []), (19, vs A211 x210 c212)] [(ad b15 6, vs A211 x210 c212)] #[true, true, true, false, false, false, false, false] (fuel := 5) (PQ.block_ (PQ.then_ (PQ.block_ (PQ.then_ PQ.body)))) (by kernel_rfl) (by kernel_rfl) (hst.rd.with_ 1 rfl (hst.rd.none_)) (fun x hx => ⟨hx.c 0, trivial⟩) ?_
  refine wpG_exec 3 (by kernel_rfl) rfl ?_
  rcases xbind_some h with ⟨p302, hq299, rfl⟩ | ⟨r298, hq299, h⟩
  ·have e303 := hl7.trans (hl269.trans hl279)
   exact cpa ((ih k275 (by omega)).c_parser_conjunct hq299 hst) (fun _ _ hp => ⟨rfl, _, rfl, hp.p e303 4 []⟩)
  refine cal ((ih k275 (by omega)).c_parser_conjunct hq299 hst) ?_
  rintro _ _ ⟨m300, v304, rfl, hl301, hst, hv304⟩
  obtain ⟨A305, c306, rfl⟩ := hv304.shape
  refine nl (tn (⟨_, fun _ h => h, .inr (Rd.lower hl301 (hst.rd.with_ 1 rfl (hst.rd.none_))), ?_⟩))
  refine wpG_exec 4 (by kernel_rfl) rfl (li 44 1 [vi r298.2.Op, vstr r298.2.Field, vstr r298.2.Key, vi r298.2.Value.Kind, vstr r298.2.Value.Text, vi r298.2.Value.Int, vs A305 r298.2.Args c306] hst (fun b307 _ hst => ?_))
  refine nl (tn (⟨_, fun _ h => h, .inr (Rd.lower hl301 (hst.rd.with_ 2 rfl (hst.rd.none_))), ?_⟩))
  refine wpG_exec 5 (by kernel_rfl) rfl ?_
  obtain ⟨hb308, h⟩ := chk_some h
  have e313 := hl279.trans hl301
  refine ap3 (TGPred) (xs := x210) (ys := [r298.2]) 96 1 0 hst (RC.mono e313 hrc214) (RC.k7 (TGPred.close_ r298.2 hv304) (RC.nil _ _)) hb308 (fun A309 c310 cs311 _ hrc312 hst => ?_)
  have hst := pk0 hst
  refine nl (tn (⟨_, fun _ h => h, .inr (Rd.lower hl301 (hst.rd.with_ 1 rfl (hst.rd.none_))), ?_⟩))
  refine wpG_strong (S2 := fun x => Rd m300 (oo b15 44 [vi a1, vstr w_0, vstr w_0, vi 0, vstr w_0, vi 0, vs A211 x210 c212] :: []) x) (fun x hx => Rd.lower hl301 hx) ?_
  refine wpG_seg [6] [(24, vp b15 6)] [] #[true, true, true, true, true, true, true, false] (fuel := 1) (PQ.block_ (PQ.then_ (PQ.block_ (PQ.then_ PQ.body)))) (by kernel_rfl) (by kernel_rfl) (hst.rd.with_ 1 rfl (hst.rd.none_)) (fun x hx => trivial) ?_
  refine wpG_exec 7 (by kernel_rfl) rfl (so1 6 [vs A309 (x210 ++ [r298.2]) c310] [vi a1, vstr w_0, vstr w_0, vi 0, vstr w_0, vi 0, vs A309 (x210 ++ [r298.2]) c310] hst (fun _ hst => ?_))
  refine nl (tn (⟨_, fun _ h => h, .inl ⟨rfl, allListed_of _ (by kernel_rfl)⟩, ?_⟩))
  refine wpG_done (by kernel_rfl) (bn (tn ?_))
  have e314 := hl269.trans (hl279.trans hl301)
  have hst := pk10 hst
  exact ih272 k275 (by omega) _ _ ⟨_, m300, ((x210 ++ [r298.2])), A309, c310, cs311, (r298.1.x_.s_), (r298.1.x_.at_), (r298.1.t_.kind), (r298.1.t_.at_), (r298.1.t_.s_), (r298.1.t_.n_), (act_upds ⟨by kernel_rfl, by kernel_rfl, by kernel_rfl, by kernel_rfl, by kernel_rfl, trivial⟩), (by omega), h, e314, hst, hrc312⟩
 refine wp_exit (tx (tx (bx (tn (sq (qr (sg 4 [(25, vp b15 6), (26, vs A211 x210 c212), (27, vi ((x210).length : Int)), (28, vb (((x210).length : Int) == 1))] [(ad b15 6, vs A211 x210 c212)] ⟨hst.c 1, trivial⟩ (nl (tn (cn h (fun h => ?_) (fun h => ?_)))))))))))
 ·refine qr (sg 2 [(29, vp b15 6), (30, vs A211 x210 c212)] [(ad b15 6, vs A211 x210 c212)] ⟨hst.c 1, trivial⟩ ?_)
  have hst := pk5 hst
  obtain ⟨m315, hl316, hst, hs317⟩ := hst.seal_row (T := TGPred) (xs := x210) rfl (RC.mono hl279 hrc214)
  obtain ⟨x319, hx320, h⟩ := ix h
  obtain ⟨b321, o322, cs323, hR324, hA325, hI326⟩ := RS.ix (P := Tryz.prog) hs317 hx320
  obtain ⟨v327, rfl, hv327⟩ := TGPred.open_ hR324
  obtain ⟨A328, c329, rfl⟩ := hv327.shape
  refine vl (hI326.r .i64) (sg 1 [(32, va (cGPred x319 (vs A328 x319.Args c329)))] [(ad b321 o322, vi x319.Op), (ad b321 (o322 + 1), vstr x319.Field), (ad b321 (o322 + 2), vstr x319.Key), (ad b321 (o322 + 3), vi x319.Value.Kind), (ad b321 (o322 + 4), vstr x319.Value.Text), (ad b321 (o322 + 5), vi x319.Value.Int), (ad b321 (o322 + 6), vs A328 x319.Args c329)] ⟨hst.e hA325 0, hst.e hA325 1, hst.e hA325 2, hst.e hA325 3, hst.e hA325 4, hst.e hA325 5, hst.e hA325 6, trivial⟩ (so3 0 (cGPred x319 (vs A328 x319.Args c329)) (cGPred x319 (vs A328 x319.Args c329)) hst (fun _ hst => ?_)))
  refine nl (tn (wp_ret (tr (wrr [va (cGPred x319 (vs A328 x319.Args c329))] [(ad b1 0, vi x319.Op), (ad b1 1, vstr x319.Field), (ad b1 2, vstr x319.Key), (ad b1 3, vi x319.Value.Kind), (ad b1 4, vstr x319.Value.Text), (ad b1 5, vi x319.Value.Int), (ad b1 6, vs A328 x319.Args c329)] ⟨hst.c 3, hst.c 3, hst.c 3, hst.c 3, hst.c 3, hst.c 3, hst.c 3, trivial⟩ ?_))))
  have hst := pk9 hst
  have e330 := hl7.trans (hl269.trans (hl279.trans hl316))
  cases h
  exact ⟨_, rfl, m315, (vs A328 x319.Args c329), rfl, e330, hst, hv327⟩
 refine wp_skip (tn (qr (sg 1 [(33, va [vi a1, vstr w_0, vstr w_0, vi 0, vstr w_0, vi 0, vs A211 x210 c212])] [(ad b15 0, vi a1), (ad b15 1, vstr w_0), (ad b15 2, vstr w_0), (ad b15 3, vi 0), (ad b15 4, vstr w_0), (ad b15 5, vi 0), (ad b15 6, vs A211 x210 c212)] ⟨hst.c 1, hst.c 1, hst.c 1, hst.c 1, hst.c 1, hst.c 1, hst.c 1, trivial⟩ (so4 0 [vi a1, vstr w_0, vstr w_0, vi 0, vstr w_0, vi 0, vs A211 x210 c212] [vi a1, vstr w_0, vstr w_0, vi 0, vstr w_0, vi 0, vs A211 x210 c212] hst (fun _ hst => ?_)))))
 refine nl (tn (wp_ret ?_))
 have hst := pk5 hst
 obtain ⟨m331, hl332, hst, hs333⟩ := hst.seal_row (T := TGPred) (xs := x210) rfl (RC.mono hl279 hrc214)
 refine wrr [va [vi a1, vstr w_0, vstr w_0, vi 0, vstr w_0, vi 0, vs A211 x210 c212]] [(ad b1 0, vi a1), (ad b1 1, vstr w_0), (ad b1 2, vstr w_0), (ad b1 3, vi 0), (ad b1 4, vstr w_0), (ad b1 5, vi 0), (ad b1 6, vs A211 x210 c212)] ⟨hst.c 3, hst.c 3, hst.c 3, hst.c 3, hst.c 3, hst.c 3, hst.c 3, trivial⟩ ?_
 have hst := pk9 hst
 have e334 := hl7.trans (hl269.trans (hl279.trans hl332))
 cases h
 exact ⟨_, rfl, m331, (vs A211 x210 c212), rfl, e334, hst, hs333⟩
theorem s_parser_conjunct {k : Nat} (ih : ∀ j, j < k → I_parser_predicate j) {a0 : SParser} {r : Except Pan (SParser × GPred)} {g : World} {m : Mem} {F : List Asr} {w : World} {ob0 : Nat} (h : parser_conjunct k a0 = some r) (hst : St g m (oo ob0 155 (cSParser a0) :: F) w) :
    Calls Tryz.prog 118 ⟨[vp ob0 0]⟩ w (XPost (R_parser_conjunct g m F ob0) g m F r) := by
 refine calls_enter Tryz.func118 rfl rfl ?_
 obtain _ | k1 := k
 ·simp [parser_conjunct] at h
 rw [parser_conjunct] at h
 refine qr (al [vi 0, vstr w_0, vstr w_0, vi 0, vstr w_0, vi 0, vn] hst (fun b1 _ hst => ?_))
 have hrc3 := RC.nil (TGPred) m
 have hst := hst.nil_row 44 7
 refine nl (tn (qr (s0 3 [(3, vp ob0 0), (4, vp ob0 0), (5, vf 163 [vp ob0 0] [])] ?_)))
 have hst := pk5 hst
 rcases xbind_some h with ⟨p8, hq5, rfl⟩ | ⟨r4, hq5, h⟩
 ·exact cpa ((ih k1 (by omega)).c_parser_joined_i1 hq5 hst) (fun _ _ hp => ⟨rfl, _, rfl, hp.p (Mem.le.refl _) 2 []⟩)
 refine cal ((ih k1 (by omega)).c_parser_joined_i1 hq5 hst) ?_
 rintro _ _ ⟨m6, v9, rfl, hl7, hst, hv9⟩
 obtain ⟨A10, c11, rfl⟩ := hv9.shape
 refine so2 0 (cGPred r4.2 (vs A10 r4.2.Args c11)) (cGPred r4.2 (vs A10 r4.2.Args c11)) hst (fun _ hst => ?_)
 refine nl (tn (wp_ret (wrr [va (cGPred r4.2 (vs A10 r4.2.Args c11))] [(ad b1 0, vi r4.2.Op), (ad b1 1, vstr r4.2.Field), (ad b1 2, vstr r4.2.Key), (ad b1 3, vi r4.2.Value.Kind), (ad b1 4, vstr r4.2.Value.Text), (ad b1 5, vi r4.2.Value.Int), (ad b1 6, vs A10 r4.2.Args c11)] ⟨hst.c 2, hst.c 2, hst.c 2, hst.c 2, hst.c 2, hst.c 2, hst.c 2, trivial⟩ ?_)))
 have hst := pk6 hst
 cases h
 exact ⟨_, rfl, m6, (vs A10 r4.2.Args c11), rfl, hl7, hst, hv9⟩
theorem s_parser_joined_i1 {k : Nat} (ih : ∀ j, j < k → I_parser_predicate j) {a0 : SParser} {a1 : Int} {a2 : Str} {r : Except Pan (SParser × GPred)} {g : World} {m : Mem} {F : List Asr} {w : World} {ob0 : Nat} (h : parser_joined_i1 k a0 a1 a2 = some r) (hst : St g m (oo ob0 155 (cSParser a0) :: F) w) :
    Calls Tryz.prog 117 ⟨[vp ob0 0, vi a1, vstr a2, vf 163 [vp ob0 0] []]⟩ w (XPost (R_parser_joined_i1 g m F ob0) g m F r) := by
 refine calls_enter Tryz.func117 rfl rfl ?_
 obtain _ | k1 := k
 ·simp [parser_joined_i1] at h
 rw [parser_joined_i1] at h
 refine qr (al [vi 0, vstr w_0, vstr w_0, vi 0, vstr w_0, vi 0, vn] hst (fun b1 _ hst => ?_))
 have hrc3 := RC.nil (TGPred) m
 have hst := hst.nil_row 44 7
 refine nl (tn (qr (s0 2 [(10, vi a1), (11, vf 163 [vp ob0 0] [])] ?_)))
 have hst := pk5 hst
 rcases xbind_some h with ⟨p8, hq5, rfl⟩ | ⟨r4, hq5, h⟩
 ·exact cpa ((ih k1 (by omega)).c_parser_factor hq5 hst) (fun _ _ hp => ⟨rfl, _, rfl, hp.p (Mem.le.refl _) 2 []⟩)
 refine cal ((ih k1 (by omega)).c_parser_factor hq5 hst) ?_
 rintro _ _ ⟨m6, v9, rfl, hl7, hst, hv9⟩
 obtain ⟨A10, c11, rfl⟩ := hv9.shape
 refine li 44 1 [vi r4.2.Op, vstr r4.2.Field, vstr r4.2.Key, vi r4.2.Value.Kind, vstr r4.2.Value.Text, vi r4.2.Value.Int, vs A10 r4.2.Args c11] hst (fun b12 _ hst => ?_)
 have hrc14 : RC (TGPred) m6 [r4.2] [vi r4.2.Op, vstr r4.2.Field, vstr r4.2.Key, vi r4.2.Value.Kind, vstr r4.2.Value.Text, vi r4.2.Value.Int, vs A10 r4.2.Args c11] := (RC.k7 (TGPred.close_ r4.2 hv9) (RC.nil _ _))
 have hst := hst.obj_row (size := 7) (k := 1) rfl (Nat.le_of_ble_eq_true rfl)
 refine s0 1 [(14, va [vi a1, vstr w_0, vstr w_0, vi 0, vstr w_0, vi 0, .slice (some ⟨b12, 0, none⟩) 1 1])] (al [vi 0, vstr w_0, vstr w_0, vi 0, vstr w_0, vi 0, vn] hst (fun b15 _ hst => ?_))
 have hrc17 := RC.nil (TGPred) m6
 have hst := hst.nil_row 44 7
 refine so1 0 [vi a1, vstr w_0, vstr w_0, vi 0, vstr w_0, vi 0, .slice (some ⟨b12, 0, none⟩) 1 1] [vi a1, vstr w_0, vstr w_0, vi 0, vstr w_0, vi 0, .slice (some ⟨b12, 0, none⟩) 1 1] hst (fun _ hst => ?_)
 refine nl (tn ?_)
 have hst := pk0 hst
 refine sq (bk (wc_loop (fun kk a w => ∃ (f0 : Fr) (m273 : Mem) (x210 : List GPred) (A211 : Option Addr) (c212 : Nat) (cs213 : List Value) (x215 : Str) (x216 : Int) (x217 : Int) (x218 : Int) (x219 : Str) (x220 : Int), a = act Tryz.f117.ntmps (upds f0 [(0, vp ob0 0), (2, vstr a2), (3, vf 163 [vp ob0 0] []), (8, vp b1 0), (9, vp b15 0)]) ∧ kk ≤ k1 ∧ parser_joined_i1_l1 kk a1 a2 x210 x215 x216 x217 x218 x219 x220 = some r ∧ m6.le m273 ∧ St g m273 (oo b15 44 [vi a1, vstr w_0, vstr w_0, vi 0, vstr w_0, vi 0, vs A211 x210 c212] :: rw_ 44 7 A211 x210 c212 cs213 :: oo ob0 155 [vstr x215, vi x216, vi x217, vi x218, vstr x219, vi x220] :: rn 44 7 :: oo b1 44 [vi 0, vstr w_0, vstr w_0, vi 0, vstr w_0, vi 0, vn] :: F) w ∧ RC (TGPred) m273 x210 cs213) k1 ?_ ?_))
 ·exact ⟨_, m6, ([r4.2]), (some ⟨b12, 0, none⟩), 1, [vi r4.2.Op, vstr r4.2.Field, vstr r4.2.Key, vi r4.2.Value.Kind, vstr r4.2.Value.Text, vi r4.2.Value.Int, vs A10 r4.2.Args c11], (r4.1.x_.s_), (r4.1.x_.at_), (r4.1.t_.kind), (r4.1.t_.at_), (r4.1.t_.s_), (r4.1.t_.n_), (act_upds ⟨by kernel_rfl, by kernel_rfl, by kernel_rfl, by kernel_rfl, by kernel_rfl, trivial⟩), (Nat.le_refl _), h, (Mem.le.refl _), hst, hrc14⟩
 rintro k271 ih272 _ _ ⟨f0, m273, x210, A211, c212, cs213, x215, x216, x217, x218, x219, x220, rfl, hk270, h, hl269, hst, hrc214⟩
 obtain _ | k275 := k271
 ·simp [parser_joined_i1_l1] at h
 rw [parser_joined_i1_l1] at h
 refine sq (qr (s0 2 [(15, vp ob0 0), (16, vstr a2)] ?_))
 have hst := pk5 hst
 rcases xbind_some h with ⟨p280, hq277, rfl⟩ | ⟨r276, hq277, h⟩
 ·have e281 := hl7.trans hl269
  exact cpa (c_parser_takes hq277 hst) (fun _ _ hp => ⟨rfl, _, rfl, hp.p e281 4 []⟩)
 refine cal (c_parser_takes hq277 hst) ?_
 rintro _ _ ⟨m278, rfl, hl279, hst⟩
 refine nl (tn (cn h (fun h => ?_) (fun h => ?_)))
 ·refine wp_skip (tn (bk (wc_draw false (fun x => Rd m278 (oo b15 44 [vi a1, vstr w_0, vstr w_0, vi 0, vstr w_0, vi 0, vs A211 x210 c212] :: []) x) (by kernel_rfl) ?_)))
  have hst := hst.drew
  refine wpG_seg [0, 2, 1] [(18, vp b15 6), (20, vf 163 [vp ob0 0] []), (19, vs A211 x210 c212)] [(ad b15 6, vs A211 x210 c212)] #[true, true, true, false, false, false, false, false] (fuel := 5) (PQ.block_ (PQ.then_ (PQ.block_ (PQ.then_ PQ.body)))) (by kernel_rfl) (by kernel_rfl) (hst.rd.with_ 1 rfl (hst.rd.none_)) (fun x hx => ⟨hx.c 0, trivial⟩) ?_
  refine wpG_exec 3 (by kernel_rfl) rfl ?_
  rcases xbind_some h with ⟨p302, hq299, rfl⟩ | ⟨r298, hq299, h⟩
  ·have e303 := hl7.trans (hl269.trans hl279)
   exact cpa ((ih k275 (by omega)).c_parser_factor hq299 hst) (fun _ _ hp => ⟨rfl, _, rfl, hp.p e303 4 []⟩)
  refine cal ((ih k275 (by omega)).c_parser_factor hq299 hst) ?_
  rintro _ _ ⟨m300, v304, rfl, hl301, hst, hv304⟩
  obtain ⟨A305, c306, rfl⟩ := hv304.shape
  refine nl (tn (⟨_, fun _ h => h, .inr (Rd.lower hl301 (hst.rd.with_ 1 rfl (hst.rd.none_))), ?_⟩))
  refine wpG_exec 4 (by kernel_rfl) rfl (li 44 1 [vi r298.2.Op, vstr r298.2.Field, vstr r298.2.Key, vi r298.2.Value.Kind, vstr r298.2.Value.Text, vi r298.2.Value.Int, vs A305 r298.2.Args c306] hst (fun b307 _ hst => ?_))
  refine nl (tn (⟨_, fun _ h => h, .inr (Rd.lower hl301 (hst.rd.with_ 2 rfl (hst.rd.none_))), ?_⟩))
  refine wpG_exec 5 (by kernel_rfl) rfl ?_
  obtain ⟨hb308, h⟩ := chk_some h
  have e313 := hl279.trans hl301
  refine ap3 (TGPred) (xs := x210) (ys := [r298.2]) 96 1 0 hst (RC.mono e313 hrc214) (RC.k7 (TGPred.close_ r298.2 hv304) (RC.nil _ _)) hb308 (fun A309 c310 cs311 _ hrc312 hst => ?_)
  have hst := pk0 hst
  refine nl (tn (⟨_, fun _ h => h, .inr (Rd.lower hl301 (hst.rd.with_ 1 rfl (hst.rd.none_))), ?_⟩))
  refine wpG_strong (S2 := fun x => Rd m300 (oo b15 44 [vi a1, vstr w_0, vstr w_0, vi 0, vstr w_0, vi 0, vs A211 x210 c212] :: []) x) (fun x hx => Rd.lower hl301 hx) ?_
  refine wpG_seg [6] [(24, vp b15 6)] [] #[true, true, true, true, true, true, true, false] (fuel := 1) (PQ.block_ (PQ.then_ (PQ.block_ (PQ.then_ PQ.body)))) (by kernel_rfl) (by kernel_rfl) (hst.rd.with_ 1 rfl (hst.rd.none_)) (fun x hx => trivial) ?_
  refine wpG_exec 7 (by kernel_rfl) rfl (so1 6 [vs A309 (x210 ++ [r298.2]) c310] [vi a1, vstr w_0, vstr w_0, vi 0, vstr w_0, vi 0, vs A309 (x210 ++ [r298.2]) c310] hst (fun _ hst => ?_))
  refine nl (tn (⟨_, fun _ h => h, .inl ⟨rfl, allListed_of _ (by kernel_rfl)⟩, ?_⟩))
  refine wpG_done (by kernel_rfl) (bn (tn ?_))
  have e314 := hl269.trans (hl279.trans hl301)
  have hst := pk10 hst
  exact ih272 k275 (by omega) _ _ ⟨_, m300, ((x210 ++ [r298.2])), A309, c310, cs311, (r298.1.x_.s_), (r298.1.x_.at_), (r298.1.t_.kind), (r298.1.t_.at_), (r298.1.t_.s_), (r298.1.t_.n_), (act_upds ⟨by kernel_rfl, by kernel_rfl, by kernel_rfl, by kernel_rfl, by kernel_rfl, trivial⟩), (by omega), h, e314, hst, hrc312⟩
 refine wp_exit (tx (tx (bx (tn (sq (qr (sg 4 [(25, vp b15 6), (26, vs A211 x210 c212), (27, vi ((x210).length : Int)), (28, vb (((x210).length : Int) == 1))] [(ad b15 6, vs A211 x210 c212)] ⟨hst.c 1, trivial⟩ (nl (tn (cn h (fun h => ?_) (fun h => ?_)))))))))))
 ·refine qr (sg 2 [(29, vp b15 6), (30, vs A211 x210 c212)] [(ad b15 6, vs A211 x210 c212)] ⟨hst.c 1, trivial⟩ ?_)
  have hst := pk5 hst
  obtain ⟨m315, hl316, hst, hs317⟩ := hst.seal_row (T := TGPred) (xs := x210) rfl (RC.mono hl279 hrc214)
  obtain ⟨x319, hx320, h⟩ := ix h
  obtain ⟨b321, o322, cs323, hR324, hA325, hI326⟩ := RS.ix (P := Tryz.prog) hs317 hx320
  obtain ⟨v327, rfl, hv327⟩ := TGPred.open_ hR324
  obtain ⟨A328, c329, rfl⟩ := hv327.shape
  refine vl (hI326.r .i64) (sg 1 [(32, va (cGPred x319 (vs A328 x319.Args c329)))] [(ad b321 o322, vi x319.Op), (ad b321 (o322 + 1), vstr x319.Field), (ad b321 (o322 + 2), vstr x319.Key), (ad b321 (o322 + 3), vi x319.Value.Kind), (ad b321 (o322 + 4), vstr x319.Value.Text), (ad b321 (o322 + 5), vi x319.Value.Int), (ad b321 (o322 + 6), vs A328 x319.Args c329)] ⟨hst.e hA325 0, hst.e hA325 1, hst.e hA325 2, hst.e hA325 3, hst.e hA325 4, hst.e hA325 5, hst.e hA325 6, trivial⟩ (so3 0 (cGPred x319 (vs A328 x319.Args c329)) (cGPred x319 (vs A328 x319.Args c329)) hst (fun _ hst => ?_)))
  refine nl (tn (wp_ret (tr (wrr [va (cGPred x319 (vs A328 x319.Args c329))] [(ad b1 0, vi x319.Op), (ad b1 1, vstr x319.Field), (ad b1 2, vstr x319.Key), (ad b1 3, vi x319.Value.Kind), (ad b1 4, vstr x319.Value.Text), (ad b1 5, vi x319.Value.Int), (ad b1 6, vs A328 x319.Args c329)] ⟨hst.c 3, hst.c 3, hst.c 3, hst.c 3, hst.c 3, hst.c 3, hst.c 3, trivial⟩ ?_))))
  have hst := pk9 hst
  have e330 := hl7.trans (hl269.trans (hl279.trans hl316))
  cases h
  exact ⟨_, rfl, m315, (vs A328 x319.Args c329), rfl, e330, hst, hv327⟩
 refine wp_skip (tn (qr (sg 1 [(33, va [vi a1, vstr w_0, vstr w_0, vi 0, vstr w_0, vi 0, vs A211 x210 c212])] [(ad b15 0, vi a1), (ad b15 1, vstr w_0), (ad b15 2, vstr w_0), (ad b15 3, vi 0), (ad b15 4, vstr w_0), (ad b15 5, vi 0), (ad b15 6, vs A211 x210 c212)] ⟨hst.c 1, hst.c 1, hst.c 1, hst.c 1, hst.c 1, hst.c 1, hst.c 1, trivial⟩ (so4 0 [vi a1, vstr w_0, vstr w_0, vi 0, vstr w_0, vi 0, vs A211 x210 c212] [vi a1, vstr w_0, vstr w_0, vi 0, vstr w_0, vi 0, vs A211 x210 c212] hst (fun _ hst => ?_)))))
 refine nl (tn (wp_ret ?_))
 have hst := pk5 hst
 obtain ⟨m331, hl332, hst, hs333⟩ := hst.seal_row (T := TGPred) (xs := x210) rfl (RC.mono hl279 hrc214)
 refine wrr [va [vi a1, vstr w_0, vstr w_0, vi 0, vstr w_0, vi 0, vs A211 x210 c212]] [(ad b1 0, vi a1), (ad b1 1, vstr w_0), (ad b1 2, vstr w_0), (ad b1 3, vi 0), (ad b1 4, vstr w_0), (ad b1 5, vi 0), (ad b1 6, vs A211 x210 c212)] ⟨hst.c 3, hst.c 3, hst.c 3, hst.c 3, hst.c 3, hst.c 3, hst.c 3, trivial⟩ ?_
 have hst := pk9 hst
 have e334 := hl7.trans (hl269.trans (hl279.trans hl332))
 cases h
 exact ⟨_, rfl, m331, (vs A211 x210 c212), rfl, e334, hst, hs333⟩
theorem s_parser_factor {k : Nat} (ih : ∀ j, j < k → I_parser_predicate j) {a0 : SParser} {r : Except Pan (SParser × GPred)} {g : World} {m : Mem} {F : List Asr} {w : World} {ob0 : Nat} (h : parser_factor k a0 = some r) (hst : St g m (oo ob0 155 (cSParser a0) :: F) w) :
    Calls Tryz.prog 163 ⟨[vp ob0 0]⟩ w (XPost (R_parser_factor g m F ob0) g m F r) := by
 refine calls_enter Tryz.func163 rfl rfl ?_
 obtain _ | k1 := k
 ·simp [parser_factor] at h
 rw [parser_factor] at h
 refine qr (al [vi 0, vstr w_0, vstr w_0, vi 0, vstr w_0, vi 0, vn] hst (fun b1 _ hst => ?_))
 have hrc3 := RC.nil (TGPred) m
 have hst := hst.nil_row 44 7
 refine nl (tn (sq (bk (qr (s0 1 [(5, vp ob0 0)] ?_)))))
 have hst := pk5 hst
 rcases xbind_some h with ⟨p8, hq5, rfl⟩ | ⟨r4, hq5, h⟩
 ·exact cpa (c_parser_takes hq5 hst) (fun _ _ hp => ⟨rfl, _, rfl, hp.p (Mem.le.refl _) 2 []⟩)
 refine cal (c_parser_takes hq5 hst) ?_
 rintro _ _ ⟨m6, rfl, hl7, hst⟩
 refine s0 1 [(4, vb r4.2)] (nl (tn (cn h (fun h => ?_) (fun h => ?_))))
 ·refine qr (s0 1 [(7, vp ob0 0)] ?_)
  rcases xbind_some h with ⟨p13, hq10, rfl⟩ | ⟨r9, hq10, h⟩
  ·exact cpa ((ih k1 (by omega)).c_parser_factor hq10 hst) (fun _ _ hp => ⟨rfl, _, rfl, hp.p hl7 2 []⟩)
  refine cal ((ih k1 (by omega)).c_parser_factor hq10 hst) ?_
  rintro _ _ ⟨m11, v14, rfl, hl12, hst, hv14⟩
  obtain ⟨A15, c16, rfl⟩ := hv14.shape
  refine li 44 1 [vi r9.2.Op, vstr r9.2.Field, vstr r9.2.Key, vi r9.2.Value.Kind, vstr r9.2.Value.Text, vi r9.2.Value.Int, vs A15 r9.2.Args c16] hst (fun b17 _ hst => ?_)
  have hrc19 : RC (TGPred) m11 [r9.2] [vi r9.2.Op, vstr r9.2.Field, vstr r9.2.Key, vi r9.2.Value.Kind, vstr r9.2.Value.Text, vi r9.2.Value.Int, vs A15 r9.2.Args c16] := (RC.k7 (TGPred.close_ r9.2 hv14) (RC.nil _ _))
  have hst := hst.obj_row (size := 7) (k := 1) rfl (Nat.le_of_ble_eq_true rfl)
  refine s0 1 [(10, va [vi 3, vstr w_0, vstr w_0, vi 0, vstr w_0, vi 0, .slice (some ⟨b17, 0, none⟩) 1 1])] (so3 0 [vi 3, vstr w_0, vstr w_0, vi 0, vstr w_0, vi 0, .slice (some ⟨b17, 0, none⟩) 1 1] [vi 3, vstr w_0, vstr w_0, vi 0, vstr w_0, vi 0, .slice (some ⟨b17, 0, none⟩) 1 1] hst (fun _ hst => ?_))
  refine nl (tn (wp_ret (br (tr ?_))))
  obtain ⟨m20, hl21, hst, hs22⟩ := hst.seal_row (T := TGPred) (xs := [r9.2]) rfl hrc19
  refine wrr [va [vi 3, vstr w_0, vstr w_0, vi 0, vstr w_0, vi 0, .slice (some ⟨b17, 0, none⟩) 1 1]] [(ad b1 0, vi 3), (ad b1 1, vstr w_0), (ad b1 2, vstr w_0), (ad b1 3, vi 0), (ad b1 4, vstr w_0), (ad b1 5, vi 0), (ad b1 6, .slice (some ⟨b17, 0, none⟩) 1 1)] ⟨hst.c 2, hst.c 2, hst.c 2, hst.c 2, hst.c 2, hst.c 2, hst.c 2, trivial⟩ ?_
  have hst := pk6 hst
  have e23 := hl7.trans (hl12.trans hl21)
  cases h
  exact ⟨_, rfl, m20, (.slice (some ⟨b17, 0, none⟩) 1 1), rfl, e23, hst, hs22⟩
 refine qr (s0 1 [(12, vp ob0 0)] ?_)
 rcases xbind_some h with ⟨p28, hq25, rfl⟩ | ⟨r24, hq25, h⟩
 ·exact cpa (c_parser_takes hq25 hst) (fun _ _ hp => ⟨rfl, _, rfl, hp.p hl7 2 []⟩)
 refine cal (c_parser_takes hq25 hst) ?_
 rintro _ _ ⟨m26, rfl, hl27, hst⟩
 refine s0 1 [(11, vb r24.2)] (nl (tn (cn h (fun h => ?_) (fun h => ?_))))
 ·refine qr (s0 1 [(14, vp ob0 0)] ?_)
  rcases xbind_some h with ⟨p33, hq30, rfl⟩ | ⟨r29, hq30, h⟩
  ·have e34 := hl7.trans hl27
   exact cpa ((ih k1 (by omega)).c_parser_predicate hq30 hst) (fun _ _ hp => ⟨rfl, _, rfl, hp.p e34 2 []⟩)
  refine cal ((ih k1 (by omega)).c_parser_predicate hq30 hst) ?_
  rintro _ _ ⟨m31, v35, rfl, hl32, hst, hv35⟩
  obtain ⟨A36, c37, rfl⟩ := hv35.shape
  refine al [vi 0, vstr w_0, vstr w_0, vi 0, vstr w_0, vi 0, vn] hst (fun b38 _ hst => ?_)
  have hrc40 := RC.nil (TGPred) m31
  have hst := hst.nil_row 44 7
  refine so1 0 (cGPred r29.2 (vs A36 r29.2.Args c37)) (cGPred r29.2 (vs A36 r29.2.Args c37)) hst (fun _ hst => ?_)
  refine nl (tn (qr (s0 1 [(16, vp ob0 0)] ?_)))
  have hst := pk5 hst
  rcases xbind_some h with ⟨p45, hq42, rfl⟩ | ⟨r41, hq42, h⟩
  ·have e46 := hl7.trans (hl27.trans hl32)
   exact cpa (c_parser_need hq42 hst) (fun _ _ hp => ⟨rfl, _, rfl, hp.p e46 4 []⟩)
  refine cal (c_parser_need hq42 hst) ?_
  rintro _ _ ⟨m43, rfl, hl44, hst⟩
  refine nl (tn (qr (sg 1 [(18, va (cGPred r29.2 (vs A36 r29.2.Args c37)))] [(ad b38 0, vi r29.2.Op), (ad b38 1, vstr r29.2.Field), (ad b38 2, vstr r29.2.Key), (ad b38 3, vi r29.2.Value.Kind), (ad b38 4, vstr r29.2.Value.Text), (ad b38 5, vi r29.2.Value.Int), (ad b38 6, vs A36 r29.2.Args c37)] ⟨hst.c 2, hst.c 2, hst.c 2, hst.c 2, hst.c 2, hst.c 2, hst.c 2, trivial⟩ (so4 0 (cGPred r29.2 (vs A36 r29.2.Args c37)) (cGPred r29.2 (vs A36 r29.2.Args c37)) hst (fun _ hst => ?_)))))
  refine nl (tn (wp_ret (br (tr (wrr [va (cGPred r29.2 (vs A36 r29.2.Args c37))] [(ad b1 0, vi r29.2.Op), (ad b1 1, vstr r29.2.Field), (ad b1 2, vstr r29.2.Key), (ad b1 3, vi r29.2.Value.Kind), (ad b1 4, vstr r29.2.Value.Text), (ad b1 5, vi r29.2.Value.Int), (ad b1 6, vs A36 r29.2.Args c37)] ⟨hst.c 4, hst.c 4, hst.c 4, hst.c 4, hst.c 4, hst.c 4, hst.c 4, trivial⟩ ?_)))))
  have hst := pk7 hst
  have e47 := hl7.trans (hl27.trans (hl32.trans hl44))
  cases h
  exact ⟨_, rfl, m43, (vs A36 r29.2.Args c37), rfl, e47, hst, (RS.mono hl44 hv35)⟩
 refine qr (s0 1 [(20, vp ob0 0)] ?_)
 rcases xbind_some h with ⟨p52, hq49, rfl⟩ | ⟨r48, hq49, h⟩
 ·have e53 := hl7.trans hl27
  exact cpa (c_parser_takes hq49 hst) (fun _ _ hp => ⟨rfl, _, rfl, hp.p e53 2 []⟩)
 refine cal (c_parser_takes hq49 hst) ?_
 rintro _ _ ⟨m50, rfl, hl51, hst⟩
 refine s0 1 [(19, vb r48.2)] (nl (tn (cn h (fun h => ?_) (fun h => ?_))))
 ·refine qr (s0 1 [(22, va [vi 0, vstr w_0, vstr w_0, vi 0, vstr w_0, vi 0, vn])] ?_)
  have hrc55 := RC.nil (TGPred) m50
  have hst := hst.nil_row 44 7
  refine so3 0 [vi 0, vstr w_0, vstr w_0, vi 0, vstr w_0, vi 0, vn] [vi 0, vstr w_0, vstr w_0, vi 0, vstr w_0, vi 0, vn] hst (fun _ hst => ?_)
  refine nl (tn (wp_ret (br (tr ?_))))
  obtain ⟨m56, hl57, hst, hs58⟩ := hst.seal_row (T := TGPred) (xs := ([] : List GPred)) rfl hrc55
  refine wrr [va [vi 0, vstr w_0, vstr w_0, vi 0, vstr w_0, vi 0, vn]] [(ad b1 0, vi 0), (ad b1 1, vstr w_0), (ad b1 2, vstr w_0), (ad b1 3, vi 0), (ad b1 4, vstr w_0), (ad b1 5, vi 0), (ad b1 6, vn)] ⟨hst.c 2, hst.c 2, hst.c 2, hst.c 2, hst.c 2, hst.c 2, hst.c 2, trivial⟩ ?_
  have hst := pk6 hst
  have e59 := hl7.trans (hl27.trans (hl51.trans hl57))
  cases h
  exact ⟨_, rfl, m56, (vn), rfl, e59, hst, hs58⟩
 refine qr (s0 1 [(24, vp ob0 0)] ?_)
 rcases xbind_some h with ⟨p64, hq61, rfl⟩ | ⟨r60, hq61, h⟩
 ·have e65 := hl7.trans (hl27.trans hl51)
  exact cpa (c_parser_takes hq61 hst) (fun _ _ hp => ⟨rfl, _, rfl, hp.p e65 2 []⟩)
 refine cal (c_parser_takes hq61 hst) ?_
 rintro _ _ ⟨m62, rfl, hl63, hst⟩
 refine s0 1 [(23, vb r60.2)] (nl (tn (cn h (fun h => ?_) (fun h => ?_))))
 ·refine qr (s0 1 [(26, vp ob0 0)] ?_)
  rcases xbind_some h with ⟨p70, hq67, rfl⟩ | ⟨r66, hq67, h⟩
  ·have e71 := hl7.trans (hl27.trans (hl51.trans hl63))
   exact cpa (c_parser_label hq67 hst) (fun _ _ hp => ⟨rfl, _, rfl, hp.p e71 2 []⟩)
  refine cal (c_parser_label hq67 hst) ?_
  rintro _ _ ⟨m68, rfl, hl69, hst⟩
  refine s0 1 [(28, va [vi 4, vstr w_0, vstr r66.2, vi 0, vstr w_0, vi 0, vn])] ?_
  have hrc73 := RC.nil (TGPred) m68
  have hst := hst.nil_row 44 7
  refine so3 0 [vi 4, vstr w_0, vstr r66.2, vi 0, vstr w_0, vi 0, vn] [vi 4, vstr w_0, vstr r66.2, vi 0, vstr w_0, vi 0, vn] hst (fun _ hst => ?_)
  refine nl (tn (wp_ret (br (tr ?_))))
  obtain ⟨m74, hl75, hst, hs76⟩ := hst.seal_row (T := TGPred) (xs := ([] : List GPred)) rfl hrc73
  refine wrr [va [vi 4, vstr w_0, vstr r66.2, vi 0, vstr w_0, vi 0, vn]] [(ad b1 0, vi 4), (ad b1 1, vstr w_0), (ad b1 2, vstr r66.2), (ad b1 3, vi 0), (ad b1 4, vstr w_0), (ad b1 5, vi 0), (ad b1 6, vn)] ⟨hst.c 2, hst.c 2, hst.c 2, hst.c 2, hst.c 2, hst.c 2, hst.c 2, trivial⟩ ?_
  have hst := pk6 hst
  have e77 := hl7.trans (hl27.trans (hl51.trans (hl63.trans (hl69.trans hl75))))
  cases h
  exact ⟨_, rfl, m74, (vn), rfl, e77, hst, hs76⟩
 refine wp_skip (bn (tn (qr (s0 1 [(29, vp ob0 0)] ?_))))
 rcases xbind_some h with ⟨p82, hq79, rfl⟩ | ⟨r78, hq79, h⟩
 ·have e83 := hl7.trans (hl27.trans (hl51.trans hl63))
  exact cpa (c_parser_test hq79 hst) (fun _ _ hp => ⟨rfl, _, rfl, hp.p e83 2 []⟩)
 refine cal (c_parser_test hq79 hst) ?_
 rintro _ _ ⟨m80, v84, rfl, hl81, hst, hv84⟩
 obtain ⟨A85, c86, rfl⟩ := hv84.shape
 refine so2 0 (cGPred r78.2 (vs A85 r78.2.Args c86)) (cGPred r78.2 (vs A85 r78.2.Args c86)) hst (fun _ hst => ?_)
 refine nl (tn (wp_ret (wrr [va (cGPred r78.2 (vs A85 r78.2.Args c86))] [(ad b1 0, vi r78.2.Op), (ad b1 1, vstr r78.2.Field), (ad b1 2, vstr r78.2.Key), (ad b1 3, vi r78.2.Value.Kind), (ad b1 4, vstr r78.2.Value.Text), (ad b1 5, vi r78.2.Value.Int), (ad b1 6, vs A85 r78.2.Args c86)] ⟨hst.c 2, hst.c 2, hst.c 2, hst.c 2, hst.c 2, hst.c 2, hst.c 2, trivial⟩ ?_)))
 have hst := pk6 hst
 have e87 := hl7.trans (hl27.trans (hl51.trans (hl63.trans hl81)))
 cases h
 exact ⟨_, rfl, m80, (vs A85 r78.2.Args c86), rfl, e87, hst, hv84⟩
theorem i_parser_predicate (k : Nat) : I_parser_predicate k := by
  induction k using Nat.strongRecOn with
  | ind k ih => exact ⟨s_parser_predicate ih, s_parser_joined ih, s_parser_conjunct ih, s_parser_joined_i1 ih, s_parser_factor ih⟩
theorem c_parser_predicate {k : Nat} {a0 : SParser} {r : Except Pan (SParser × GPred)} {g : World} {m : Mem} {F : List Asr} {w : World} {ob0 : Nat} (h : parser_predicate k a0 = some r) (hst : St g m (oo ob0 155 (cSParser a0) :: F) w) :
    Calls Tryz.prog 51 ⟨[vp ob0 0]⟩ w (XPost (R_parser_predicate g m F ob0) g m F r) := (i_parser_predicate k).c_parser_predicate h hst
theorem c_parser_joined {k : Nat} {a0 : SParser} {a1 : Int} {a2 : Str} {r : Except Pan (SParser × GPred)} {g : World} {m : Mem} {F : List Asr} {w : World} {ob0 : Nat} (h : parser_joined k a0 a1 a2 = some r) (hst : St g m (oo ob0 155 (cSParser a0) :: F) w) :
    Calls Tryz.prog 117 ⟨[vp ob0 0, vi a1, vstr a2, vf 118 [vp ob0 0] []]⟩ w (XPost (R_parser_joined g m F ob0) g m F r) := (i_parser_predicate k).c_parser_joined h hst
theorem c_parser_conjunct {k : Nat} {a0 : SParser} {r : Except Pan (SParser × GPred)} {g : World} {m : Mem} {F : List Asr} {w : World} {ob0 : Nat} (h : parser_conjunct k a0 = some r) (hst : St g m (oo ob0 155 (cSParser a0) :: F) w) :
    Calls Tryz.prog 118 ⟨[vp ob0 0]⟩ w (XPost (R_parser_conjunct g m F ob0) g m F r) := (i_parser_predicate k).c_parser_conjunct h hst
theorem c_parser_joined_i1 {k : Nat} {a0 : SParser} {a1 : Int} {a2 : Str} {r : Except Pan (SParser × GPred)} {g : World} {m : Mem} {F : List Asr} {w : World} {ob0 : Nat} (h : parser_joined_i1 k a0 a1 a2 = some r) (hst : St g m (oo ob0 155 (cSParser a0) :: F) w) :
    Calls Tryz.prog 117 ⟨[vp ob0 0, vi a1, vstr a2, vf 163 [vp ob0 0] []]⟩ w (XPost (R_parser_joined_i1 g m F ob0) g m F r) := (i_parser_predicate k).c_parser_joined_i1 h hst
theorem c_parser_factor {k : Nat} {a0 : SParser} {r : Except Pan (SParser × GPred)} {g : World} {m : Mem} {F : List Asr} {w : World} {ob0 : Nat} (h : parser_factor k a0 = some r) (hst : St g m (oo ob0 155 (cSParser a0) :: F) w) :
    Calls Tryz.prog 163 ⟨[vp ob0 0]⟩ w (XPost (R_parser_factor g m F ob0) g m F r) := (i_parser_predicate k).c_parser_factor h hst

def R_parser_variable (g : World) (m : Mem) (F : List Asr) (ob0 : Nat) (r : SParser × GVariable) (v : Value) (w' : World) : Prop := ∃ (m' : Mem) (v0 : Value), v = va (cGVariable r.2 v0) ∧ m.le m' ∧ St g m' (oo ob0 155 (cSParser r.1) :: F) w' ∧ RS (TGPred) m' v0 r.2.Where.Args
theorem c_parser_variable {k : Nat} {a0 : SParser} {r : Except Pan (SParser × GVariable)} {g : World} {m : Mem} {F : List Asr} {w : World} {ob0 : Nat} (h : parser_variable k a0 = some r) (hst : St g m (oo ob0 155 (cSParser a0) :: F) w) (hG : Glob m) :
    Calls Tryz.prog 107 ⟨[vp ob0 0]⟩ w (XPost (R_parser_variable g m F ob0) g m F r) := by
 refine calls_enter Tryz.func107 rfl rfl ?_
 unfold parser_variable at h
 refine qr (al [vstr w_0, vi 0, vstr w_0, vstr w_0, vi 0, vstr w_0, vi 0, vn] hst (fun b1 _ hst => ?_))
 refine nl (tn (qr (s0 1 [(4, vp ob0 0)] ?_)))
 have hst := pk1 hst
 rcases xbind_some h with ⟨p6, hq3, rfl⟩ | ⟨r2, hq3, h⟩
 ·exact cpa (c_parser_name hq3 hst hG) (fun _ _ hp => ⟨rfl, _, rfl, hp.p (Mem.le.refl _) 1 []⟩)
 refine cal (c_parser_name hq3 hst hG) ?_
 rintro _ _ ⟨m4, rfl, hl5, hst⟩
 refine s0 1 [(6, va [vstr r2.2, vi 0, vstr w_0, vstr w_0, vi 0, vstr w_0, vi 0, vn])] (al [vstr w_0, vi 0, vstr w_0, vstr w_0, vi 0, vstr w_0, vi 0, vn] hst (fun b7 _ hst => ?_))
 refine so0 0 [vstr r2.2, vi 0, vstr w_0, vstr w_0, vi 0, vstr w_0, vi 0, vn] [vstr r2.2, vi 0, vstr w_0, vstr w_0, vi 0, vstr w_0, vi 0, vn] hst (fun _ hst => ?_)
 refine nl (tn (sq (qr (s0 1 [(7, vp ob0 0)] ?_))))
 have hst := pk1 hst
 rcases xbind_some h with ⟨p12, hq9, rfl⟩ | ⟨r8, hq9, h⟩
 ·exact cpa (c_parser_takes hq9 hst) (fun _ _ hp => ⟨rfl, _, rfl, hp.p hl5 2 []⟩)
 refine cal (c_parser_takes hq9 hst) ?_
 rintro _ _ ⟨m10, rfl, hl11, hst⟩
 refine nl (tn (cn h (fun h => ?_) (fun h => ?_)))
 ·refine qr (s0 1 [(9, vp ob0 0)] ?_)
  rcases xbind_some h with ⟨p17, hq14, rfl⟩ | ⟨r13, hq14, h⟩
  ·have e18 := hl5.trans hl11
   exact cpa (c_parser_predicate hq14 hst) (fun _ _ hp => ⟨rfl, _, rfl, hp.p e18 2 []⟩)
  refine cal (c_parser_predicate hq14 hst) ?_
  rintro _ _ ⟨m15, v19, rfl, hl16, hst, hv19⟩
  obtain ⟨A20, c21, rfl⟩ := hv19.shape
  refine s0 1 [(11, vp b7 1)] (so1 1 (cGPred r13.2 (vs A20 r13.2.Args c21)) [vstr r2.2, vi r13.2.Op, vstr r13.2.Field, vstr r13.2.Key, vi r13.2.Value.Kind, vstr r13.2.Value.Text, vi r13.2.Value.Int, vs A20 r13.2.Args c21] hst (fun _ hst => ?_))
  refine nl (tn (rg (s0 1 [(12, vp ob0 0)] ?_)))
  rcases xbind_some h with ⟨p26, hq23, rfl⟩ | ⟨r22, hq23, h⟩
  ·have e27 := hl5.trans (hl11.trans hl16)
   exact cpa (c_parser_need hq23 hst) (fun _ _ hp => ⟨rfl, _, rfl, hp.p e27 2 []⟩)
  refine cal (c_parser_need hq23 hst) ?_
  rintro _ _ ⟨m24, rfl, hl25, hst⟩
  refine nl (tn (qr (sg 1 [(14, va [vstr r2.2, vi r13.2.Op, vstr r13.2.Field, vstr r13.2.Key, vi r13.2.Value.Kind, vstr r13.2.Value.Text, vi r13.2.Value.Int, vs A20 r13.2.Args c21])] [(ad b7 0, vstr r2.2), (ad b7 1, vi r13.2.Op), (ad b7 2, vstr r13.2.Field), (ad b7 3, vstr r13.2.Key), (ad b7 4, vi r13.2.Value.Kind), (ad b7 5, vstr r13.2.Value.Text), (ad b7 6, vi r13.2.Value.Int), (ad b7 7, vs A20 r13.2.Args c21)] ⟨hst.c 1, hst.c 1, hst.c 1, hst.c 1, hst.c 1, hst.c 1, hst.c 1, hst.c 1, trivial⟩ (so2 0 [vstr r2.2, vi r13.2.Op, vstr r13.2.Field, vstr r13.2.Key, vi r13.2.Value.Kind, vstr r13.2.Value.Text, vi r13.2.Value.Int, vs A20 r13.2.Args c21] [vstr r2.2, vi r13.2.Op, vstr r13.2.Field, vstr r13.2.Key, vi r13.2.Value.Kind, vstr r13.2.Value.Text, vi r13.2.Value.Int, vs A20 r13.2.Args c21] hst (fun _ hst => ?_)))))
  refine nl (tn (wp_ret (wrr [va [vstr r2.2, vi r13.2.Op, vstr r13.2.Field, vstr r13.2.Key, vi r13.2.Value.Kind, vstr r13.2.Value.Text, vi r13.2.Value.Int, vs A20 r13.2.Args c21]] [(ad b1 0, vstr r2.2), (ad b1 1, vi r13.2.Op), (ad b1 2, vstr r13.2.Field), (ad b1 3, vstr r13.2.Key), (ad b1 4, vi r13.2.Value.Kind), (ad b1 5, vstr r13.2.Value.Text), (ad b1 6, vi r13.2.Value.Int), (ad b1 7, vs A20 r13.2.Args c21)] ⟨hst.c 2, hst.c 2, hst.c 2, hst.c 2, hst.c 2, hst.c 2, hst.c 2, hst.c 2, trivial⟩ ?_)))
  have hst := pk6 hst
  have e28 := hl5.trans (hl11.trans (hl16.trans hl25))
  cases h
  exact ⟨_, rfl, m24, (vs A20 r13.2.Args c21), rfl, e28, hst, (RS.mono hl25 hv19)⟩
 refine wp_skip (tn (qr (sg 1 [(14, va [vstr r2.2, vi 0, vstr w_0, vstr w_0, vi 0, vstr w_0, vi 0, vn])] [(ad b7 0, vstr r2.2), (ad b7 1, vi 0), (ad b7 2, vstr w_0), (ad b7 3, vstr w_0), (ad b7 4, vi 0), (ad b7 5, vstr w_0), (ad b7 6, vi 0), (ad b7 7, vn)] ⟨hst.c 1, hst.c 1, hst.c 1, hst.c 1, hst.c 1, hst.c 1, hst.c 1, hst.c 1, trivial⟩ (so2 0 [vstr r2.2, vi 0, vstr w_0, vstr w_0, vi 0, vstr w_0, vi 0, vn] [vstr r2.2, vi 0, vstr w_0, vstr w_0, vi 0, vstr w_0, vi 0, vn] hst (fun _ hst => ?_)))))
 refine nl (tn (wp_ret (wrr [va [vstr r2.2, vi 0, vstr w_0, vstr w_0, vi 0, vstr w_0, vi 0, vn]] [(ad b1 0, vstr r2.2), (ad b1 1, vi 0), (ad b1 2, vstr w_0), (ad b1 3, vstr w_0), (ad b1 4, vi 0), (ad b1 5, vstr w_0), (ad b1 6, vi 0), (ad b1 7, vn)] ⟨hst.c 2, hst.c 2, hst.c 2, hst.c 2, hst.c 2, hst.c 2, hst.c 2, hst.c 2, trivial⟩ ?_)))
 have hst := pk6 hst
 have e29 := hl5.trans hl11
 cases h
 exact ⟨_, rfl, m10, (vn), rfl, e29, hst, (RS.nil _ _)⟩

def R_parser_query_c1 (g : World) (m : Mem) (F : List Asr) (ob0 : Nat) (ob1 : Nat) (ob2 : Nat) (r : GQuery × SParser) (v : Value) (w' : World) : Prop := ∃ (m' : Mem) (A6 : Option Addr) (c6 : Nat) (cs6 : List Value) (A7 : Option Addr) (c7 : Nat) (cs7 : List Value) (A8 : Option Addr) (c8 : Nat) (cs8 : List Value) (A9 : Option Addr) (c9 : Nat) (cs9 : List Value) (A10 : Option Addr) (c10 : Nat) (cs10 : List Value) (A11 : Option Addr) (c11 : Nat) (cs11 : List Value), v = vt [] ∧ m.le m' ∧ St g m' (oo ob0 36 (cGQuery r.1 (vs A6 r.1.Variables c6) (vs A7 r.1.Relations c7) (vs A8 r.1.Absences c8) (vs A9 r.1.Group c9) (vs A10 r.1.Compute c10) (vs A11 r.1.Order c11)) :: rw_ 95 8 A6 r.1.Variables c6 cs6 :: rw_ 104 3 A7 r.1.Relations c7 cs7 :: rw_ 106 11 A8 r.1.Absences c8 cs8 :: rw_ 101 3 A9 r.1.Group c9 cs9 :: rw_ 110 6 A10 r.1.Compute c10 cs10 :: rw_ 112 2 A11 r.1.Order c11 cs11 :: oo ob1 86 [vp ob2 0] :: oo ob2 155 (cSParser r.2) :: F) w' ∧ RC (TGVariable) m' r.1.Variables cs6 ∧ RC (TGRelation) m' r.1.Relations cs7 ∧ RC (TGAbsence) m' r.1.Absences cs8 ∧ RC (TGColumn) m' r.1.Group cs9 ∧ RC (TGAggregate) m' r.1.Compute cs10 ∧ RC (TGOrderKey) m' r.1.Order cs11
theorem c_parser_query_c1 {k : Nat} {a0 : GQuery} {a2 : SParser} {r : Except Pan (GQuery × SParser)} {g : World} {m : Mem} {F : List Asr} {w : World} {ob0 : Nat} {ob1 : Nat} {ob2 : Nat} {A6_ : Option Addr} {c6_ : Nat} {cs6_ : List Value} {A7_ : Option Addr} {c7_ : Nat} {cs7_ : List Value} {A8_ : Option Addr} {c8_ : Nat} {cs8_ : List Value} {A9_ : Option Addr} {c9_ : Nat} {cs9_ : List Value} {A10_ : Option Addr} {c10_ : Nat} {cs10_ : List Value} {A11_ : Option Addr} {c11_ : Nat} {cs11_ : List Value} (h : parser_query_c1 k a0 a2 = some r) (hst : St g m (oo ob0 36 (cGQuery a0 (vs A6_ a0.Variables c6_) (vs A7_ a0.Relations c7_) (vs A8_ a0.Absences c8_) (vs A9_ a0.Group c9_) (vs A10_ a0.Compute c10_) (vs A11_ a0.Order c11_)) :: rw_ 95 8 A6_ a0.Variables c6_ cs6_ :: rw_ 104 3 A7_ a0.Relations c7_ cs7_ :: rw_ 106 11 A8_ a0.Absences c8_ cs8_ :: rw_ 101 3 A9_ a0.Group c9_ cs9_ :: rw_ 110 6 A10_ a0.Compute c10_ cs10_ :: rw_ 112 2 A11_ a0.Order c11_ cs11_ :: oo ob1 86 [vp ob2 0] :: oo ob2 155 (cSParser a2) :: F) w) (hrc6_ : RC (TGVariable) m a0.Variables cs6_) (hrc7_ : RC (TGRelation) m a0.Relations cs7_) (hrc8_ : RC (TGAbsence) m a0.Absences cs8_) (hrc9_ : RC (TGColumn) m a0.Group cs9_) (hrc10_ : RC (TGAggregate) m a0.Compute cs10_) (hrc11_ : RC (TGOrderKey) m a0.Order cs11_) (hG : Glob m) :
    Calls Tryz.prog 106 ⟨[vp ob0 0, vp ob1 0]⟩ w (XPost (R_parser_query_c1 g m F ob0 ob1 ob2) g m (oo ob0 36 (cGQuery a0 (vs A6_ a0.Variables c6_) (vs A7_ a0.Relations c7_) (vs A8_ a0.Absences c8_) (vs A9_ a0.Group c9_) (vs A10_ a0.Compute c10_) (vs A11_ a0.Order c11_)) :: rw_ 95 8 A6_ a0.Variables c6_ cs6_ :: rw_ 104 3 A7_ a0.Relations c7_ cs7_ :: rw_ 106 11 A8_ a0.Absences c8_ cs8_ :: rw_ 101 3 A9_ a0.Group c9_ cs9_ :: rw_ 110 6 A10_ a0.Compute c10_ cs10_ :: rw_ 112 2 A11_ a0.Order c11_ cs11_ :: oo ob1 86 [vp ob2 0] :: F) r) := by
 refine calls_enter Tryz.func106 rfl rfl ?_
 unfold parser_query_c1 at h
 refine wc_draw false (fun x => Rd m (oo ob0 36 (cGQuery a0 (vs A6_ a0.Variables c6_) (vs A7_ a0.Relations c7_) (vs A8_ a0.Absences c8_) (vs A9_ a0.Group c9_) (vs A10_ a0.Compute c10_) (vs A11_ a0.Order c11_)) :: oo ob1 86 [vp ob2 0] :: []) x) (by kernel_rfl) ?_
 have hst := hst.drew
 refine wpG_seg [0, 2, 1] [(2, vp ob0 0), (4, vp ob2 0), (3, vs A6_ a0.Variables c6_)] [(ad ob1 0, vp ob2 0), (ad ob0 0, vs A6_ a0.Variables c6_)] #[true, true, true, false, false, false, false, false] (fuel := 5) PQ.body (by kernel_rfl) (by kernel_rfl) (hst.rd.with_ 0 rfl (hst.rd.with_ 7 rfl (hst.rd.none_))) (fun x hx => ⟨hx.c 1, hx.c 0, trivial⟩) ?_
 refine wpG_exec 3 (by kernel_rfl) rfl ?_
 have hst := pk11 hst
 rcases xbind_some h with ⟨p19, hq16, rfl⟩ | ⟨r15, hq16, h⟩
 ·exact cpa (c_parser_variable hq16 hst hG) (fun _ _ hp => ⟨rfl, _, rfl, hp.p (Mem.le.refl _) 8 [0, 0, 0, 0, 0, 0, 0, 0]⟩)
 refine cal (c_parser_variable hq16 hst hG) ?_
 rintro _ _ ⟨m17, v20, rfl, hl18, hst, hv20⟩
 obtain ⟨A21, c22, rfl⟩ := hv20.shape
 refine nl (tn (⟨_, fun _ h => h, .inr (Rd.lower hl18 (hst.rd.with_ 1 rfl (hst.rd.with_ 8 rfl (hst.rd.none_)))), ?_⟩))
 refine wpG_exec 4 (by kernel_rfl) rfl (li 95 1 [vstr r15.2.Name, vi r15.2.Where.Op, vstr r15.2.Where.Field, vstr r15.2.Where.Key, vi r15.2.Where.Value.Kind, vstr r15.2.Where.Value.Text, vi r15.2.Where.Value.Int, vs A21 r15.2.Where.Args c22] hst (fun b23 _ hst => ?_))
 refine nl (tn (⟨_, fun _ h => h, .inr (Rd.lower hl18 (hst.rd.with_ 2 rfl (hst.rd.with_ 9 rfl (hst.rd.none_)))), ?_⟩))
 refine wpG_exec 5 (by kernel_rfl) rfl ?_
 obtain ⟨hb24, h⟩ := chk_some h
 refine ap3 (TGVariable) (xs := a0.Variables) (ys := [r15.2]) 112 1 0 hst (RC.mono hl18 hrc6_) (RC.k8 (TGVariable.close_ r15.2 hv20) (RC.nil _ _)) hb24 (fun A25 c26 cs27 _ hrc28 hst => ?_)
 have hst := pk0 hst
 refine nl (tn (⟨_, fun _ h => h, .inr (Rd.lower hl18 (hst.rd.with_ 1 rfl (hst.rd.with_ 8 rfl (hst.rd.none_)))), ?_⟩))
 refine wpG_strong (S2 := fun x => Rd m17 (oo ob0 36 (cGQuery a0 (vs A6_ a0.Variables c6_) (vs A7_ a0.Relations c7_) (vs A8_ a0.Absences c8_) (vs A9_ a0.Group c9_) (vs A10_ a0.Compute c10_) (vs A11_ a0.Order c11_)) :: oo ob1 86 [vp ob2 0] :: []) x) (fun x hx => Rd.lower hl18 hx) ?_
 refine wpG_seg [6] [(8, vp ob0 0)] [] #[true, true, true, true, true, true, true, false] (fuel := 1) PQ.body (by kernel_rfl) (by kernel_rfl) (hst.rd.with_ 1 rfl (hst.rd.with_ 8 rfl (hst.rd.none_))) (fun x hx => trivial) ?_
 refine wpG_exec 7 (by kernel_rfl) rfl (so1 0 [vs A25 (a0.Variables ++ [r15.2]) c26] [vs A25 (a0.Variables ++ [r15.2]) c26, vs A7_ a0.Relations c7_, vs A8_ a0.Absences c8_, vi a0.Slots.From, vi a0.Slots.To, vs A9_ a0.Group c9_, vs A10_ a0.Compute c10_, vs A11_ a0.Order c11_, vi a0.Limit] hst (fun _ hst => ?_))
 refine nl (tn (⟨_, fun _ h => h, .inl ⟨rfl, allListed_of _ (by kernel_rfl)⟩, ?_⟩))
 refine wpG_done (by kernel_rfl) (we [] ?_)
 have hst := pk12 hst
 cases h
 exact ⟨_, rfl, m17, A25, c26, cs27, A7_, c7_, cs7_, A8_, c8_, cs8_, A9_, c9_, cs9_, A10_, c10_, cs10_, A11_, c11_, cs11_, rfl, hl18, hst, hrc28, (RC.mono hl18 hrc7_), (RC.mono hl18 hrc8_), (RC.mono hl18 hrc9_), (RC.mono hl18 hrc10_), (RC.mono hl18 hrc11_)⟩

def R_parser_list (g : World) (m : Mem) (F : List Asr) (ob0 : Nat) (ob1 : Nat) (ob2 : Nat) (r : SParser × GQuery) (v : Value) (w' : World) : Prop := ∃ (m' : Mem) (A6 : Option Addr) (c6 : Nat) (cs6 : List Value) (A7 : Option Addr) (c7 : Nat) (cs7 : List Value) (A8 : Option Addr) (c8 : Nat) (cs8 : List Value) (A9 : Option Addr) (c9 : Nat) (cs9 : List Value) (A10 : Option Addr) (c10 : Nat) (cs10 : List Value) (A11 : Option Addr) (c11 : Nat) (cs11 : List Value), v = vt [] ∧ m.le m' ∧ St g m' (oo ob0 155 (cSParser r.1) :: oo ob1 36 (cGQuery r.2 (vs A6 r.2.Variables c6) (vs A7 r.2.Relations c7) (vs A8 r.2.Absences c8) (vs A9 r.2.Group c9) (vs A10 r.2.Compute c10) (vs A11 r.2.Order c11)) :: rw_ 95 8 A6 r.2.Variables c6 cs6 :: rw_ 104 3 A7 r.2.Relations c7 cs7 :: rw_ 106 11 A8 r.2.Absences c8 cs8 :: rw_ 101 3 A9 r.2.Group c9 cs9 :: rw_ 110 6 A10 r.2.Compute c10 cs10 :: rw_ 112 2 A11 r.2.Order c11 cs11 :: oo ob2 86 [vp ob0 0] :: F) w' ∧ RC (TGVariable) m' r.2.Variables cs6 ∧ RC (TGRelation) m' r.2.Relations cs7 ∧ RC (TGAbsence) m' r.2.Absences cs8 ∧ RC (TGColumn) m' r.2.Group cs9 ∧ RC (TGAggregate) m' r.2.Compute cs10 ∧ RC (TGOrderKey) m' r.2.Order cs11
theorem c_parser_list {k : Nat} {a0 : SParser} {a1 : GQuery} {r : Except Pan (SParser × GQuery)} {g : World} {m : Mem} {F : List Asr} {w : World} {ob0 : Nat} {ob1 : Nat} {ob2 : Nat} {A6_ : Option Addr} {c6_ : Nat} {cs6_ : List Value} {A7_ : Option Addr} {c7_ : Nat} {cs7_ : List Value} {A8_ : Option Addr} {c8_ : Nat} {cs8_ : List Value} {A9_ : Option Addr} {c9_ : Nat} {cs9_ : List Value} {A10_ : Option Addr} {c10_ : Nat} {cs10_ : List Value} {A11_ : Option Addr} {c11_ : Nat} {cs11_ : List Value} (h : parser_list k a0 a1 = some r) (hst : St g m (oo ob0 155 (cSParser a0) :: oo ob1 36 (cGQuery a1 (vs A6_ a1.Variables c6_) (vs A7_ a1.Relations c7_) (vs A8_ a1.Absences c8_) (vs A9_ a1.Group c9_) (vs A10_ a1.Compute c10_) (vs A11_ a1.Order c11_)) :: rw_ 95 8 A6_ a1.Variables c6_ cs6_ :: rw_ 104 3 A7_ a1.Relations c7_ cs7_ :: rw_ 106 11 A8_ a1.Absences c8_ cs8_ :: rw_ 101 3 A9_ a1.Group c9_ cs9_ :: rw_ 110 6 A10_ a1.Compute c10_ cs10_ :: rw_ 112 2 A11_ a1.Order c11_ cs11_ :: oo ob2 86 [vp ob0 0] :: F) w) (hrc6_ : RC (TGVariable) m a1.Variables cs6_) (hrc7_ : RC (TGRelation) m a1.Relations cs7_) (hrc8_ : RC (TGAbsence) m a1.Absences cs8_) (hrc9_ : RC (TGColumn) m a1.Group cs9_) (hrc10_ : RC (TGAggregate) m a1.Compute cs10_) (hrc11_ : RC (TGOrderKey) m a1.Order cs11_) (hG : Glob m) :
    Calls Tryz.prog 105 ⟨[vp ob0 0, vf 106 [] [vp ob1 0, vp ob2 0]]⟩ w (XPost (R_parser_list g m F ob0 ob1 ob2) g m (oo ob2 86 [vp ob0 0] :: F) r) := by
 refine calls_enter Tryz.func105 rfl rfl ?_
 unfold parser_list at h
 refine qr (s0 1 [(4, vf 106 [] [vp ob1 0, vp ob2 0])] ?_)
 have hst := pk12 hst
 rcases xbind_some h with ⟨p5, hq2, rfl⟩ | ⟨r1, hq2, h⟩
 ·exact cpa (c_parser_query_c1 hq2 hst hrc6_ hrc7_ hrc8_ hrc9_ hrc10_ hrc11_ hG) (fun _ _ hp => ⟨rfl, _, rfl, hp.p (Mem.le.refl _) 8 [7]⟩)
 refine cal (c_parser_query_c1 hq2 hst hrc6_ hrc7_ hrc8_ hrc9_ hrc10_ hrc11_ hG) ?_
 rintro _ _ ⟨m3, A12, c13, cs14, A16, c17, cs18, A20, c21, cs22, A24, c25, cs26, A28, c29, cs30, A32, c33, cs34, rfl, hl4, hst, hrc15, hrc19, hrc23, hrc27, hrc31, hrc35⟩
 refine nl (tn (bk (wc_loop (fun kk a w => ∃ (f0 : Fr) (m239 : Mem) (x116 : List GVariable) (A117 : Option Addr) (c118 : Nat) (cs119 : List Value) (x121 : List GRelation) (A122 : Option Addr) (c123 : Nat) (cs124 : List Value) (x126 : List GAbsence) (A127 : Option Addr) (c128 : Nat) (cs129 : List Value) (x131 : List GColumn) (A132 : Option Addr) (c133 : Nat) (cs134 : List Value) (x136 : List GAggregate) (A137 : Option Addr) (c138 : Nat) (cs139 : List Value) (x141 : List GOrderKey) (A142 : Option Addr) (c143 : Nat) (cs144 : List Value) (x146 : Int) (x147 : Int) (x148 : Int) (x149 : Str) (x150 : Int) (x151 : Int) (x152 : Int) (x153 : Str) (x154 : Int), a = act Tryz.f105.ntmps (upds f0 [(0, vp ob0 0), (1, vf 106 [] [vp ob1 0, vp ob2 0])]) ∧ kk ≤ k ∧ parser_list_l1 kk x116 x121 x126 x131 x136 x141 x146 x147 x148 x149 x150 x151 x152 x153 x154 = some r ∧ m3.le m239 ∧ St g m239 (oo ob1 36 [vs A117 x116 c118, vs A122 x121 c123, vs A127 x126 c128, vi x146, vi x147, vs A132 x131 c133, vs A137 x136 c138, vs A142 x141 c143, vi x148] :: rw_ 95 8 A117 x116 c118 cs119 :: rw_ 104 3 A122 x121 c123 cs124 :: rw_ 106 11 A127 x126 c128 cs129 :: rw_ 101 3 A132 x131 c133 cs134 :: rw_ 110 6 A137 x136 c138 cs139 :: rw_ 112 2 A142 x141 c143 cs144 :: oo ob2 86 [vp ob0 0] :: oo ob0 155 [vstr x149, vi x150, vi x151, vi x152, vstr x153, vi x154] :: F) w ∧ RC (TGVariable) m239 x116 cs119 ∧ RC (TGRelation) m239 x121 cs124 ∧ RC (TGAbsence) m239 x126 cs129 ∧ RC (TGColumn) m239 x131 cs134 ∧ RC (TGAggregate) m239 x136 cs139 ∧ RC (TGOrderKey) m239 x141 cs144) k ?_ ?_)))
 ·exact ⟨_, m3, (r1.1.Variables), A12, c13, cs14, (r1.1.Relations), A16, c17, cs18, (r1.1.Absences), A20, c21, cs22, (r1.1.Group), A24, c25, cs26, (r1.1.Compute), A28, c29, cs30, (r1.1.Order), A32, c33, cs34, (r1.1.Slots.From), (r1.1.Slots.To), (r1.1.Limit), (r1.2.x_.s_), (r1.2.x_.at_), (r1.2.t_.kind), (r1.2.t_.at_), (r1.2.t_.s_), (r1.2.t_.n_), (act_upds ⟨by kernel_rfl, by kernel_rfl, trivial⟩), (Nat.le_refl _), h, (Mem.le.refl _), hst, hrc15, hrc19, hrc23, hrc27, hrc31, hrc35⟩
 rintro k237 ih238 _ _ ⟨f0, m239, x116, A117, c118, cs119, x121, A122, c123, cs124, x126, A127, c128, cs129, x131, A132, c133, cs134, x136, A137, c138, cs139, x141, A142, c143, cs144, x146, x147, x148, x149, x150, x151, x152, x153, x154, rfl, hk236, h, hl235, hst, hrc120, hrc125, hrc130, hrc135, hrc140, hrc145⟩
 obtain _ | k241 := k237
 ·simp [parser_list_l1] at h
 rw [parser_list_l1] at h
 refine sq (qr (s0 1 [(6, vp ob0 0)] ?_))
 have hst := pk11 hst
 rcases xbind_some h with ⟨p246, hq243, rfl⟩ | ⟨r242, hq243, h⟩
 ·have e247 := hl4.trans hl235
  exact cpa (c_parser_takes hq243 hst) (fun _ _ hp => ⟨rfl, _, rfl, hp.p e247 8 [7]⟩)
 refine cal (c_parser_takes hq243 hst) ?_
 rintro _ _ ⟨m244, rfl, hl245, hst⟩
 refine nl (tn (cn h (fun h => ?_) (fun h => ?_)))
 ·refine wp_skip (tn (bk (rg (s0 1 [(8, vf 106 [] [vp ob1 0, vp ob2 0])] ?_))))
  have hst := pk12 hst
  have e252 := hl4.trans (hl235.trans hl245)
  rcases xbind_some h with ⟨p253, hq249, rfl⟩ | ⟨r248, hq249, h⟩
  ·exact cpa (c_parser_query_c1 hq249 hst (RC.mono hl245 hrc120) (RC.mono hl245 hrc125) (RC.mono hl245 hrc130) (RC.mono hl245 hrc135) (RC.mono hl245 hrc140) (RC.mono hl245 hrc145) (Glob.mono e252 hG)) (fun _ _ hp => ⟨rfl, _, rfl, hp.p e252 8 [7]⟩)
  refine cal (c_parser_query_c1 hq249 hst (RC.mono hl245 hrc120) (RC.mono hl245 hrc125) (RC.mono hl245 hrc130) (RC.mono hl245 hrc135) (RC.mono hl245 hrc140) (RC.mono hl245 hrc145) (Glob.mono e252 hG)) ?_
  rintro _ _ ⟨m250, A260, c261, cs262, A264, c265, cs266, A268, c269, cs270, A272, c273, cs274, A276, c277, cs278, A280, c281, cs282, rfl, hl251, hst, hrc263, hrc267, hrc271, hrc275, hrc279, hrc283⟩
  refine nl (bn (tn ?_))
  have e284 := hl235.trans (hl245.trans hl251)
  exact ih238 k241 (by omega) _ _ ⟨_, m250, (r248.1.Variables), A260, c261, cs262, (r248.1.Relations), A264, c265, cs266, (r248.1.Absences), A268, c269, cs270, (r248.1.Group), A272, c273, cs274, (r248.1.Compute), A276, c277, cs278, (r248.1.Order), A280, c281, cs282, (r248.1.Slots.From), (r248.1.Slots.To), (r248.1.Limit), (r248.2.x_.s_), (r248.2.x_.at_), (r248.2.t_.kind), (r248.2.t_.at_), (r248.2.t_.s_), (r248.2.t_.n_), (act_upds ⟨by kernel_rfl, by kernel_rfl, trivial⟩), (by omega), h, e284, hst, hrc263, hrc267, hrc271, hrc275, hrc279, hrc283⟩
 refine wp_exit (tx (tx (bx (we [] ?_))))
 have e285 := hl4.trans (hl235.trans hl245)
 cases h
 exact ⟨_, rfl, m244, A117, c118, cs119, A122, c123, cs124, A127, c128, cs129, A132, c133, cs134, A137, c138, cs139, A142, c143, cs144, rfl, e285, hst, (RC.mono hl245 hrc120), (RC.mono hl245 hrc125), (RC.mono hl245 hrc130), (RC.mono hl245 hrc135), (RC.mono hl245 hrc140), (RC.mono hl245 hrc145)⟩

def R_slices_Index_string (g : World) (m : Mem) (F : List Asr) (r : Int) (v : Value) (w' : World) : Prop := ∃ (m' : Mem), v = vi r ∧ m.le m' ∧ St g m' (F) w'
theorem c_slices_Index_string {k : Nat} {a0 : List Str} {a1 : Str} {r : Int} {g : World} {m : Mem} {F : List Asr} {w : World} {u0 : Value} (h : slices_Index_string k a0 a1 = some r) (hst : St g m (F) w) (hu0 : RS (TStr) m u0 a0) :
    Calls Tryz.prog 162 ⟨[u0, vstr a1]⟩ w (OPost (R_slices_Index_string g m F) r) := by
 refine calls_enter Tryz.func162 rfl rfl ?_
 unfold slices_Index_string at h
 obtain ⟨A1, c2, rfl⟩ := hu0.shape
 refine qr (s0 1 [(4, vi 0)] (nl (tn (sq (qr (s0 3 [(6, vs A1 a0 c2), (7, vi ((a0).length : Int)), (8, vi 0)] (nl (tn (bk (wc_loop (fun kk a w => ∃ (f0 : Fr) (m28 : Mem) (x13 : Int), a = act Tryz.f162.ntmps (upds f0 [(0, vs A1 a0 c2), (1, vstr a1), (4, vi 0), (7, vi ((a0).length : Int)), (8, vi x13)]) ∧ kk ≤ k ∧ slices_Index_string_l1 kk a0 a1 x13 = some r ∧ m.le m28 ∧ St g m28 (F) w) k ?_ ?_))))))))))
 ·exact ⟨_, m, (0), (act_upds ⟨by kernel_rfl, by kernel_rfl, by kernel_rfl, by kernel_rfl, by kernel_rfl, trivial⟩), (Nat.le_refl _), h, (Mem.le.refl _), hst⟩
 rintro k26 ih27 _ _ ⟨f0, m28, x13, rfl, hk25, h, hl24, hst⟩
 obtain _ | k30 := k26
 ·simp [slices_Index_string_l1] at h
 rw [slices_Index_string_l1] at h
 refine qr (s0 1 [(9, vb (decide (x13 < ((a0).length : Int))))] (nl (tn (sq (cn h (fun h => ?_) (fun h => ?_))))))
 ·refine wp_skip (tn (sq (bk (qr (s0 2 [(10, vi x13), (5, vi x13)] (nl (tn (qr (s0 3 [(11, vstr a1), (12, vs A1 a0 c2), (13, vi x13)] ?_)))))))))
  obtain ⟨x32, hx33, h⟩ := ix h
  obtain ⟨b34, o35, cs36, hR37, hA38, hI39⟩ := RS.ix (P := Tryz.prog) (RS.mono hl24 hu0) hx33
  obtain rfl : cs36 = [vstr x32] := hR37
  refine vl (hI39.r .i64) (sg 1 [(15, vstr x32)] [(ad b34 o35, vstr x32)] ⟨hst.e hA38 0, trivial⟩ (vl (re a1 x32) (nl (tn (cn h (fun h => ?_) (fun h => ?_))))))
  ·refine qr (s0 2 [(17, vi x13), (4, vi x13)] (nl (tn (wp_ret (br (tr (tr (br (tr (wr [vi x13] ?_))))))))))
   have h := Option.some.inj h; subst h
   exact ⟨_, rfl, m28, rfl, hl24, hst⟩
  refine wp_skip (bn (tn (rg (s0 2 [(18, vi (w64 (x13 + 1))), (8, vi (w64 (x13 + 1)))] (nl (tn ?_))))))
  exact ih27 k30 (by omega) _ _ ⟨_, m28, (w64 (x13 + 1)), (act_upds ⟨by kernel_rfl, by kernel_rfl, by kernel_rfl, by kernel_rfl, by kernel_rfl, trivial⟩), (by omega), h, hl24, hst⟩
 refine wp_exit (tx (tx (bx (tn (qr (s0 1 [(4, vi (-1))] (nl (tn (wp_ret (wr [vi (-1)] ?_))))))))))
 cases h
 exact ⟨_, rfl, m28, rfl, hl24, hst⟩

def R_slices_Contains_string (g : World) (m : Mem) (F : List Asr) (r : Bool) (v : Value) (w' : World) : Prop := ∃ (m' : Mem), v = vb r ∧ m.le m' ∧ St g m' (F) w'
theorem c_slices_Contains_string {k : Nat} {a0 : List Str} {a1 : Str} {r : Bool} {g : World} {m : Mem} {F : List Asr} {w : World} {u0 : Value} (h : slices_Contains_string k a0 a1 = some r) (hst : St g m (F) w) (hu0 : RS (TStr) m u0 a0) :
    Calls Tryz.prog 161 ⟨[u0, vstr a1]⟩ w (OPost (R_slices_Contains_string g m F) r) := by
 refine calls_enter Tryz.func161 rfl rfl ?_
 unfold slices_Contains_string at h
 obtain ⟨A1, c2, rfl⟩ := hu0.shape
 refine qr (s0 1 [(4, vb false)] (nl (tn (qr (s0 2 [(5, vs A1 a0 c2), (6, vstr a1)] ?_)))))
 obtain ⟨r3, hq4, h⟩ := bs h
 refine cal (c_slices_Index_string hq4 hst hu0) ?_
 rintro _ _ ⟨m5, rfl, hl6, hst⟩
 refine s0 2 [(8, vb (decide (r3 ≥ 0))), (4, vb (decide (r3 ≥ 0)))] (nl (tn (wp_ret (wr [vb (decide (r3 ≥ 0))] ?_))))
 cases h
 exact ⟨_, rfl, m5, rfl, hl6, hst⟩

def R_parser_relation_c1 (g : World) (m : Mem) (F : List Asr) (r : Bool) (v : Value) (w' : World) : Prop := ∃ (m' : Mem), v = vb r ∧ m.le m' ∧ St g m' (F) w'
theorem c_parser_relation_c1 {k : Nat} {a0 : Str} {r : Bool} {g : World} {m : Mem} {F : List Asr} {w : World} (h : parser_relation_c1 k a0 = some r) (hst : St g m (F) w) (hG : Glob m) :
    Calls Tryz.prog 176 ⟨[vstr a0]⟩ w (OPost (R_parser_relation_c1 g m F) r) := by
 refine calls_enter Tryz.func176 rfl rfl ?_
 unfold parser_relation_c1 at h
 refine qr (s0 1 [(2, vb false)] (nl (tn (qr ?_))))
 obtain ⟨v1, hA2, hv3⟩ := hG.r
 obtain ⟨A4, c5, rfl⟩ := hv3.shape
 refine sg 1 [(3, vs A4 namesR c5)] [(ad 0 0, vs A4 namesR c5)] ⟨hst.e hA2 0, trivial⟩ ?_
 obtain ⟨hb6, h⟩ := chk_some h
 obtain ⟨A7, c8, hs9, hI10⟩ := RS.sub (P := Tryz.prog) hv3 hb6
 refine vl (hI10.r .i64) (s0 1 [(5, vstr a0)] ?_)
 obtain ⟨r11, hq12, h⟩ := bs h
 refine cal (c_slices_Contains_string hq12 hst hs9) ?_
 rintro _ _ ⟨m13, rfl, hl14, hst⟩
 refine s0 1 [(2, vb r11)] (nl (tn (wp_ret (wr [vb r11] ?_))))
 have h := Option.some.inj h; subst h
 exact ⟨_, rfl, m13, rfl, hl14, hst⟩

def R_parser_name_i2 (g : World) (m : Mem) (F : List Asr) (ob0 : Nat) (r : SParser × Str) (v : Value) (w' : World) : Prop := ∃ (m' : Mem), v = vstr r.2 ∧ m.le m' ∧ St g m' (oo ob0 155 (cSParser r.1) :: F) w'
theorem c_parser_name_i2 {k : Nat} {a0 : SParser} {r : Except Pan (SParser × Str)} {g : World} {m : Mem} {F : List Asr} {w : World} {ob0 : Nat} (h : parser_name_i2 k a0 = some r) (hst : St g m (oo ob0 155 (cSParser a0) :: F) w) (hG : Glob m) :
    Calls Tryz.prog 156 ⟨[vp ob0 0, vf 176 [] []]⟩ w (XPost (R_parser_name_i2 g m F ob0) g m F r) := by
 refine calls_enter Tryz.func156 rfl rfl ?_
 unfold parser_name_i2 at h
 refine qr (s0 1 [(4, vstr w_0)] (nl (tn (sq (wc_join (fun a w => ∃ (f0 : Fr) (k23 : Nat) (m25 : Mem) (x21 : Bool), a = act Tryz.f156.ntmps (upds f0 [(0, vp ob0 0), (4, vstr w_0), (21, vb x21)]) ∧ k23 ≤ k ∧ parser_name_i2_j1 k23 a0 x21 = some r ∧ m.le m25 ∧ St g m25 (oo ob0 155 (cSParser a0) :: F) w) ?_ ?_)))))
 ·rintro _ _ ⟨f0, k23, m25, x21, rfl, hk24, h, hl22, hst⟩
  unfold parser_name_i2_j1 at h
  refine cn h (fun h => ?_) (fun h => ?_)
  ·refine rg (s0 1 [(22, vp ob0 0)] ?_)
   rcases xbind_some h with ⟨p30, hq27, rfl⟩ | ⟨r26, hq27, h⟩
   ·exact cpa (c_parser_wrong hq27 hst) (fun _ _ hp => ⟨rfl, _, rfl, hp.p hl22 1 []⟩)
   cases h
  refine wp_skip (tn (qr (sg 6 [(24, vp ob0 0), (25, vp ob0 0), (26, vp ob0 2), (27, vp ob0 4), (28, vstr a0.t_.s_), (5, vstr a0.t_.s_)] [(ad ob0 4, vstr a0.t_.s_)] ⟨hst.c 0, trivial⟩ (nl (tn (qr (s0 1 [(29, vp ob0 0)] ?_)))))))
  rcases xbind_some h with ⟨p35, hq32, rfl⟩ | ⟨r31, hq32, h⟩
  ·exact cpa (c_parser_advance hq32 hst) (fun _ _ hp => ⟨rfl, _, rfl, hp.p hl22 0 []⟩)
  refine cal (c_parser_advance hq32 hst) ?_
  rintro _ _ ⟨m33, rfl, hl34, hst⟩
  refine nl (tn (qr (s0 2 [(31, vstr a0.t_.s_), (4, vstr a0.t_.s_)] (nl (tn (wp_ret (wr [vstr a0.t_.s_] ?_)))))))
  have e36 := hl22.trans hl34
  cases h
  exact ⟨_, rfl, m33, rfl, e36, hst⟩
 refine rg (sg 7 [(6, vp ob0 0), (7, vp ob0 0), (8, vp ob0 2), (9, vp ob0 2), (10, vi a0.t_.kind), (11, vb (a0.t_.kind != 1)), (12, vb (a0.t_.kind != 1))] [(ad ob0 2, vi a0.t_.kind)] ⟨hst.c 0, trivial⟩ ?_)
 rcases sp h with ⟨hc37, h⟩ | ⟨hc37, h⟩
 ·rw [hc37]
  refine s0 9 [(13, undef), (14, undef), (15, undef), (16, undef), (17, undef), (18, undef), (19, undef), (20, undef), (21, vb true)] (nl (tn ?_))
  exact ⟨_, k, m, (true), (act_upds ⟨by kernel_rfl, by kernel_rfl, by kernel_rfl, trivial⟩), (by omega), h, (Mem.le.refl _), hst⟩
 rw [hc37]
 refine sg 6 [(13, vf 176 [] []), (14, vp ob0 0), (15, vp ob0 0), (16, vp ob0 2), (17, vp ob0 4), (18, vstr a0.t_.s_)] [(ad ob0 4, vstr a0.t_.s_)] ⟨hst.c 0, trivial⟩ ?_
 obtain ⟨r38, hq39, h⟩ := bs h
 refine cal (c_parser_relation_c1 hq39 hst hG) ?_
 rintro _ _ ⟨m40, rfl, hl41, hst⟩
 refine s0 2 [(20, vb (!r38)), (21, vb (!r38))] (nl (tn ?_))
 exact ⟨_, k, m40, (!r38), (act_upds ⟨by kernel_rfl, by kernel_rfl, by kernel_rfl, trivial⟩), (by omega), h, hl41, hst⟩

def R_parser_relation (g : World) (m : Mem) (F : List Asr) (ob0 : Nat) (r : SParser × Int) (v : Value) (w' : World) : Prop := ∃ (m' : Mem), v = vi r.2 ∧ m.le m' ∧ St g m' (oo ob0 155 (cSParser r.1) :: F) w'
theorem c_parser_relation {k : Nat} {a0 : SParser} {r : Except Pan (SParser × Int)} {g : World} {m : Mem} {F : List Asr} {w : World} {ob0 : Nat} (h : parser_relation k a0 = some r) (hst : St g m (oo ob0 155 (cSParser a0) :: F) w) (hG : Glob m) :
    Calls Tryz.prog 158 ⟨[vp ob0 0]⟩ w (XPost (R_parser_relation g m F ob0) g m F r) := by
 refine calls_enter Tryz.func158 rfl rfl ?_
 unfold parser_relation at h
 refine qr (s0 1 [(2, vi 0)] (nl (tn (qr (s0 1 [(4, vp ob0 0)] ?_)))))
 rcases xbind_some h with ⟨p5, hq2, rfl⟩ | ⟨r1, hq2, h⟩
 ·exact cpa (c_parser_name_i2 hq2 hst hG) (fun _ _ hp => ⟨rfl, _, rfl, hp.p (Mem.le.refl _) 0 []⟩)
 refine cal (c_parser_name_i2 hq2 hst hG) ?_
 rintro _ _ ⟨m3, rfl, hl4, hst⟩
 refine s0 1 [(3, vstr r1.2)] (nl (tn (qr ?_)))
 obtain ⟨v6, hA7, hv8⟩ := (Glob.mono hl4 hG).r
 obtain ⟨A9, c10, rfl⟩ := hv8.shape
 refine sg 2 [(6, vs A9 namesR c10), (7, vstr r1.2)] [(ad 0 0, vs A9 namesR c10)] ⟨hst.e hA7 0, trivial⟩ ?_
 obtain ⟨r11, hq12, h⟩ := bs h
 refine cal (c_slices_Index_string hq12 hst hv8) ?_
 rintro _ _ ⟨m13, rfl, hl14, hst⟩
 refine s0 1 [(2, vi r11)] (nl (tn (wp_ret (wr [vi r11] ?_))))
 have e15 := hl4.trans hl14
 cases h
 exact ⟨_, rfl, m13, rfl, e15, hst⟩

def R_parser_clause (g : World) (m : Mem) (F : List Asr) (ob0 : Nat) (ob1 : Nat) (r : SParser × GQuery) (v : Value) (w' : World) : Prop := ∃ (m' : Mem) (A6 : Option Addr) (c6 : Nat) (cs6 : List Value) (A7 : Option Addr) (c7 : Nat) (cs7 : List Value) (A8 : Option Addr) (c8 : Nat) (cs8 : List Value) (A9 : Option Addr) (c9 : Nat) (cs9 : List Value) (A10 : Option Addr) (c10 : Nat) (cs10 : List Value) (A11 : Option Addr) (c11 : Nat) (cs11 : List Value), v = vt [] ∧ m.le m' ∧ St g m' (oo ob0 155 (cSParser r.1) :: oo ob1 36 (cGQuery r.2 (vs A6 r.2.Variables c6) (vs A7 r.2.Relations c7) (vs A8 r.2.Absences c8) (vs A9 r.2.Group c9) (vs A10 r.2.Compute c10) (vs A11 r.2.Order c11)) :: rw_ 95 8 A6 r.2.Variables c6 cs6 :: rw_ 104 3 A7 r.2.Relations c7 cs7 :: rw_ 106 11 A8 r.2.Absences c8 cs8 :: rw_ 101 3 A9 r.2.Group c9 cs9 :: rw_ 110 6 A10 r.2.Compute c10 cs10 :: rw_ 112 2 A11 r.2.Order c11 cs11 :: F) w' ∧ RC (TGVariable) m' r.2.Variables cs6 ∧ RC (TGRelation) m' r.2.Relations cs7 ∧ RC (TGAbsence) m' r.2.Absences cs8 ∧ RC (TGColumn) m' r.2.Group cs9 ∧ RC (TGAggregate) m' r.2.Compute cs10 ∧ RC (TGOrderKey) m' r.2.Order cs11
theorem c_parser_clause {k : Nat} {a0 : SParser} {a1 : GQuery} {r : Except Pan (SParser × GQuery)} {g : World} {m : Mem} {F : List Asr} {w : World} {ob0 : Nat} {ob1 : Nat} {A6_ : Option Addr} {c6_ : Nat} {cs6_ : List Value} {A7_ : Option Addr} {c7_ : Nat} {cs7_ : List Value} {A8_ : Option Addr} {c8_ : Nat} {cs8_ : List Value} {A9_ : Option Addr} {c9_ : Nat} {cs9_ : List Value} {A10_ : Option Addr} {c10_ : Nat} {cs10_ : List Value} {A11_ : Option Addr} {c11_ : Nat} {cs11_ : List Value} (h : parser_clause k a0 a1 = some r) (hst : St g m (oo ob0 155 (cSParser a0) :: oo ob1 36 (cGQuery a1 (vs A6_ a1.Variables c6_) (vs A7_ a1.Relations c7_) (vs A8_ a1.Absences c8_) (vs A9_ a1.Group c9_) (vs A10_ a1.Compute c10_) (vs A11_ a1.Order c11_)) :: rw_ 95 8 A6_ a1.Variables c6_ cs6_ :: rw_ 104 3 A7_ a1.Relations c7_ cs7_ :: rw_ 106 11 A8_ a1.Absences c8_ cs8_ :: rw_ 101 3 A9_ a1.Group c9_ cs9_ :: rw_ 110 6 A10_ a1.Compute c10_ cs10_ :: rw_ 112 2 A11_ a1.Order c11_ cs11_ :: F) w) (hrc6_ : RC (TGVariable) m a1.Variables cs6_) (hrc7_ : RC (TGRelation) m a1.Relations cs7_) (hrc8_ : RC (TGAbsence) m a1.Absences cs8_) (hrc9_ : RC (TGColumn) m a1.Group cs9_) (hrc10_ : RC (TGAggregate) m a1.Compute cs10_) (hrc11_ : RC (TGOrderKey) m a1.Order cs11_) (hG : Glob m) :
    Calls Tryz.prog 110 ⟨[vp ob0 0, vp ob1 0]⟩ w (XPost (R_parser_clause g m F ob0 ob1) g m (oo ob1 36 (cGQuery a1 (vs A6_ a1.Variables c6_) (vs A7_ a1.Relations c7_) (vs A8_ a1.Absences c8_) (vs A9_ a1.Group c9_) (vs A10_ a1.Compute c10_) (vs A11_ a1.Order c11_)) :: rw_ 95 8 A6_ a1.Variables c6_ cs6_ :: rw_ 104 3 A7_ a1.Relations c7_ cs7_ :: rw_ 106 11 A8_ a1.Absences c8_ cs8_ :: rw_ 101 3 A9_ a1.Group c9_ cs9_ :: rw_ 110 6 A10_ a1.Compute c10_ cs10_ :: rw_ 112 2 A11_ a1.Order c11_ cs11_ :: F) r) := by
 refine calls_enter Tryz.func110 rfl rfl ?_
 unfold parser_clause at h
 refine sq (qr (s0 1 [(8, vp ob0 0)] ?_))
 rcases xbind_some h with ⟨p53, hq50, rfl⟩ | ⟨r49, hq50, h⟩
 ·exact cpa (c_parser_takes hq50 hst) (fun _ _ hp => ⟨rfl, _, rfl, hp.p (Mem.le.refl _) 7 [0, 0, 0, 0, 0, 0, 0]⟩)
 refine cal (c_parser_takes hq50 hst) ?_
 rintro _ _ ⟨m51, rfl, hl52, hst⟩
 refine nl (tn (cn h (fun h => ?_) (fun h => ?_)))
 ·refine qr (s0 1 [(10, vp ob0 0)] ?_)
  rcases xbind_some h with ⟨p58, hq55, rfl⟩ | ⟨r54, hq55, h⟩
  ·exact cpa (c_parser_variable hq55 hst (Glob.mono hl52 hG)) (fun _ _ hp => ⟨rfl, _, rfl, hp.p hl52 7 [0, 0, 0, 0, 0, 0, 0]⟩)
  refine cal (c_parser_variable hq55 hst (Glob.mono hl52 hG)) ?_
  rintro _ _ ⟨m56, v59, rfl, hl57, hst, hv59⟩
  obtain ⟨A60, c61, rfl⟩ := hv59.shape
  refine al [vstr w_0, vi 0, vstr w_0, vstr w_0, vi 0, vstr w_0, vi 0, vn] hst (fun b62 _ hst => ?_)
  refine so0 0 (cGVariable r54.2 (vs A60 r54.2.Where.Args c61)) (cGVariable r54.2 (vs A60 r54.2.Where.Args c61)) hst (fun _ hst => ?_)
  refine nl (tn (qr (s0 1 [(12, vp ob0 0)] ?_)))
  have hst := pk1 hst
  have e67 := hl52.trans hl57
  rcases xbind_some h with ⟨p68, hq64, rfl⟩ | ⟨r63, hq64, h⟩
  ·exact cpa (c_parser_relation hq64 hst (Glob.mono e67 hG)) (fun _ _ hp => ⟨rfl, _, rfl, hp.p e67 8 [1, 1, 1, 1, 1, 1, 1]⟩)
  refine cal (c_parser_relation hq64 hst (Glob.mono e67 hG)) ?_
  rintro _ _ ⟨m65, rfl, hl66, hst⟩
  refine s0 1 [(5, vi r63.2)] (nl (tn (sq (wc_draw false (fun x => Rd m65 (oo ob1 36 (cGQuery a1 (vs A6_ a1.Variables c6_) (vs A7_ a1.Relations c7_) (vs A8_ a1.Absences c8_) (vs A9_ a1.Group c9_) (vs A10_ a1.Compute c10_) (vs A11_ a1.Order c11_)) :: oo b62 95 (cGVariable r54.2 (vs A60 r54.2.Where.Args c61)) :: []) x) (by kernel_rfl) ?_))))
  have hst := hst.drew
  refine wpG_seg [0, 1, 5, 6, 7, 2, 3, 4] [(14, vp ob1 0), (15, vp ob1 0), (19, va (cGVariable r54.2 (vs A60 r54.2.Where.Args c61))), (20, vi r63.2), (21, vp ob0 0), (16, vp ob1 0), (17, vp ob1 2), (18, vs A8_ a1.Absences c8_)] [(ad b62 0, vstr r54.2.Name), (ad b62 1, vi r54.2.Where.Op), (ad b62 2, vstr r54.2.Where.Field), (ad b62 3, vstr r54.2.Where.Key), (ad b62 4, vi r54.2.Where.Value.Kind), (ad b62 5, vstr r54.2.Where.Value.Text), (ad b62 6, vi r54.2.Where.Value.Int), (ad b62 7, vs A60 r54.2.Where.Args c61), (ad ob1 2, vs A8_ a1.Absences c8_)] #[true, true, true, true, true, true, true, true, false, false, false, false, false, false, false] (fuel := 7) (PQ.then_ (PQ.then_ PQ.body)) (by kernel_rfl) (by kernel_rfl) (hst.rd.with_ 2 rfl (hst.rd.with_ 1 rfl (hst.rd.none_))) (fun x hx => ⟨hx.c 1, hx.c 1, hx.c 1, hx.c 1, hx.c 1, hx.c 1, hx.c 1, hx.c 1, hx.c 0, trivial⟩) ?_
  refine wpG_exec 8 (by kernel_rfl) rfl ?_
  have e87 := e67.trans hl66
  rcases xbind_some h with ⟨p88, hq84, rfl⟩ | ⟨r83, hq84, h⟩
  ·exact cpa (c_parser_name hq84 hst (Glob.mono e87 hG)) (fun _ _ hp => ⟨rfl, _, rfl, hp.p e87 8 [1, 1, 1, 1, 1, 1, 1]⟩)
  refine cal (c_parser_name hq84 hst (Glob.mono e87 hG)) ?_
  rintro _ _ ⟨m85, rfl, hl86, hst⟩
  refine nl (tn (⟨_, fun _ h => h, .inr (Rd.lower hl86 (hst.rd.with_ 2 rfl (hst.rd.with_ 1 rfl (hst.rd.none_)))), ?_⟩))
  refine wpG_strong (S2 := fun x => Rd m85 (oo ob1 36 (cGQuery a1 (vs A6_ a1.Variables c6_) (vs A7_ a1.Relations c7_) (vs A8_ a1.Absences c8_) (vs A9_ a1.Group c9_) (vs A10_ a1.Compute c10_) (vs A11_ a1.Order c11_)) :: oo b62 95 (cGVariable r54.2 (vs A60 r54.2.Where.Args c61)) :: []) x) (fun x hx => Rd.lower hl86 hx) ?_
  refine wpG_seg [9] [(23, va [vstr r54.2.Name, vi r54.2.Where.Op, vstr r54.2.Where.Field, vstr r54.2.Where.Key, vi r54.2.Where.Value.Kind, vstr r54.2.Where.Value.Text, vi r54.2.Where.Value.Int, vs A60 r54.2.Where.Args c61, vi r63.2, vstr r83.2, vb true])] [] #[true, true, true, true, true, true, true, true, true, true, false, false, false, false, false] (fuel := 5) (PQ.then_ (PQ.then_ PQ.body)) (by kernel_rfl) (by kernel_rfl) (hst.rd.with_ 2 rfl (hst.rd.with_ 1 rfl (hst.rd.none_))) (fun x hx => trivial) ?_
  refine wpG_exec 10 (by kernel_rfl) rfl (li 106 1 [vstr r54.2.Name, vi r54.2.Where.Op, vstr r54.2.Where.Field, vstr r54.2.Where.Key, vi r54.2.Where.Value.Kind, vstr r54.2.Where.Value.Text, vi r54.2.Where.Value.Int, vs A60 r54.2.Where.Args c61, vi r63.2, vstr r83.2, vb true] hst (fun b89 _ hst => ?_))
  refine nl (tn (⟨_, fun _ h => h, .inr (hst.rd.with_ 3 rfl (hst.rd.with_ 2 rfl (hst.rd.none_))), ?_⟩))
  refine wpG_exec 11 (by kernel_rfl) rfl ?_
  obtain ⟨hb90, h⟩ := chk_some h
  have e95 := e87.trans hl86
  have e96 := hl66.trans hl86
  refine ap6 (TGAbsence) (xs := a1.Absences) (ys := [(GAbsence.mk r54.2 r63.2 r83.2 true)]) 144 1 0 hst (RC.mono e95 hrc8_) (RC.k11 (TGAbsence.close_ (GAbsence.mk r54.2 r63.2 r83.2 true) (RS.mono e96 hv59)) (RC.nil _ _)) hb90 (fun A91 c92 cs93 _ hrc94 hst => ?_)
  have hst := pk0 hst
  refine nl (tn (⟨_, fun _ h => h, .inr (hst.rd.with_ 2 rfl (hst.rd.with_ 1 rfl (hst.rd.none_))), ?_⟩))
  refine wpG_seg [12, 13] [(26, vp ob1 0), (27, vp ob1 2)] [] #[true, true, true, true, true, true, true, true, true, true, true, true, true, true, false] (fuel := 1) (PQ.then_ (PQ.then_ PQ.body)) (by kernel_rfl) (by kernel_rfl) (hst.rd.with_ 2 rfl (hst.rd.with_ 1 rfl (hst.rd.none_))) (fun x hx => trivial) ?_
  refine wpG_exec 14 (by kernel_rfl) rfl (so2 2 [vs A91 (a1.Absences ++ [(GAbsence.mk r54.2 r63.2 r83.2 true)]) c92] [vs A6_ a1.Variables c6_, vs A7_ a1.Relations c7_, vs A91 (a1.Absences ++ [(GAbsence.mk r54.2 r63.2 r83.2 true)]) c92, vi a1.Slots.From, vi a1.Slots.To, vs A9_ a1.Group c9_, vs A10_ a1.Compute c10_, vs A11_ a1.Order c11_, vi a1.Limit] hst (fun _ hst => ?_))
  refine nl (tn (⟨_, fun _ h => h, .inl ⟨rfl, allListed_of _ (by kernel_rfl)⟩, ?_⟩))
  refine wpG_done (by kernel_rfl) (tn (wp_ret (tr (wr [] ?_))))
  have hst := pk3 hst
  cases h
  exact ⟨_, rfl, m85, A6_, c6_, cs6_, A7_, c7_, cs7_, A91, c92, cs93, A9_, c9_, cs9_, A10_, c10_, cs10_, A11_, c11_, cs11_, rfl, e95, hst, (RC.mono e95 hrc6_), (RC.mono e95 hrc7_), hrc94, (RC.mono e95 hrc9_), (RC.mono e95 hrc10_), (RC.mono e95 hrc11_)⟩
 refine wp_skip (tn (qr (s0 1 [(28, vp ob0 0)] ?_)))
 rcases xbind_some h with ⟨p101, hq98, rfl⟩ | ⟨r97, hq98, h⟩
 ·exact cpa (c_parser_name hq98 hst (Glob.mono hl52 hG)) (fun _ _ hp => ⟨rfl, _, rfl, hp.p hl52 7 [0, 0, 0, 0, 0, 0, 0]⟩)
 refine cal (c_parser_name hq98 hst (Glob.mono hl52 hG)) ?_
 rintro _ _ ⟨m99, rfl, hl100, hst⟩
 refine s0 1 [(6, vstr r97.2)] (nl (tn (qr (s0 1 [(30, vp ob0 0)] ?_))))
 have e106 := hl52.trans hl100
 rcases xbind_some h with ⟨p107, hq103, rfl⟩ | ⟨r102, hq103, h⟩
 ·exact cpa (c_parser_relation hq103 hst (Glob.mono e106 hG)) (fun _ _ hp => ⟨rfl, _, rfl, hp.p e106 7 [0, 0, 0, 0, 0, 0, 0]⟩)
 refine cal (c_parser_relation hq103 hst (Glob.mono e106 hG)) ?_
 rintro _ _ ⟨m104, rfl, hl105, hst⟩
 refine s0 1 [(7, vi r102.2)] (nl (tn (sq (qr (s0 1 [(32, vp ob0 0)] ?_)))))
 rcases xbind_some h with ⟨p150, hq147, rfl⟩ | ⟨r146, hq147, h⟩
 ·have e151 := e106.trans hl105
  exact cpa (c_parser_takes hq147 hst) (fun _ _ hp => ⟨rfl, _, rfl, hp.p e151 7 [0, 0, 0, 0, 0, 0, 0]⟩)
 refine cal (c_parser_takes hq147 hst) ?_
 rintro _ _ ⟨m148, rfl, hl149, hst⟩
 refine nl (tn (cn h (fun h => ?_) (fun h => ?_)))
 ·refine sq (wc_draw false (fun x => Rd m148 (oo ob1 36 (cGQuery a1 (vs A6_ a1.Variables c6_) (vs A7_ a1.Relations c7_) (vs A8_ a1.Absences c8_) (vs A9_ a1.Group c9_) (vs A10_ a1.Compute c10_) (vs A11_ a1.Order c11_)) :: []) x) (by kernel_rfl) ?_)
  have hst := hst.drew
  refine wpG_seg [0, 1, 5, 7, 8, 2, 3, 4] [(34, vp ob1 0), (35, vp ob1 0), (39, vp ob0 0), (41, vi r102.2), (42, vstr r97.2), (36, vp ob1 0), (37, vp ob1 2), (38, vs A8_ a1.Absences c8_)] [(ad ob1 2, vs A8_ a1.Absences c8_)] #[true, true, true, true, true, true, false, true, true, false, false, false, false, false, false] (fuel := 7) (PQ.then_ (PQ.then_ PQ.body)) (by kernel_rfl) (by kernel_rfl) (hst.rd.with_ 1 rfl (hst.rd.none_)) (fun x hx => ⟨hx.c 0, trivial⟩) ?_
  refine wpG_exec 6 (by kernel_rfl) rfl ?_
  have e172 := e106.trans (hl105.trans hl149)
  rcases xbind_some h with ⟨p173, hq169, rfl⟩ | ⟨r168, hq169, h⟩
  ·exact cpa (c_parser_variable hq169 hst (Glob.mono e172 hG)) (fun _ _ hp => ⟨rfl, _, rfl, hp.p e172 7 [0, 0, 0, 0, 0, 0, 0]⟩)
  refine cal (c_parser_variable hq169 hst (Glob.mono e172 hG)) ?_
  rintro _ _ ⟨m170, v174, rfl, hl171, hst, hv174⟩
  obtain ⟨A175, c176, rfl⟩ := hv174.shape
  refine nl (tn (⟨_, fun _ h => h, .inr (Rd.lower hl171 (hst.rd.with_ 1 rfl (hst.rd.none_))), ?_⟩))
  refine wpG_strong (S2 := fun x => Rd m170 (oo ob1 36 (cGQuery a1 (vs A6_ a1.Variables c6_) (vs A7_ a1.Relations c7_) (vs A8_ a1.Absences c8_) (vs A9_ a1.Group c9_) (vs A10_ a1.Compute c10_) (vs A11_ a1.Order c11_)) :: []) x) (fun x hx => Rd.lower hl171 hx) ?_
  refine wpG_seg [9] [(43, va [vstr r168.2.Name, vi r168.2.Where.Op, vstr r168.2.Where.Field, vstr r168.2.Where.Key, vi r168.2.Where.Value.Kind, vstr r168.2.Where.Value.Text, vi r168.2.Where.Value.Int, vs A175 r168.2.Where.Args c176, vi r102.2, vstr r97.2, vb false])] [] #[true, true, true, true, true, true, true, true, true, true, false, false, false, false, false] (fuel := 5) (PQ.then_ (PQ.then_ PQ.body)) (by kernel_rfl) (by kernel_rfl) (hst.rd.with_ 1 rfl (hst.rd.none_)) (fun x hx => trivial) ?_
  refine wpG_exec 10 (by kernel_rfl) rfl (li 106 1 [vstr r168.2.Name, vi r168.2.Where.Op, vstr r168.2.Where.Field, vstr r168.2.Where.Key, vi r168.2.Where.Value.Kind, vstr r168.2.Where.Value.Text, vi r168.2.Where.Value.Int, vs A175 r168.2.Where.Args c176, vi r102.2, vstr r97.2, vb false] hst (fun b177 _ hst => ?_))
  refine nl (tn (⟨_, fun _ h => h, .inr (hst.rd.with_ 2 rfl (hst.rd.none_)), ?_⟩))
  refine wpG_exec 11 (by kernel_rfl) rfl ?_
  obtain ⟨hb178, h⟩ := chk_some h
  have e183 := e172.trans hl171
  refine ap5 (TGAbsence) (xs := a1.Absences) (ys := [(GAbsence.mk r168.2 r102.2 r97.2 false)]) 144 1 0 hst (RC.mono e183 hrc8_) (RC.k11 (TGAbsence.close_ (GAbsence.mk r168.2 r102.2 r97.2 false) hv174) (RC.nil _ _)) hb178 (fun A179 c180 cs181 _ hrc182 hst => ?_)
  have hst := pk0 hst
  refine nl (tn (⟨_, fun _ h => h, .inr (hst.rd.with_ 1 rfl (hst.rd.none_)), ?_⟩))
  refine wpG_seg [12, 13] [(46, vp ob1 0), (47, vp ob1 2)] [] #[true, true, true, true, true, true, true, true, true, true, true, true, true, true, false] (fuel := 1) (PQ.then_ (PQ.then_ PQ.body)) (by kernel_rfl) (by kernel_rfl) (hst.rd.with_ 1 rfl (hst.rd.none_)) (fun x hx => trivial) ?_
  refine wpG_exec 14 (by kernel_rfl) rfl (so1 2 [vs A179 (a1.Absences ++ [(GAbsence.mk r168.2 r102.2 r97.2 false)]) c180] [vs A6_ a1.Variables c6_, vs A7_ a1.Relations c7_, vs A179 (a1.Absences ++ [(GAbsence.mk r168.2 r102.2 r97.2 false)]) c180, vi a1.Slots.From, vi a1.Slots.To, vs A9_ a1.Group c9_, vs A10_ a1.Compute c10_, vs A11_ a1.Order c11_, vi a1.Limit] hst (fun _ hst => ?_))
  refine nl (tn (⟨_, fun _ h => h, .inl ⟨rfl, allListed_of _ (by kernel_rfl)⟩, ?_⟩))
  refine wpG_done (by kernel_rfl) (tn (wp_ret (tr (wr [] ?_))))
  cases h
  exact ⟨_, rfl, m170, A6_, c6_, cs6_, A7_, c7_, cs7_, A179, c180, cs181, A9_, c9_, cs9_, A10_, c10_, cs10_, A11_, c11_, cs11_, rfl, e183, hst, (RC.mono e183 hrc6_), (RC.mono e183 hrc7_), hrc182, (RC.mono e183 hrc9_), (RC.mono e183 hrc10_), (RC.mono e183 hrc11_)⟩
 refine wp_skip (tn (wc_draw false (fun x => Rd m148 (oo ob1 36 (cGQuery a1 (vs A6_ a1.Variables c6_) (vs A7_ a1.Relations c7_) (vs A8_ a1.Absences c8_) (vs A9_ a1.Group c9_) (vs A10_ a1.Compute c10_) (vs A11_ a1.Order c11_)) :: []) x) (by kernel_rfl) ?_))
 have hst := hst.drew
 refine wpG_seg [0, 1, 5, 6, 7, 2, 3, 4] [(48, vp ob1 0), (49, vp ob1 0), (53, vi r102.2), (54, vstr r97.2), (55, vp ob0 0), (50, vp ob1 0), (51, vp ob1 1), (52, vs A7_ a1.Relations c7_)] [(ad ob1 1, vs A7_ a1.Relations c7_)] #[true, true, true, true, true, true, true, true, false, false, false, false, false, false, false] (fuel := 7) PQ.body (by kernel_rfl) (by kernel_rfl) (hst.rd.with_ 1 rfl (hst.rd.none_)) (fun x hx => ⟨hx.c 0, trivial⟩) ?_
 refine wpG_exec 8 (by kernel_rfl) rfl ?_
 have e201 := e106.trans (hl105.trans hl149)
 rcases xbind_some h with ⟨p202, hq198, rfl⟩ | ⟨r197, hq198, h⟩
 ·exact cpa (c_parser_name hq198 hst (Glob.mono e201 hG)) (fun _ _ hp => ⟨rfl, _, rfl, hp.p e201 7 [0, 0, 0, 0, 0, 0, 0]⟩)
 refine cal (c_parser_name hq198 hst (Glob.mono e201 hG)) ?_
 rintro _ _ ⟨m199, rfl, hl200, hst⟩
 refine nl (tn (⟨_, fun _ h => h, .inr (Rd.lower hl200 (hst.rd.with_ 1 rfl (hst.rd.none_))), ?_⟩))
 refine wpG_strong (S2 := fun x => Rd m199 (oo ob1 36 (cGQuery a1 (vs A6_ a1.Variables c6_) (vs A7_ a1.Relations c7_) (vs A8_ a1.Absences c8_) (vs A9_ a1.Group c9_) (vs A10_ a1.Compute c10_) (vs A11_ a1.Order c11_)) :: []) x) (fun x hx => Rd.lower hl200 hx) ?_
 refine wpG_seg [9] [(57, va [vi r102.2, vstr r97.2, vstr r197.2])] [] #[true, true, true, true, true, true, true, true, true, true, false, false, false, false, false] (fuel := 5) PQ.body (by kernel_rfl) (by kernel_rfl) (hst.rd.with_ 1 rfl (hst.rd.none_)) (fun x hx => trivial) ?_
 refine wpG_exec 10 (by kernel_rfl) rfl (li 104 1 [vi r102.2, vstr r97.2, vstr r197.2] hst (fun b203 _ hst => ?_))
 refine nl (tn (⟨_, fun _ h => h, .inr (hst.rd.with_ 2 rfl (hst.rd.none_)), ?_⟩))
 refine wpG_exec 11 (by kernel_rfl) rfl ?_
 obtain ⟨hb204, h⟩ := chk_some h
 have e209 := e201.trans hl200
 refine ap4 (TGRelation) (xs := a1.Relations) (ys := [(GRelation.mk r102.2 r97.2 r197.2)]) 40 1 0 hst (RC.mono e209 hrc7_) (RC.k3 (TGRelation.close_ (GRelation.mk r102.2 r97.2 r197.2)) (RC.nil _ _)) hb204 (fun A205 c206 cs207 _ hrc208 hst => ?_)
 have hst := pk0 hst
 refine nl (tn (⟨_, fun _ h => h, .inr (hst.rd.with_ 1 rfl (hst.rd.none_)), ?_⟩))
 refine wpG_seg [12, 13] [(60, vp ob1 0), (61, vp ob1 1)] [] #[true, true, true, true, true, true, true, true, true, true, true, true, true, true, false] (fuel := 1) PQ.body (by kernel_rfl) (by kernel_rfl) (hst.rd.with_ 1 rfl (hst.rd.none_)) (fun x hx => trivial) ?_
 refine wpG_exec 14 (by kernel_rfl) rfl (so1 1 [vs A205 (a1.Relations ++ [(GRelation.mk r102.2 r97.2 r197.2)]) c206] [vs A6_ a1.Variables c6_, vs A205 (a1.Relations ++ [(GRelation.mk r102.2 r97.2 r197.2)]) c206, vs A8_ a1.Absences c8_, vi a1.Slots.From, vi a1.Slots.To, vs A9_ a1.Group c9_, vs A10_ a1.Compute c10_, vs A11_ a1.Order c11_, vi a1.Limit] hst (fun _ hst => ?_))
 refine nl (tn (⟨_, fun _ h => h, .inl ⟨rfl, allListed_of _ (by kernel_rfl)⟩, ?_⟩))
 refine wpG_done (by kernel_rfl) (we [] ?_)
 cases h
 exact ⟨_, rfl, m199, A6_, c6_, cs6_, A205, c206, cs207, A8_, c8_, cs8_, A9_, c9_, cs9_, A10_, c10_, cs10_, A11_, c11_, cs11_, rfl, e209, hst, (RC.mono e209 hrc6_), hrc208, (RC.mono e209 hrc8_), (RC.mono e209 hrc9_), (RC.mono e209 hrc10_), (RC.mono e209 hrc11_)⟩

def R_parser_query_c2 (g : World) (m : Mem) (F : List Asr) (ob0 : Nat) (ob1 : Nat) (ob2 : Nat) (r : SParser × GQuery) (v : Value) (w' : World) : Prop := ∃ (m' : Mem) (A6 : Option Addr) (c6 : Nat) (cs6 : List Value) (A7 : Option Addr) (c7 : Nat) (cs7 : List Value) (A8 : Option Addr) (c8 : Nat) (cs8 : List Value) (A9 : Option Addr) (c9 : Nat) (cs9 : List Value) (A10 : Option Addr) (c10 : Nat) (cs10 : List Value) (A11 : Option Addr) (c11 : Nat) (cs11 : List Value), v = vt [] ∧ m.le m' ∧ St g m' (oo ob0 86 [vp ob1 0] :: oo ob1 155 (cSParser r.1) :: oo ob2 36 (cGQuery r.2 (vs A6 r.2.Variables c6) (vs A7 r.2.Relations c7) (vs A8 r.2.Absences c8) (vs A9 r.2.Group c9) (vs A10 r.2.Compute c10) (vs A11 r.2.Order c11)) :: rw_ 95 8 A6 r.2.Variables c6 cs6 :: rw_ 104 3 A7 r.2.Relations c7 cs7 :: rw_ 106 11 A8 r.2.Absences c8 cs8 :: rw_ 101 3 A9 r.2.Group c9 cs9 :: rw_ 110 6 A10 r.2.Compute c10 cs10 :: rw_ 112 2 A11 r.2.Order c11 cs11 :: F) w' ∧ RC (TGVariable) m' r.2.Variables cs6 ∧ RC (TGRelation) m' r.2.Relations cs7 ∧ RC (TGAbsence) m' r.2.Absences cs8 ∧ RC (TGColumn) m' r.2.Group cs9 ∧ RC (TGAggregate) m' r.2.Compute cs10 ∧ RC (TGOrderKey) m' r.2.Order cs11
theorem c_parser_query_c2 {k : Nat} {a1 : SParser} {a2 : GQuery} {r : Except Pan (SParser × GQuery)} {g : World} {m : Mem} {F : List Asr} {w : World} {ob0 : Nat} {ob1 : Nat} {ob2 : Nat} {A6_ : Option Addr} {c6_ : Nat} {cs6_ : List Value} {A7_ : Option Addr} {c7_ : Nat} {cs7_ : List Value} {A8_ : Option Addr} {c8_ : Nat} {cs8_ : List Value} {A9_ : Option Addr} {c9_ : Nat} {cs9_ : List Value} {A10_ : Option Addr} {c10_ : Nat} {cs10_ : List Value} {A11_ : Option Addr} {c11_ : Nat} {cs11_ : List Value} (h : parser_query_c2 k a1 a2 = some r) (hst : St g m (oo ob0 86 [vp ob1 0] :: oo ob1 155 (cSParser a1) :: oo ob2 36 (cGQuery a2 (vs A6_ a2.Variables c6_) (vs A7_ a2.Relations c7_) (vs A8_ a2.Absences c8_) (vs A9_ a2.Group c9_) (vs A10_ a2.Compute c10_) (vs A11_ a2.Order c11_)) :: rw_ 95 8 A6_ a2.Variables c6_ cs6_ :: rw_ 104 3 A7_ a2.Relations c7_ cs7_ :: rw_ 106 11 A8_ a2.Absences c8_ cs8_ :: rw_ 101 3 A9_ a2.Group c9_ cs9_ :: rw_ 110 6 A10_ a2.Compute c10_ cs10_ :: rw_ 112 2 A11_ a2.Order c11_ cs11_ :: F) w) (hrc6_ : RC (TGVariable) m a2.Variables cs6_) (hrc7_ : RC (TGRelation) m a2.Relations cs7_) (hrc8_ : RC (TGAbsence) m a2.Absences cs8_) (hrc9_ : RC (TGColumn) m a2.Group cs9_) (hrc10_ : RC (TGAggregate) m a2.Compute cs10_) (hrc11_ : RC (TGOrderKey) m a2.Order cs11_) (hG : Glob m) :
    Calls Tryz.prog 109 ⟨[vp ob0 0, vp ob2 0]⟩ w (XPost (R_parser_query_c2 g m F ob0 ob1 ob2) g m (oo ob0 86 [vp ob1 0] :: oo ob2 36 (cGQuery a2 (vs A6_ a2.Variables c6_) (vs A7_ a2.Relations c7_) (vs A8_ a2.Absences c8_) (vs A9_ a2.Group c9_) (vs A10_ a2.Compute c10_) (vs A11_ a2.Order c11_)) :: rw_ 95 8 A6_ a2.Variables c6_ cs6_ :: rw_ 104 3 A7_ a2.Relations c7_ cs7_ :: rw_ 106 11 A8_ a2.Absences c8_ cs8_ :: rw_ 101 3 A9_ a2.Group c9_ cs9_ :: rw_ 110 6 A10_ a2.Compute c10_ cs10_ :: rw_ 112 2 A11_ a2.Order c11_ cs11_ :: F) r) := by
 refine calls_enter Tryz.func109 rfl rfl ?_
 unfold parser_query_c2 at h
 refine rg (sg 1 [(2, vp ob1 0)] [(ad ob0 0, vp ob1 0)] ⟨hst.c 0, trivial⟩ ?_)
 have hst := pk12 hst
 rcases xbind_some h with ⟨p5, hq2, rfl⟩ | ⟨r1, hq2, h⟩
 ·exact cpa (c_parser_clause hq2 hst hrc6_ hrc7_ hrc8_ hrc9_ hrc10_ hrc11_ hG) (fun _ _ hp => ⟨rfl, _, rfl, hp.p (Mem.le.refl _) 8 [7, 0, 0, 0, 0, 0, 0, 0]⟩)
 refine cal (c_parser_clause hq2 hst hrc6_ hrc7_ hrc8_ hrc9_ hrc10_ hrc11_ hG) ?_
 rintro _ _ ⟨m3, A12, c13, cs14, A16, c17, cs18, A20, c21, cs22, A24, c25, cs26, A28, c29, cs30, A32, c33, cs34, rfl, hl4, hst, hrc15, hrc19, hrc23, hrc27, hrc31, hrc35⟩
 refine nl (we [] ?_)
 have hst := pk11 hst
 cases h
 exact ⟨_, rfl, m3, A12, c13, cs14, A16, c17, cs18, A20, c21, cs22, A24, c25, cs26, A28, c29, cs30, A32, c33, cs34, rfl, hl4, hst, hrc15, hrc19, hrc23, hrc27, hrc31, hrc35⟩

def R_parser_list_i1 (g : World) (m : Mem) (F : List Asr) (ob0 : Nat) (ob1 : Nat) (ob2 : Nat) (r : SParser × GQuery) (v : Value) (w' : World) : Prop := ∃ (m' : Mem) (A6 : Option Addr) (c6 : Nat) (cs6 : List Value) (A7 : Option Addr) (c7 : Nat) (cs7 : List Value) (A8 : Option Addr) (c8 : Nat) (cs8 : List Value) (A9 : Option Addr) (c9 : Nat) (cs9 : List Value) (A10 : Option Addr) (c10 : Nat) (cs10 : List Value) (A11 : Option Addr) (c11 : Nat) (cs11 : List Value), v = vt [] ∧ m.le m' ∧ St g m' (oo ob0 155 (cSParser r.1) :: oo ob1 86 [vp ob0 0] :: oo ob2 36 (cGQuery r.2 (vs A6 r.2.Variables c6) (vs A7 r.2.Relations c7) (vs A8 r.2.Absences c8) (vs A9 r.2.Group c9) (vs A10 r.2.Compute c10) (vs A11 r.2.Order c11)) :: rw_ 95 8 A6 r.2.Variables c6 cs6 :: rw_ 104 3 A7 r.2.Relations c7 cs7 :: rw_ 106 11 A8 r.2.Absences c8 cs8 :: rw_ 101 3 A9 r.2.Group c9 cs9 :: rw_ 110 6 A10 r.2.Compute c10 cs10 :: rw_ 112 2 A11 r.2.Order c11 cs11 :: F) w' ∧ RC (TGVariable) m' r.2.Variables cs6 ∧ RC (TGRelation) m' r.2.Relations cs7 ∧ RC (TGAbsence) m' r.2.Absences cs8 ∧ RC (TGColumn) m' r.2.Group cs9 ∧ RC (TGAggregate) m' r.2.Compute cs10 ∧ RC (TGOrderKey) m' r.2.Order cs11
theorem c_parser_list_i1 {k : Nat} {a0 : SParser} {a2 : GQuery} {r : Except Pan (SParser × GQuery)} {g : World} {m : Mem} {F : List Asr} {w : World} {ob0 : Nat} {ob1 : Nat} {ob2 : Nat} {A6_ : Option Addr} {c6_ : Nat} {cs6_ : List Value} {A7_ : Option Addr} {c7_ : Nat} {cs7_ : List Value} {A8_ : Option Addr} {c8_ : Nat} {cs8_ : List Value} {A9_ : Option Addr} {c9_ : Nat} {cs9_ : List Value} {A10_ : Option Addr} {c10_ : Nat} {cs10_ : List Value} {A11_ : Option Addr} {c11_ : Nat} {cs11_ : List Value} (h : parser_list_i1 k a0 a2 = some r) (hst : St g m (oo ob0 155 (cSParser a0) :: oo ob1 86 [vp ob0 0] :: oo ob2 36 (cGQuery a2 (vs A6_ a2.Variables c6_) (vs A7_ a2.Relations c7_) (vs A8_ a2.Absences c8_) (vs A9_ a2.Group c9_) (vs A10_ a2.Compute c10_) (vs A11_ a2.Order c11_)) :: rw_ 95 8 A6_ a2.Variables c6_ cs6_ :: rw_ 104 3 A7_ a2.Relations c7_ cs7_ :: rw_ 106 11 A8_ a2.Absences c8_ cs8_ :: rw_ 101 3 A9_ a2.Group c9_ cs9_ :: rw_ 110 6 A10_ a2.Compute c10_ cs10_ :: rw_ 112 2 A11_ a2.Order c11_ cs11_ :: F) w) (hrc6_ : RC (TGVariable) m a2.Variables cs6_) (hrc7_ : RC (TGRelation) m a2.Relations cs7_) (hrc8_ : RC (TGAbsence) m a2.Absences cs8_) (hrc9_ : RC (TGColumn) m a2.Group cs9_) (hrc10_ : RC (TGAggregate) m a2.Compute cs10_) (hrc11_ : RC (TGOrderKey) m a2.Order cs11_) (hG : Glob m) :
    Calls Tryz.prog 105 ⟨[vp ob0 0, vf 109 [] [vp ob1 0, vp ob2 0]]⟩ w (XPost (R_parser_list_i1 g m F ob0 ob1 ob2) g m (oo ob1 86 [vp ob0 0] :: F) r) := by
 refine calls_enter Tryz.func105 rfl rfl ?_
 unfold parser_list_i1 at h
 refine qr (s0 1 [(4, vf 109 [] [vp ob1 0, vp ob2 0])] ?_)
 have hst := pk1 hst
 rcases xbind_some h with ⟨p5, hq2, rfl⟩ | ⟨r1, hq2, h⟩
 ·exact cpa (c_parser_query_c2 hq2 hst hrc6_ hrc7_ hrc8_ hrc9_ hrc10_ hrc11_ hG) (fun _ _ hp => ⟨rfl, _, rfl, hp.p (Mem.le.refl _) 8 [0]⟩)
 refine cal (c_parser_query_c2 hq2 hst hrc6_ hrc7_ hrc8_ hrc9_ hrc10_ hrc11_ hG) ?_
 rintro _ _ ⟨m3, A12, c13, cs14, A16, c17, cs18, A20, c21, cs22, A24, c25, cs26, A28, c29, cs30, A32, c33, cs34, rfl, hl4, hst, hrc15, hrc19, hrc23, hrc27, hrc31, hrc35⟩
 refine nl (tn (bk (wc_loop (fun kk a w => ∃ (f0 : Fr) (m239 : Mem) (x116 : List GVariable) (A117 : Option Addr) (c118 : Nat) (cs119 : List Value) (x121 : List GRelation) (A122 : Option Addr) (c123 : Nat) (cs124 : List Value) (x126 : List GAbsence) (A127 : Option Addr) (c128 : Nat) (cs129 : List Value) (x131 : List GColumn) (A132 : Option Addr) (c133 : Nat) (cs134 : List Value) (x136 : List GAggregate) (A137 : Option Addr) (c138 : Nat) (cs139 : List Value) (x141 : List GOrderKey) (A142 : Option Addr) (c143 : Nat) (cs144 : List Value) (x146 : Str) (x147 : Int) (x148 : Int) (x149 : Int) (x150 : Str) (x151 : Int) (x152 : Int) (x153 : Int) (x154 : Int), a = act Tryz.f105.ntmps (upds f0 [(0, vp ob0 0), (1, vf 109 [] [vp ob1 0, vp ob2 0])]) ∧ kk ≤ k ∧ parser_list_i1_l1 kk x116 x121 x126 x131 x136 x141 x146 x147 x148 x149 x150 x151 x152 x153 x154 = some r ∧ m3.le m239 ∧ St g m239 (oo ob1 86 [vp ob0 0] :: oo ob0 155 [vstr x146, vi x147, vi x148, vi x149, vstr x150, vi x151] :: oo ob2 36 [vs A117 x116 c118, vs A122 x121 c123, vs A127 x126 c128, vi x152, vi x153, vs A132 x131 c133, vs A137 x136 c138, vs A142 x141 c143, vi x154] :: rw_ 95 8 A117 x116 c118 cs119 :: rw_ 104 3 A122 x121 c123 cs124 :: rw_ 106 11 A127 x126 c128 cs129 :: rw_ 101 3 A132 x131 c133 cs134 :: rw_ 110 6 A137 x136 c138 cs139 :: rw_ 112 2 A142 x141 c143 cs144 :: F) w ∧ RC (TGVariable) m239 x116 cs119 ∧ RC (TGRelation) m239 x121 cs124 ∧ RC (TGAbsence) m239 x126 cs129 ∧ RC (TGColumn) m239 x131 cs134 ∧ RC (TGAggregate) m239 x136 cs139 ∧ RC (TGOrderKey) m239 x141 cs144) k ?_ ?_)))
 ·exact ⟨_, m3, (r1.2.Variables), A12, c13, cs14, (r1.2.Relations), A16, c17, cs18, (r1.2.Absences), A20, c21, cs22, (r1.2.Group), A24, c25, cs26, (r1.2.Compute), A28, c29, cs30, (r1.2.Order), A32, c33, cs34, (r1.1.x_.s_), (r1.1.x_.at_), (r1.1.t_.kind), (r1.1.t_.at_), (r1.1.t_.s_), (r1.1.t_.n_), (r1.2.Slots.From), (r1.2.Slots.To), (r1.2.Limit), (act_upds ⟨by kernel_rfl, by kernel_rfl, trivial⟩), (Nat.le_refl _), h, (Mem.le.refl _), hst, hrc15, hrc19, hrc23, hrc27, hrc31, hrc35⟩
 rintro k237 ih238 _ _ ⟨f0, m239, x116, A117, c118, cs119, x121, A122, c123, cs124, x126, A127, c128, cs129, x131, A132, c133, cs134, x136, A137, c138, cs139, x141, A142, c143, cs144, x146, x147, x148, x149, x150, x151, x152, x153, x154, rfl, hk236, h, hl235, hst, hrc120, hrc125, hrc130, hrc135, hrc140, hrc145⟩
 obtain _ | k241 := k237
 ·simp [parser_list_i1_l1] at h
 rw [parser_list_i1_l1] at h
 refine sq (qr (s0 1 [(6, vp ob0 0)] ?_))
 have hst := pk1 hst
 rcases xbind_some h with ⟨p246, hq243, rfl⟩ | ⟨r242, hq243, h⟩
 ·have e247 := hl4.trans hl235
  exact cpa (c_parser_takes hq243 hst) (fun _ _ hp => ⟨rfl, _, rfl, hp.p e247 8 [0]⟩)
 refine cal (c_parser_takes hq243 hst) ?_
 rintro _ _ ⟨m244, rfl, hl245, hst⟩
 refine nl (tn (cn h (fun h => ?_) (fun h => ?_)))
 ·refine wp_skip (tn (bk (rg (s0 1 [(8, vf 109 [] [vp ob1 0, vp ob2 0])] ?_))))
  have hst := pk1 hst
  have e252 := hl4.trans (hl235.trans hl245)
  rcases xbind_some h with ⟨p253, hq249, rfl⟩ | ⟨r248, hq249, h⟩
  ·exact cpa (c_parser_query_c2 hq249 hst (RC.mono hl245 hrc120) (RC.mono hl245 hrc125) (RC.mono hl245 hrc130) (RC.mono hl245 hrc135) (RC.mono hl245 hrc140) (RC.mono hl245 hrc145) (Glob.mono e252 hG)) (fun _ _ hp => ⟨rfl, _, rfl, hp.p e252 8 [0]⟩)
  refine cal (c_parser_query_c2 hq249 hst (RC.mono hl245 hrc120) (RC.mono hl245 hrc125) (RC.mono hl245 hrc130) (RC.mono hl245 hrc135) (RC.mono hl245 hrc140) (RC.mono hl245 hrc145) (Glob.mono e252 hG)) ?_
  rintro _ _ ⟨m250, A260, c261, cs262, A264, c265, cs266, A268, c269, cs270, A272, c273, cs274, A276, c277, cs278, A280, c281, cs282, rfl, hl251, hst, hrc263, hrc267, hrc271, hrc275, hrc279, hrc283⟩
  refine nl (bn (tn ?_))
  have e284 := hl235.trans (hl245.trans hl251)
  exact ih238 k241 (by omega) _ _ ⟨_, m250, (r248.2.Variables), A260, c261, cs262, (r248.2.Relations), A264, c265, cs266, (r248.2.Absences), A268, c269, cs270, (r248.2.Group), A272, c273, cs274, (r248.2.Compute), A276, c277, cs278, (r248.2.Order), A280, c281, cs282, (r248.1.x_.s_), (r248.1.x_.at_), (r248.1.t_.kind), (r248.1.t_.at_), (r248.1.t_.s_), (r248.1.t_.n_), (r248.2.Slots.From), (r248.2.Slots.To), (r248.2.Limit), (act_upds ⟨by kernel_rfl, by kernel_rfl, trivial⟩), (by omega), h, e284, hst, hrc263, hrc267, hrc271, hrc275, hrc279, hrc283⟩
 refine wp_exit (tx (tx (bx (we [] ?_))))
 have e285 := hl4.trans (hl235.trans hl245)
 cases h
 exact ⟨_, rfl, m244, A117, c118, cs119, A122, c123, cs124, A127, c128, cs129, A132, c133, cs134, A137, c138, cs139, A142, c143, cs144, rfl, e285, hst, (RC.mono hl245 hrc120), (RC.mono hl245 hrc125), (RC.mono hl245 hrc130), (RC.mono hl245 hrc135), (RC.mono hl245 hrc140), (RC.mono hl245 hrc145)⟩

def R_parser_column (g : World) (m : Mem) (F : List Asr) (ob0 : Nat) (r : SParser × GColumn) (v : Value) (w' : World) : Prop := ∃ (m' : Mem), v = va (cGColumn r.2) ∧ m.le m' ∧ St g m' (oo ob0 155 (cSParser r.1) :: F) w'
theorem c_parser_column {k : Nat} {a0 : SParser} {r : Except Pan (SParser × GColumn)} {g : World} {m : Mem} {F : List Asr} {w : World} {ob0 : Nat} (h : parser_column k a0 = some r) (hst : St g m (oo ob0 155 (cSParser a0) :: F) w) (hG : Glob m) :
    Calls Tryz.prog 113 ⟨[vp ob0 0]⟩ w (XPost (R_parser_column g m F ob0) g m F r) := by
 refine calls_enter Tryz.func113 rfl rfl ?_
 unfold parser_column at h
 refine qr (al [vstr w_0, vstr w_0, vstr w_0] hst (fun b1 _ hst => ?_))
 refine nl (tn (qr (s0 1 [(4, vp ob0 0)] ?_)))
 have hst := pk1 hst
 rcases xbind_some h with ⟨p6, hq3, rfl⟩ | ⟨r2, hq3, h⟩
 ·exact cpa (c_parser_name hq3 hst hG) (fun _ _ hp => ⟨rfl, _, rfl, hp.p (Mem.le.refl _) 1 []⟩)
 refine cal (c_parser_name hq3 hst hG) ?_
 rintro _ _ ⟨m4, rfl, hl5, hst⟩
 refine s0 1 [(6, va [vstr r2.2, vstr w_0, vstr w_0])] (al [vstr w_0, vstr w_0, vstr w_0] hst (fun b7 _ hst => ?_))
 refine so0 0 [vstr r2.2, vstr w_0, vstr w_0] [vstr r2.2, vstr w_0, vstr w_0] hst (fun _ hst => ?_)
 refine nl (tn (qr (s0 1 [(7, vp ob0 0)] ?_)))
 have hst := pk1 hst
 rcases xbind_some h with ⟨p12, hq9, rfl⟩ | ⟨r8, hq9, h⟩
 ·exact cpa (c_parser_need hq9 hst) (fun _ _ hp => ⟨rfl, _, rfl, hp.p hl5 2 []⟩)
 refine cal (c_parser_need hq9 hst) ?_
 rintro _ _ ⟨m10, rfl, hl11, hst⟩
 refine nl (tn (qr (s0 1 [(10, vp ob0 0)] ?_)))
 rcases xbind_some h with ⟨p17, hq14, rfl⟩ | ⟨r13, hq14, h⟩
 ·have e18 := hl5.trans hl11
  exact cpa (c_parser_path hq14 hst) (fun _ _ hp => ⟨rfl, _, rfl, hp.p e18 2 []⟩)
 refine cal (c_parser_path hq14 hst) ?_
 rintro _ _ ⟨m15, rfl, hl16, hst⟩
 refine s0 4 [(9, vt [vstr r13.2.1, vstr r13.2.2]), (12, vstr r13.2.1), (13, vstr r13.2.2), (14, vp b7 1)] (so1 1 [vstr r13.2.1] [vstr r2.2, vstr r13.2.1, vstr w_0] hst (fun _ hst => ?_))
 refine s0 1 [(15, vp b7 2)] (so1 2 [vstr r13.2.2] [vstr r2.2, vstr r13.2.1, vstr r13.2.2] hst (fun _ hst => ?_))
 refine nl (tn (qr (sg 1 [(16, va [vstr r2.2, vstr r13.2.1, vstr r13.2.2])] [(ad b7 0, vstr r2.2), (ad b7 1, vstr r13.2.1), (ad b7 2, vstr r13.2.2)] ⟨hst.c 1, hst.c 1, hst.c 1, trivial⟩ (so2 0 [vstr r2.2, vstr r13.2.1, vstr r13.2.2] [vstr r2.2, vstr r13.2.1, vstr r13.2.2] hst (fun _ hst => ?_)))))
 refine nl (tn (wp_ret (wrr [va [vstr r2.2, vstr r13.2.1, vstr r13.2.2]] [(ad b1 0, vstr r2.2), (ad b1 1, vstr r13.2.1), (ad b1 2, vstr r13.2.2)] ⟨hst.c 2, hst.c 2, hst.c 2, trivial⟩ ?_)))
 have hst := pk6 hst
 have e19 := hl5.trans (hl11.trans hl16)
 cases h
 exact ⟨_, rfl, m15, rfl, e19, hst⟩

def R_parser_query_c3 (g : World) (m : Mem) (F : List Asr) (ob0 : Nat) (ob1 : Nat) (ob2 : Nat) (r : GQuery × SParser) (v : Value) (w' : World) : Prop := ∃ (m' : Mem) (A6 : Option Addr) (c6 : Nat) (cs6 : List Value) (A7 : Option Addr) (c7 : Nat) (cs7 : List Value) (A8 : Option Addr) (c8 : Nat) (cs8 : List Value) (A9 : Option Addr) (c9 : Nat) (cs9 : List Value) (A10 : Option Addr) (c10 : Nat) (cs10 : List Value) (A11 : Option Addr) (c11 : Nat) (cs11 : List Value), v = vt [] ∧ m.le m' ∧ St g m' (oo ob0 36 (cGQuery r.1 (vs A6 r.1.Variables c6) (vs A7 r.1.Relations c7) (vs A8 r.1.Absences c8) (vs A9 r.1.Group c9) (vs A10 r.1.Compute c10) (vs A11 r.1.Order c11)) :: rw_ 95 8 A6 r.1.Variables c6 cs6 :: rw_ 104 3 A7 r.1.Relations c7 cs7 :: rw_ 106 11 A8 r.1.Absences c8 cs8 :: rw_ 101 3 A9 r.1.Group c9 cs9 :: rw_ 110 6 A10 r.1.Compute c10 cs10 :: rw_ 112 2 A11 r.1.Order c11 cs11 :: oo ob1 86 [vp ob2 0] :: oo ob2 155 (cSParser r.2) :: F) w' ∧ RC (TGVariable) m' r.1.Variables cs6 ∧ RC (TGRelation) m' r.1.Relations cs7 ∧ RC (TGAbsence) m' r.1.Absences cs8 ∧ RC (TGColumn) m' r.1.Group cs9 ∧ RC (TGAggregate) m' r.1.Compute cs10 ∧ RC (TGOrderKey) m' r.1.Order cs11
theorem c_parser_query_c3 {k : Nat} {a0 : GQuery} {a2 : SParser} {r : Except Pan (GQuery × SParser)} {g : World} {m : Mem} {F : List Asr} {w : World} {ob0 : Nat} {ob1 : Nat} {ob2 : Nat} {A6_ : Option Addr} {c6_ : Nat} {cs6_ : List Value} {A7_ : Option Addr} {c7_ : Nat} {cs7_ : List Value} {A8_ : Option Addr} {c8_ : Nat} {cs8_ : List Value} {A9_ : Option Addr} {c9_ : Nat} {cs9_ : List Value} {A10_ : Option Addr} {c10_ : Nat} {cs10_ : List Value} {A11_ : Option Addr} {c11_ : Nat} {cs11_ : List Value} (h : parser_query_c3 k a0 a2 = some r) (hst : St g m (oo ob0 36 (cGQuery a0 (vs A6_ a0.Variables c6_) (vs A7_ a0.Relations c7_) (vs A8_ a0.Absences c8_) (vs A9_ a0.Group c9_) (vs A10_ a0.Compute c10_) (vs A11_ a0.Order c11_)) :: rw_ 95 8 A6_ a0.Variables c6_ cs6_ :: rw_ 104 3 A7_ a0.Relations c7_ cs7_ :: rw_ 106 11 A8_ a0.Absences c8_ cs8_ :: rw_ 101 3 A9_ a0.Group c9_ cs9_ :: rw_ 110 6 A10_ a0.Compute c10_ cs10_ :: rw_ 112 2 A11_ a0.Order c11_ cs11_ :: oo ob1 86 [vp ob2 0] :: oo ob2 155 (cSParser a2) :: F) w) (hrc6_ : RC (TGVariable) m a0.Variables cs6_) (hrc7_ : RC (TGRelation) m a0.Relations cs7_) (hrc8_ : RC (TGAbsence) m a0.Absences cs8_) (hrc9_ : RC (TGColumn) m a0.Group cs9_) (hrc10_ : RC (TGAggregate) m a0.Compute cs10_) (hrc11_ : RC (TGOrderKey) m a0.Order cs11_) (hG : Glob m) :
    Calls Tryz.prog 112 ⟨[vp ob0 0, vp ob1 0]⟩ w (XPost (R_parser_query_c3 g m F ob0 ob1 ob2) g m (oo ob0 36 (cGQuery a0 (vs A6_ a0.Variables c6_) (vs A7_ a0.Relations c7_) (vs A8_ a0.Absences c8_) (vs A9_ a0.Group c9_) (vs A10_ a0.Compute c10_) (vs A11_ a0.Order c11_)) :: rw_ 95 8 A6_ a0.Variables c6_ cs6_ :: rw_ 104 3 A7_ a0.Relations c7_ cs7_ :: rw_ 106 11 A8_ a0.Absences c8_ cs8_ :: rw_ 101 3 A9_ a0.Group c9_ cs9_ :: rw_ 110 6 A10_ a0.Compute c10_ cs10_ :: rw_ 112 2 A11_ a0.Order c11_ cs11_ :: oo ob1 86 [vp ob2 0] :: F) r) := by
 refine calls_enter Tryz.func112 rfl rfl ?_
 unfold parser_query_c3 at h
 refine wc_draw false (fun x => Rd m (oo ob0 36 (cGQuery a0 (vs A6_ a0.Variables c6_) (vs A7_ a0.Relations c7_) (vs A8_ a0.Absences c8_) (vs A9_ a0.Group c9_) (vs A10_ a0.Compute c10_) (vs A11_ a0.Order c11_)) :: oo ob1 86 [vp ob2 0] :: []) x) (by kernel_rfl) ?_
 have hst := hst.drew
 refine wpG_seg [0, 2, 1] [(2, vp ob0 5), (4, vp ob2 0), (3, vs A9_ a0.Group c9_)] [(ad ob1 0, vp ob2 0), (ad ob0 5, vs A9_ a0.Group c9_)] #[true, true, true, false, false, false, false, false] (fuel := 5) PQ.body (by kernel_rfl) (by kernel_rfl) (hst.rd.with_ 0 rfl (hst.rd.with_ 7 rfl (hst.rd.none_))) (fun x hx => ⟨hx.c 1, hx.c 0, trivial⟩) ?_
 refine wpG_exec 3 (by kernel_rfl) rfl ?_
 have hst := pk11 hst
 rcases xbind_some h with ⟨p16, hq13, rfl⟩ | ⟨r12, hq13, h⟩
 ·exact cpa (c_parser_column hq13 hst hG) (fun _ _ hp => ⟨rfl, _, rfl, hp.p (Mem.le.refl _) 8 [0, 0, 0, 0, 0, 0, 0, 0]⟩)
 refine cal (c_parser_column hq13 hst hG) ?_
 rintro _ _ ⟨m14, rfl, hl15, hst⟩
 refine nl (tn (⟨_, fun _ h => h, .inr (Rd.lower hl15 (hst.rd.with_ 1 rfl (hst.rd.with_ 8 rfl (hst.rd.none_)))), ?_⟩))
 refine wpG_exec 4 (by kernel_rfl) rfl (li 101 1 [vstr r12.2.Var, vstr r12.2.Field, vstr r12.2.Key] hst (fun b17 _ hst => ?_))
 refine nl (tn (⟨_, fun _ h => h, .inr (Rd.lower hl15 (hst.rd.with_ 2 rfl (hst.rd.with_ 9 rfl (hst.rd.none_)))), ?_⟩))
 refine wpG_exec 5 (by kernel_rfl) rfl ?_
 obtain ⟨hb18, h⟩ := chk_some h
 refine ap6 (TGColumn) (xs := a0.Group) (ys := [r12.2]) 48 1 0 hst (RC.mono hl15 hrc9_) (RC.k3 (TGColumn.close_ r12.2) (RC.nil _ _)) hb18 (fun A19 c20 cs21 _ hrc22 hst => ?_)
 have hst := pk0 hst
 refine nl (tn (⟨_, fun _ h => h, .inr (Rd.lower hl15 (hst.rd.with_ 1 rfl (hst.rd.with_ 8 rfl (hst.rd.none_)))), ?_⟩))
 refine wpG_strong (S2 := fun x => Rd m14 (oo ob0 36 (cGQuery a0 (vs A6_ a0.Variables c6_) (vs A7_ a0.Relations c7_) (vs A8_ a0.Absences c8_) (vs A9_ a0.Group c9_) (vs A10_ a0.Compute c10_) (vs A11_ a0.Order c11_)) :: oo ob1 86 [vp ob2 0] :: []) x) (fun x hx => Rd.lower hl15 hx) ?_
 refine wpG_seg [6] [(8, vp ob0 5)] [] #[true, true, true, true, true, true, true, false] (fuel := 1) PQ.body (by kernel_rfl) (by kernel_rfl) (hst.rd.with_ 1 rfl (hst.rd.with_ 8 rfl (hst.rd.none_))) (fun x hx => trivial) ?_
 refine wpG_exec 7 (by kernel_rfl) rfl (so1 5 [vs A19 (a0.Group ++ [r12.2]) c20] [vs A6_ a0.Variables c6_, vs A7_ a0.Relations c7_, vs A8_ a0.Absences c8_, vi a0.Slots.From, vi a0.Slots.To, vs A19 (a0.Group ++ [r12.2]) c20, vs A10_ a0.Compute c10_, vs A11_ a0.Order c11_, vi a0.Limit] hst (fun _ hst => ?_))
 refine nl (tn (⟨_, fun _ h => h, .inl ⟨rfl, allListed_of _ (by kernel_rfl)⟩, ?_⟩))
 refine wpG_done (by kernel_rfl) (we [] ?_)
 have hst := pk12 hst
 cases h
 exact ⟨_, rfl, m14, A6_, c6_, cs6_, A7_, c7_, cs7_, A8_, c8_, cs8_, A19, c20, cs21, A10_, c10_, cs10_, A11_, c11_, cs11_, rfl, hl15, hst, (RC.mono hl15 hrc6_), (RC.mono hl15 hrc7_), (RC.mono hl15 hrc8_), hrc22, (RC.mono hl15 hrc10_), (RC.mono hl15 hrc11_)⟩

def R_parser_list_i2 (g : World) (m : Mem) (F : List Asr) (ob0 : Nat) (ob1 : Nat) (ob2 : Nat) (r : SParser × GQuery) (v : Value) (w' : World) : Prop := ∃ (m' : Mem) (A6 : Option Addr) (c6 : Nat) (cs6 : List Value) (A7 : Option Addr) (c7 : Nat) (cs7 : List Value) (A8 : Option Addr) (c8 : Nat) (cs8 : List Value) (A9 : Option Addr) (c9 : Nat) (cs9 : List Value) (A10 : Option Addr) (c10 : Nat) (cs10 : List Value) (A11 : Option Addr) (c11 : Nat) (cs11 : List Value), v = vt [] ∧ m.le m' ∧ St g m' (oo ob0 155 (cSParser r.1) :: oo ob1 36 (cGQuery r.2 (vs A6 r.2.Variables c6) (vs A7 r.2.Relations c7) (vs A8 r.2.Absences c8) (vs A9 r.2.Group c9) (vs A10 r.2.Compute c10) (vs A11 r.2.Order c11)) :: rw_ 95 8 A6 r.2.Variables c6 cs6 :: rw_ 104 3 A7 r.2.Relations c7 cs7 :: rw_ 106 11 A8 r.2.Absences c8 cs8 :: rw_ 101 3 A9 r.2.Group c9 cs9 :: rw_ 110 6 A10 r.2.Compute c10 cs10 :: rw_ 112 2 A11 r.2.Order c11 cs11 :: oo ob2 86 [vp ob0 0] :: F) w' ∧ RC (TGVariable) m' r.2.Variables cs6 ∧ RC (TGRelation) m' r.2.Relations cs7 ∧ RC (TGAbsence) m' r.2.Absences cs8 ∧ RC (TGColumn) m' r.2.Group cs9 ∧ RC (TGAggregate) m' r.2.Compute cs10 ∧ RC (TGOrderKey) m' r.2.Order cs11
theorem c_parser_list_i2 {k : Nat} {a0 : SParser} {a1 : GQuery} {r : Except Pan (SParser × GQuery)} {g : World} {m : Mem} {F : List Asr} {w : World} {ob0 : Nat} {ob1 : Nat} {ob2 : Nat} {A6_ : Option Addr} {c6_ : Nat} {cs6_ : List Value} {A7_ : Option Addr} {c7_ : Nat} {cs7_ : List Value} {A8_ : Option Addr} {c8_ : Nat} {cs8_ : List Value} {A9_ : Option Addr} {c9_ : Nat} {cs9_ : List Value} {A10_ : Option Addr} {c10_ : Nat} {cs10_ : List Value} {A11_ : Option Addr} {c11_ : Nat} {cs11_ : List Value} (h : parser_list_i2 k a0 a1 = some r) (hst : St g m (oo ob0 155 (cSParser a0) :: oo ob1 36 (cGQuery a1 (vs A6_ a1.Variables c6_) (vs A7_ a1.Relations c7_) (vs A8_ a1.Absences c8_) (vs A9_ a1.Group c9_) (vs A10_ a1.Compute c10_) (vs A11_ a1.Order c11_)) :: rw_ 95 8 A6_ a1.Variables c6_ cs6_ :: rw_ 104 3 A7_ a1.Relations c7_ cs7_ :: rw_ 106 11 A8_ a1.Absences c8_ cs8_ :: rw_ 101 3 A9_ a1.Group c9_ cs9_ :: rw_ 110 6 A10_ a1.Compute c10_ cs10_ :: rw_ 112 2 A11_ a1.Order c11_ cs11_ :: oo ob2 86 [vp ob0 0] :: F) w) (hrc6_ : RC (TGVariable) m a1.Variables cs6_) (hrc7_ : RC (TGRelation) m a1.Relations cs7_) (hrc8_ : RC (TGAbsence) m a1.Absences cs8_) (hrc9_ : RC (TGColumn) m a1.Group cs9_) (hrc10_ : RC (TGAggregate) m a1.Compute cs10_) (hrc11_ : RC (TGOrderKey) m a1.Order cs11_) (hG : Glob m) :
    Calls Tryz.prog 105 ⟨[vp ob0 0, vf 112 [] [vp ob1 0, vp ob2 0]]⟩ w (XPost (R_parser_list_i2 g m F ob0 ob1 ob2) g m (oo ob2 86 [vp ob0 0] :: F) r) := by
 refine calls_enter Tryz.func105 rfl rfl ?_
 unfold parser_list_i2 at h
 refine qr (s0 1 [(4, vf 112 [] [vp ob1 0, vp ob2 0])] ?_)
 have hst := pk12 hst
 rcases xbind_some h with ⟨p5, hq2, rfl⟩ | ⟨r1, hq2, h⟩
 ·exact cpa (c_parser_query_c3 hq2 hst hrc6_ hrc7_ hrc8_ hrc9_ hrc10_ hrc11_ hG) (fun _ _ hp => ⟨rfl, _, rfl, hp.p (Mem.le.refl _) 8 [7]⟩)
 refine cal (c_parser_query_c3 hq2 hst hrc6_ hrc7_ hrc8_ hrc9_ hrc10_ hrc11_ hG) ?_
 rintro _ _ ⟨m3, A12, c13, cs14, A16, c17, cs18, A20, c21, cs22, A24, c25, cs26, A28, c29, cs30, A32, c33, cs34, rfl, hl4, hst, hrc15, hrc19, hrc23, hrc27, hrc31, hrc35⟩
 refine nl (tn (bk (wc_loop (fun kk a w => ∃ (f0 : Fr) (m239 : Mem) (x116 : List GVariable) (A117 : Option Addr) (c118 : Nat) (cs119 : List Value) (x121 : List GRelation) (A122 : Option Addr) (c123 : Nat) (cs124 : List Value) (x126 : List GAbsence) (A127 : Option Addr) (c128 : Nat) (cs129 : List Value) (x131 : List GColumn) (A132 : Option Addr) (c133 : Nat) (cs134 : List Value) (x136 : List GAggregate) (A137 : Option Addr) (c138 : Nat) (cs139 : List Value) (x141 : List GOrderKey) (A142 : Option Addr) (c143 : Nat) (cs144 : List Value) (x146 : Int) (x147 : Int) (x148 : Int) (x149 : Str) (x150 : Int) (x151 : Int) (x152 : Int) (x153 : Str) (x154 : Int), a = act Tryz.f105.ntmps (upds f0 [(0, vp ob0 0), (1, vf 112 [] [vp ob1 0, vp ob2 0])]) ∧ kk ≤ k ∧ parser_list_i2_l1 kk x116 x121 x126 x131 x136 x141 x146 x147 x148 x149 x150 x151 x152 x153 x154 = some r ∧ m3.le m239 ∧ St g m239 (oo ob1 36 [vs A117 x116 c118, vs A122 x121 c123, vs A127 x126 c128, vi x146, vi x147, vs A132 x131 c133, vs A137 x136 c138, vs A142 x141 c143, vi x148] :: rw_ 95 8 A117 x116 c118 cs119 :: rw_ 104 3 A122 x121 c123 cs124 :: rw_ 106 11 A127 x126 c128 cs129 :: rw_ 101 3 A132 x131 c133 cs134 :: rw_ 110 6 A137 x136 c138 cs139 :: rw_ 112 2 A142 x141 c143 cs144 :: oo ob2 86 [vp ob0 0] :: oo ob0 155 [vstr x149, vi x150, vi x151, vi x152, vstr x153, vi x154] :: F) w ∧ RC (TGVariable) m239 x116 cs119 ∧ RC (TGRelation) m239 x121 cs124 ∧ RC (TGAbsence) m239 x126 cs129 ∧ RC (TGColumn) m239 x131 cs134 ∧ RC (TGAggregate) m239 x136 cs139 ∧ RC (TGOrderKey) m239 x141 cs144) k ?_ ?_)))
 ·exact ⟨_, m3, (r1.1.Variables), A12, c13, cs14, (r1.1.Relations), A16, c17, cs18, (r1.1.Absences), A20, c21, cs22, (r1.1.Group), A24, c25, cs26, (r1.1.Compute), A28, c29, cs30, (r1.1.Order), A32, c33, cs34, (r1.1.Slots.From), (r1.1.Slots.To), (r1.1.Limit), (r1.2.x_.s_), (r1.2.x_.at_), (r1.2.t_.kind), (r1.2.t_.at_), (r1.2.t_.s_), (r1.2.t_.n_), (act_upds ⟨by kernel_rfl, by kernel_rfl, trivial⟩), (Nat.le_refl _), h, (Mem.le.refl _), hst, hrc15, hrc19, hrc23, hrc27, hrc31, hrc35⟩
 rintro k237 ih238 _ _ ⟨f0, m239, x116, A117, c118, cs119, x121, A122, c123, cs124, x126, A127, c128, cs129, x131, A132, c133, cs134, x136, A137, c138, cs139, x141, A142, c143, cs144, x146, x147, x148, x149, x150, x151, x152, x153, x154, rfl, hk236, h, hl235, hst, hrc120, hrc125, hrc130, hrc135, hrc140, hrc145⟩
 obtain _ | k241 := k237
 ·simp [parser_list_i2_l1] at h
 rw [parser_list_i2_l1] at h
 refine sq (qr (s0 1 [(6, vp ob0 0)] ?_))
 have hst := pk11 hst
 rcases xbind_some h with ⟨p246, hq243, rfl⟩ | ⟨r242, hq243, h⟩
 ·have e247 := hl4.trans hl235
  exact cpa (c_parser_takes hq243 hst) (fun _ _ hp => ⟨rfl, _, rfl, hp.p e247 8 [7]⟩)
 refine cal (c_parser_takes hq243 hst) ?_
 rintro _ _ ⟨m244, rfl, hl245, hst⟩
 refine nl (tn (cn h (fun h => ?_) (fun h => ?_)))
 ·refine wp_skip (tn (bk (rg (s0 1 [(8, vf 112 [] [vp ob1 0, vp ob2 0])] ?_))))
  have hst := pk12 hst
  have e252 := hl4.trans (hl235.trans hl245)
  rcases xbind_some h with ⟨p253, hq249, rfl⟩ | ⟨r248, hq249, h⟩
  ·exact cpa (c_parser_query_c3 hq249 hst (RC.mono hl245 hrc120) (RC.mono hl245 hrc125) (RC.mono hl245 hrc130) (RC.mono hl245 hrc135) (RC.mono hl245 hrc140) (RC.mono hl245 hrc145) (Glob.mono e252 hG)) (fun _ _ hp => ⟨rfl, _, rfl, hp.p e252 8 [7]⟩)
  refine cal (c_parser_query_c3 hq249 hst (RC.mono hl245 hrc120) (RC.mono hl245 hrc125) (RC.mono hl245 hrc130) (RC.mono hl245 hrc135) (RC.mono hl245 hrc140) (RC.mono hl245 hrc145) (Glob.mono e252 hG)) ?_
  rintro _ _ ⟨m250, A260, c261, cs262, A264, c265, cs266, A268, c269, cs270, A272, c273, cs274, A276, c277, cs278, A280, c281, cs282, rfl, hl251, hst, hrc263, hrc267, hrc271, hrc275, hrc279, hrc283⟩
  refine nl (bn (tn ?_))
  have e284 := hl235.trans (hl245.trans hl251)
  exact ih238 k241 (by omega) _ _ ⟨_, m250, (r248.1.Variables), A260, c261, cs262, (r248.1.Relations), A264, c265, cs266, (r248.1.Absences), A268, c269, cs270, (r248.1.Group), A272, c273, cs274, (r248.1.Compute), A276, c277, cs278, (r248.1.Order), A280, c281, cs282, (r248.1.Slots.From), (r248.1.Slots.To), (r248.1.Limit), (r248.2.x_.s_), (r248.2.x_.at_), (r248.2.t_.kind), (r248.2.t_.at_), (r248.2.t_.s_), (r248.2.t_.n_), (act_upds ⟨by kernel_rfl, by kernel_rfl, trivial⟩), (by omega), h, e284, hst, hrc263, hrc267, hrc271, hrc275, hrc279, hrc283⟩
 refine wp_exit (tx (tx (bx (we [] ?_))))
 have e285 := hl4.trans (hl235.trans hl245)
 cases h
 exact ⟨_, rfl, m244, A117, c118, cs119, A122, c123, cs124, A127, c128, cs129, A132, c133, cs134, A137, c138, cs139, A142, c143, cs144, rfl, e285, hst, (RC.mono hl245 hrc120), (RC.mono hl245 hrc125), (RC.mono hl245 hrc130), (RC.mono hl245 hrc135), (RC.mono hl245 hrc140), (RC.mono hl245 hrc145)⟩

def R_parser_aggregate_c1 (g : World) (m : Mem) (F : List Asr) (r : Bool) (v : Value) (w' : World) : Prop := ∃ (m' : Mem), v = vb r ∧ m.le m' ∧ St g m' (F) w'
theorem c_parser_aggregate_c1 {k : Nat} {a0 : Str} {r : Bool} {g : World} {m : Mem} {F : List Asr} {w : World} (h : parser_aggregate_c1 k a0 = some r) (hst : St g m (F) w) (hG : Glob m) :
    Calls Tryz.prog 160 ⟨[vstr a0]⟩ w (OPost (R_parser_aggregate_c1 g m F) r) := by
 refine calls_enter Tryz.func160 rfl rfl ?_
 unfold parser_aggregate_c1 at h
 refine qr (s0 1 [(2, vb false)] (nl (tn (qr ?_))))
 obtain ⟨v1, hA2, hv3⟩ := hG.a
 obtain ⟨A4, c5, rfl⟩ := hv3.shape
 refine sg 1 [(3, vs A4 namesA c5)] [(ad 2 0, vs A4 namesA c5)] ⟨hst.e hA2 0, trivial⟩ ?_
 obtain ⟨hb6, h⟩ := chk_some h
 obtain ⟨A7, c8, hs9, hI10⟩ := RS.sub (P := Tryz.prog) hv3 hb6
 refine vl (hI10.r .i64) (s0 1 [(5, vstr a0)] ?_)
 obtain ⟨r11, hq12, h⟩ := bs h
 refine cal (c_slices_Contains_string hq12 hst hs9) ?_
 rintro _ _ ⟨m13, rfl, hl14, hst⟩
 refine s0 1 [(2, vb r11)] (nl (tn (wp_ret (wr [vb r11] ?_))))
 have h := Option.some.inj h; subst h
 exact ⟨_, rfl, m13, rfl, hl14, hst⟩

def R_parser_name_i3 (g : World) (m : Mem) (F : List Asr) (ob0 : Nat) (r : SParser × Str) (v : Value) (w' : World) : Prop := ∃ (m' : Mem), v = vstr r.2 ∧ m.le m' ∧ St g m' (oo ob0 155 (cSParser r.1) :: F) w'
theorem c_parser_name_i3 {k : Nat} {a0 : SParser} {r : Except Pan (SParser × Str)} {g : World} {m : Mem} {F : List Asr} {w : World} {ob0 : Nat} (h : parser_name_i3 k a0 = some r) (hst : St g m (oo ob0 155 (cSParser a0) :: F) w) (hG : Glob m) :
    Calls Tryz.prog 156 ⟨[vp ob0 0, vf 160 [] []]⟩ w (XPost (R_parser_name_i3 g m F ob0) g m F r) := by
 refine calls_enter Tryz.func156 rfl rfl ?_
 unfold parser_name_i3 at h
 refine qr (s0 1 [(4, vstr w_0)] (nl (tn (sq (wc_join (fun a w => ∃ (f0 : Fr) (k23 : Nat) (m25 : Mem) (x21 : Bool), a = act Tryz.f156.ntmps (upds f0 [(0, vp ob0 0), (4, vstr w_0), (21, vb x21)]) ∧ k23 ≤ k ∧ parser_name_i3_j1 k23 a0 x21 = some r ∧ m.le m25 ∧ St g m25 (oo ob0 155 (cSParser a0) :: F) w) ?_ ?_)))))
 ·rintro _ _ ⟨f0, k23, m25, x21, rfl, hk24, h, hl22, hst⟩
  unfold parser_name_i3_j1 at h
  refine cn h (fun h => ?_) (fun h => ?_)
  ·refine rg (s0 1 [(22, vp ob0 0)] ?_)
   rcases xbind_some h with ⟨p30, hq27, rfl⟩ | ⟨r26, hq27, h⟩
   ·exact cpa (c_parser_wrong hq27 hst) (fun _ _ hp => ⟨rfl, _, rfl, hp.p hl22 1 []⟩)
   cases h
  refine wp_skip (tn (qr (sg 6 [(24, vp ob0 0), (25, vp ob0 0), (26, vp ob0 2), (27, vp ob0 4), (28, vstr a0.t_.s_), (5, vstr a0.t_.s_)] [(ad ob0 4, vstr a0.t_.s_)] ⟨hst.c 0, trivial⟩ (nl (tn (qr (s0 1 [(29, vp ob0 0)] ?_)))))))
  rcases xbind_some h with ⟨p35, hq32, rfl⟩ | ⟨r31, hq32, h⟩
  ·exact cpa (c_parser_advance hq32 hst) (fun _ _ hp => ⟨rfl, _, rfl, hp.p hl22 0 []⟩)
  refine cal (c_parser_advance hq32 hst) ?_
  rintro _ _ ⟨m33, rfl, hl34, hst⟩
  refine nl (tn (qr (s0 2 [(31, vstr a0.t_.s_), (4, vstr a0.t_.s_)] (nl (tn (wp_ret (wr [vstr a0.t_.s_] ?_)))))))
  have e36 := hl22.trans hl34
  cases h
  exact ⟨_, rfl, m33, rfl, e36, hst⟩
 refine rg (sg 7 [(6, vp ob0 0), (7, vp ob0 0), (8, vp ob0 2), (9, vp ob0 2), (10, vi a0.t_.kind), (11, vb (a0.t_.kind != 1)), (12, vb (a0.t_.kind != 1))] [(ad ob0 2, vi a0.t_.kind)] ⟨hst.c 0, trivial⟩ ?_)
 rcases sp h with ⟨hc37, h⟩ | ⟨hc37, h⟩
 ·rw [hc37]
  refine s0 9 [(13, undef), (14, undef), (15, undef), (16, undef), (17, undef), (18, undef), (19, undef), (20, undef), (21, vb true)] (nl (tn ?_))
  exact ⟨_, k, m, (true), (act_upds ⟨by kernel_rfl, by kernel_rfl, by kernel_rfl, trivial⟩), (by omega), h, (Mem.le.refl _), hst⟩
 rw [hc37]
 refine sg 6 [(13, vf 160 [] []), (14, vp ob0 0), (15, vp ob0 0), (16, vp ob0 2), (17, vp ob0 4), (18, vstr a0.t_.s_)] [(ad ob0 4, vstr a0.t_.s_)] ⟨hst.c 0, trivial⟩ ?_
 obtain ⟨r38, hq39, h⟩ := bs h
 refine cal (c_parser_aggregate_c1 hq39 hst hG) ?_
 rintro _ _ ⟨m40, rfl, hl41, hst⟩
 refine s0 2 [(20, vb (!r38)), (21, vb (!r38))] (nl (tn ?_))
 exact ⟨_, k, m40, (!r38), (act_upds ⟨by kernel_rfl, by kernel_rfl, by kernel_rfl, trivial⟩), (by omega), h, hl41, hst⟩

def R_parser_aggregate (g : World) (m : Mem) (F : List Asr) (ob0 : Nat) (r : SParser × GAggregate) (v : Value) (w' : World) : Prop := ∃ (m' : Mem), v = va (cGAggregate r.2) ∧ m.le m' ∧ St g m' (oo ob0 155 (cSParser r.1) :: F) w'
theorem c_parser_aggregate {k : Nat} {a0 : SParser} {r : Except Pan (SParser × GAggregate)} {g : World} {m : Mem} {F : List Asr} {w : World} {ob0 : Nat} (h : parser_aggregate k a0 = some r) (hst : St g m (oo ob0 155 (cSParser a0) :: F) w) (hG : Glob m) :
    Calls Tryz.prog 115 ⟨[vp ob0 0]⟩ w (XPost (R_parser_aggregate g m F ob0) g m F r) := by
 refine calls_enter Tryz.func115 rfl rfl ?_
 unfold parser_aggregate at h
 refine qr (al [vi 0, vstr w_0, vstr w_0, vstr w_0, vi 0, vi 0] hst (fun b1 _ hst => ?_))
 refine nl (tn (qr (s0 1 [(5, vp ob0 0)] ?_)))
 have hst := pk1 hst
 rcases xbind_some h with ⟨p6, hq3, rfl⟩ | ⟨r2, hq3, h⟩
 ·exact cpa (c_parser_name_i3 hq3 hst hG) (fun _ _ hp => ⟨rfl, _, rfl, hp.p (Mem.le.refl _) 1 []⟩)
 refine cal (c_parser_name_i3 hq3 hst hG) ?_
 rintro _ _ ⟨m4, rfl, hl5, hst⟩
 refine s0 1 [(3, vstr r2.2)] (nl (tn (qr ?_)))
 obtain ⟨v7, hA8, hv9⟩ := (Glob.mono hl5 hG).a
 obtain ⟨A10, c11, rfl⟩ := hv9.shape
 refine sg 2 [(7, vs A10 namesA c11), (8, vstr r2.2)] [(ad 2 0, vs A10 namesA c11)] ⟨hst.e hA8 0, trivial⟩ ?_
 obtain ⟨r12, hq13, h⟩ := bs h
 refine cal (c_slices_Index_string hq13 hst hv9) ?_
 rintro _ _ ⟨m14, rfl, hl15, hst⟩
 refine s0 1 [(10, va [vi r12, vstr w_0, vstr w_0, vstr w_0, vi 0, vi 0])] (al [vi 0, vstr w_0, vstr w_0, vstr w_0, vi 0, vi 0] hst (fun b16 _ hst => ?_))
 refine so0 0 [vi r12, vstr w_0, vstr w_0, vstr w_0, vi 0, vi 0] [vi r12, vstr w_0, vstr w_0, vstr w_0, vi 0, vi 0] hst (fun _ hst => ?_)
 refine nl (tn (sq (qr (sg 3 [(11, vp b16 0), (12, vi r12), (13, vb (decide (r12 ≤ 3)))] [(ad b16 0, vi r12)] ⟨hst.c 0, trivial⟩ (nl (tn (cn h (fun h => ?_) (fun h => ?_))))))))
 ·refine qr (sg 1 [(14, va [vi r12, vstr w_0, vstr w_0, vstr w_0, vi 0, vi 0])] [(ad b16 0, vi r12), (ad b16 1, vstr w_0), (ad b16 2, vstr w_0), (ad b16 3, vstr w_0), (ad b16 4, vi 0), (ad b16 5, vi 0)] ⟨hst.c 0, hst.c 0, hst.c 0, hst.c 0, hst.c 0, hst.c 0, trivial⟩ (so2 0 [vi r12, vstr w_0, vstr w_0, vstr w_0, vi 0, vi 0] [vi r12, vstr w_0, vstr w_0, vstr w_0, vi 0, vi 0] hst (fun _ hst => ?_)))
  refine nl (tn (wp_ret (tr (wrr [va [vi r12, vstr w_0, vstr w_0, vstr w_0, vi 0, vi 0]] [(ad b1 0, vi r12), (ad b1 1, vstr w_0), (ad b1 2, vstr w_0), (ad b1 3, vstr w_0), (ad b1 4, vi 0), (ad b1 5, vi 0)] ⟨hst.c 2, hst.c 2, hst.c 2, hst.c 2, hst.c 2, hst.c 2, trivial⟩ ?_))))
  have hst := pk15 hst
  have e17 := hl5.trans hl15
  cases h
  exact ⟨_, rfl, m14, rfl, e17, hst⟩
 refine wp_skip (tn (qr (s0 1 [(15, vp ob0 0)] ?_)))
 have hst := pk1 hst
 rcases xbind_some h with ⟨p22, hq19, rfl⟩ | ⟨r18, hq19, h⟩
 ·have e23 := hl5.trans hl15
  exact cpa (c_parser_need hq19 hst) (fun _ _ hp => ⟨rfl, _, rfl, hp.p e23 2 []⟩)
 refine cal (c_parser_need hq19 hst) ?_
 rintro _ _ ⟨m20, rfl, hl21, hst⟩
 refine nl (tn (sq (qr (sg 3 [(17, vp b16 0), (18, vi r12), (19, vb (r12 == 7))] [(ad b16 0, vi r12)] ⟨hst.c 1, trivial⟩ (nl (tn (cn h (fun h => ?_) (fun h => ?_))))))))
 ·refine qr (s0 1 [(20, vp ob0 0)] ?_)
  rcases xbind_some h with ⟨p28, hq25, rfl⟩ | ⟨r24, hq25, h⟩
  ·have e29 := hl5.trans (hl15.trans hl21)
   exact cpa (c_parser_int hq25 hst) (fun _ _ hp => ⟨rfl, _, rfl, hp.p e29 2 []⟩)
  refine cal (c_parser_int hq25 hst) ?_
  rintro _ _ ⟨m26, rfl, hl27, hst⟩
  refine s0 2 [(22, vp b16 4), (23, vp b16 4)] (so1 4 [vi r24.2] [vi r12, vstr w_0, vstr w_0, vstr w_0, vi r24.2, vi 0] hst (fun _ hst => ?_))
  refine nl (tn (qr (s0 1 [(24, vp ob0 0)] ?_)))
  rcases xbind_some h with ⟨p34, hq31, rfl⟩ | ⟨r30, hq31, h⟩
  ·have e35 := hl5.trans (hl15.trans (hl21.trans hl27))
   exact cpa (c_parser_need hq31 hst) (fun _ _ hp => ⟨rfl, _, rfl, hp.p e35 2 []⟩)
  refine cal (c_parser_need hq31 hst) ?_
  rintro _ _ ⟨m32, rfl, hl33, hst⟩
  refine nl (tn (qr (s0 1 [(26, vp ob0 0)] ?_)))
  rcases xbind_some h with ⟨p40, hq37, rfl⟩ | ⟨r36, hq37, h⟩
  ·have e41 := hl5.trans (hl15.trans (hl21.trans (hl27.trans hl33)))
   exact cpa (c_parser_int hq37 hst) (fun _ _ hp => ⟨rfl, _, rfl, hp.p e41 2 []⟩)
  refine cal (c_parser_int hq37 hst) ?_
  rintro _ _ ⟨m38, rfl, hl39, hst⟩
  refine s0 2 [(28, vp b16 4), (29, vp b16 5)] (so1 5 [vi r36.2] [vi r12, vstr w_0, vstr w_0, vstr w_0, vi r24.2, vi r36.2] hst (fun _ hst => ?_))
  refine nl (tn (rg (s0 1 [(30, vp ob0 0)] ?_)))
  rcases xbind_some h with ⟨p46, hq43, rfl⟩ | ⟨r42, hq43, h⟩
  ·have e47 := hl5.trans (hl15.trans (hl21.trans (hl27.trans (hl33.trans hl39))))
   exact cpa (c_parser_need hq43 hst) (fun _ _ hp => ⟨rfl, _, rfl, hp.p e47 2 []⟩)
  refine cal (c_parser_need hq43 hst) ?_
  rintro _ _ ⟨m44, rfl, hl45, hst⟩
  refine nl (tn (qr (s0 1 [(32, vp ob0 0)] ?_)))
  have e52 := hl5.trans (hl15.trans (hl21.trans (hl27.trans (hl33.trans (hl39.trans hl45)))))
  rcases xbind_some h with ⟨p53, hq49, rfl⟩ | ⟨r48, hq49, h⟩
  ·exact cpa (c_parser_column hq49 hst (Glob.mono e52 hG)) (fun _ _ hp => ⟨rfl, _, rfl, hp.p e52 2 []⟩)
  refine cal (c_parser_column hq49 hst (Glob.mono e52 hG)) ?_
  rintro _ _ ⟨m50, rfl, hl51, hst⟩
  refine s0 1 [(34, vp b16 1)] (so1 1 (cGColumn r48.2) [vi r12, vstr r48.2.Var, vstr r48.2.Field, vstr r48.2.Key, vi r24.2, vi r36.2] hst (fun _ hst => ?_))
  refine nl (tn (qr (s0 1 [(35, vp ob0 0)] ?_)))
  rcases xbind_some h with ⟨p58, hq55, rfl⟩ | ⟨r54, hq55, h⟩
  ·have e59 := e52.trans hl51
   exact cpa (c_parser_need hq55 hst) (fun _ _ hp => ⟨rfl, _, rfl, hp.p e59 2 []⟩)
  refine cal (c_parser_need hq55 hst) ?_
  rintro _ _ ⟨m56, rfl, hl57, hst⟩
  refine nl (tn (qr (sg 1 [(37, va [vi r12, vstr r48.2.Var, vstr r48.2.Field, vstr r48.2.Key, vi r24.2, vi r36.2])] [(ad b16 0, vi r12), (ad b16 1, vstr r48.2.Var), (ad b16 2, vstr r48.2.Field), (ad b16 3, vstr r48.2.Key), (ad b16 4, vi r24.2), (ad b16 5, vi r36.2)] ⟨hst.c 1, hst.c 1, hst.c 1, hst.c 1, hst.c 1, hst.c 1, trivial⟩ (so2 0 [vi r12, vstr r48.2.Var, vstr r48.2.Field, vstr r48.2.Key, vi r24.2, vi r36.2] [vi r12, vstr r48.2.Var, vstr r48.2.Field, vstr r48.2.Key, vi r24.2, vi r36.2] hst (fun _ hst => ?_)))))
  refine nl (tn (wp_ret (wrr [va [vi r12, vstr r48.2.Var, vstr r48.2.Field, vstr r48.2.Key, vi r24.2, vi r36.2]] [(ad b1 0, vi r12), (ad b1 1, vstr r48.2.Var), (ad b1 2, vstr r48.2.Field), (ad b1 3, vstr r48.2.Key), (ad b1 4, vi r24.2), (ad b1 5, vi r36.2)] ⟨hst.c 2, hst.c 2, hst.c 2, hst.c 2, hst.c 2, hst.c 2, trivial⟩ ?_)))
  have hst := pk6 hst
  have e60 := e52.trans (hl51.trans hl57)
  cases h
  exact ⟨_, rfl, m56, rfl, e60, hst⟩
 refine wp_skip (tn (qr (s0 1 [(32, vp ob0 0)] ?_)))
 have e65 := hl5.trans (hl15.trans hl21)
 rcases xbind_some h with ⟨p66, hq62, rfl⟩ | ⟨r61, hq62, h⟩
 ·exact cpa (c_parser_column hq62 hst (Glob.mono e65 hG)) (fun _ _ hp => ⟨rfl, _, rfl, hp.p e65 2 []⟩)
 refine cal (c_parser_column hq62 hst (Glob.mono e65 hG)) ?_
 rintro _ _ ⟨m63, rfl, hl64, hst⟩
 refine s0 1 [(34, vp b16 1)] (so1 1 (cGColumn r61.2) [vi r12, vstr r61.2.Var, vstr r61.2.Field, vstr r61.2.Key, vi 0, vi 0] hst (fun _ hst => ?_))
 refine nl (tn (qr (s0 1 [(35, vp ob0 0)] ?_)))
 rcases xbind_some h with ⟨p71, hq68, rfl⟩ | ⟨r67, hq68, h⟩
 ·have e72 := e65.trans hl64
  exact cpa (c_parser_need hq68 hst) (fun _ _ hp => ⟨rfl, _, rfl, hp.p e72 2 []⟩)
 refine cal (c_parser_need hq68 hst) ?_
 rintro _ _ ⟨m69, rfl, hl70, hst⟩
 refine nl (tn (qr (sg 1 [(37, va [vi r12, vstr r61.2.Var, vstr r61.2.Field, vstr r61.2.Key, vi 0, vi 0])] [(ad b16 0, vi r12), (ad b16 1, vstr r61.2.Var), (ad b16 2, vstr r61.2.Field), (ad b16 3, vstr r61.2.Key), (ad b16 4, vi 0), (ad b16 5, vi 0)] ⟨hst.c 1, hst.c 1, hst.c 1, hst.c 1, hst.c 1, hst.c 1, trivial⟩ (so2 0 [vi r12, vstr r61.2.Var, vstr r61.2.Field, vstr r61.2.Key, vi 0, vi 0] [vi r12, vstr r61.2.Var, vstr r61.2.Field, vstr r61.2.Key, vi 0, vi 0] hst (fun _ hst => ?_)))))
 refine nl (tn (wp_ret (wrr [va [vi r12, vstr r61.2.Var, vstr r61.2.Field, vstr r61.2.Key, vi 0, vi 0]] [(ad b1 0, vi r12), (ad b1 1, vstr r61.2.Var), (ad b1 2, vstr r61.2.Field), (ad b1 3, vstr r61.2.Key), (ad b1 4, vi 0), (ad b1 5, vi 0)] ⟨hst.c 2, hst.c 2, hst.c 2, hst.c 2, hst.c 2, hst.c 2, trivial⟩ ?_)))
 have hst := pk6 hst
 have e73 := e65.trans (hl64.trans hl70)
 cases h
 exact ⟨_, rfl, m69, rfl, e73, hst⟩

def R_parser_query_c4 (g : World) (m : Mem) (F : List Asr) (ob0 : Nat) (ob1 : Nat) (ob2 : Nat) (r : GQuery × SParser) (v : Value) (w' : World) : Prop := ∃ (m' : Mem) (A6 : Option Addr) (c6 : Nat) (cs6 : List Value) (A7 : Option Addr) (c7 : Nat) (cs7 : List Value) (A8 : Option Addr) (c8 : Nat) (cs8 : List Value) (A9 : Option Addr) (c9 : Nat) (cs9 : List Value) (A10 : Option Addr) (c10 : Nat) (cs10 : List Value) (A11 : Option Addr) (c11 : Nat) (cs11 : List Value), v = vt [] ∧ m.le m' ∧ St g m' (oo ob0 36 (cGQuery r.1 (vs A6 r.1.Variables c6) (vs A7 r.1.Relations c7) (vs A8 r.1.Absences c8) (vs A9 r.1.Group c9) (vs A10 r.1.Compute c10) (vs A11 r.1.Order c11)) :: rw_ 95 8 A6 r.1.Variables c6 cs6 :: rw_ 104 3 A7 r.1.Relations c7 cs7 :: rw_ 106 11 A8 r.1.Absences c8 cs8 :: rw_ 101 3 A9 r.1.Group c9 cs9 :: rw_ 110 6 A10 r.1.Compute c10 cs10 :: rw_ 112 2 A11 r.1.Order c11 cs11 :: oo ob1 86 [vp ob2 0] :: oo ob2 155 (cSParser r.2) :: F) w' ∧ RC (TGVariable) m' r.1.Variables cs6 ∧ RC (TGRelation) m' r.1.Relations cs7 ∧ RC (TGAbsence) m' r.1.Absences cs8 ∧ RC (TGColumn) m' r.1.Group cs9 ∧ RC (TGAggregate) m' r.1.Compute cs10 ∧ RC (TGOrderKey) m' r.1.Order cs11
theorem c_parser_query_c4 {k : Nat} {a0 : GQuery} {a2 : SParser} {r : Except Pan (GQuery × SParser)} {g : World} {m : Mem} {F : List Asr} {w : World} {ob0 : Nat} {ob1 : Nat} {ob2 : Nat} {A6_ : Option Addr} {c6_ : Nat} {cs6_ : List Value} {A7_ : Option Addr} {c7_ : Nat} {cs7_ : List Value} {A8_ : Option Addr} {c8_ : Nat} {cs8_ : List Value} {A9_ : Option Addr} {c9_ : Nat} {cs9_ : List Value} {A10_ : Option Addr} {c10_ : Nat} {cs10_ : List Value} {A11_ : Option Addr} {c11_ : Nat} {cs11_ : List Value} (h : parser_query_c4 k a0 a2 = some r) (hst : St g m (oo ob0 36 (cGQuery a0 (vs A6_ a0.Variables c6_) (vs A7_ a0.Relations c7_) (vs A8_ a0.Absences c8_) (vs A9_ a0.Group c9_) (vs A10_ a0.Compute c10_) (vs A11_ a0.Order c11_)) :: rw_ 95 8 A6_ a0.Variables c6_ cs6_ :: rw_ 104 3 A7_ a0.Relations c7_ cs7_ :: rw_ 106 11 A8_ a0.Absences c8_ cs8_ :: rw_ 101 3 A9_ a0.Group c9_ cs9_ :: rw_ 110 6 A10_ a0.Compute c10_ cs10_ :: rw_ 112 2 A11_ a0.Order c11_ cs11_ :: oo ob1 86 [vp ob2 0] :: oo ob2 155 (cSParser a2) :: F) w) (hrc6_ : RC (TGVariable) m a0.Variables cs6_) (hrc7_ : RC (TGRelation) m a0.Relations cs7_) (hrc8_ : RC (TGAbsence) m a0.Absences cs8_) (hrc9_ : RC (TGColumn) m a0.Group cs9_) (hrc10_ : RC (TGAggregate) m a0.Compute cs10_) (hrc11_ : RC (TGOrderKey) m a0.Order cs11_) (hG : Glob m) :
    Calls Tryz.prog 114 ⟨[vp ob0 0, vp ob1 0]⟩ w (XPost (R_parser_query_c4 g m F ob0 ob1 ob2) g m (oo ob0 36 (cGQuery a0 (vs A6_ a0.Variables c6_) (vs A7_ a0.Relations c7_) (vs A8_ a0.Absences c8_) (vs A9_ a0.Group c9_) (vs A10_ a0.Compute c10_) (vs A11_ a0.Order c11_)) :: rw_ 95 8 A6_ a0.Variables c6_ cs6_ :: rw_ 104 3 A7_ a0.Relations c7_ cs7_ :: rw_ 106 11 A8_ a0.Absences c8_ cs8_ :: rw_ 101 3 A9_ a0.Group c9_ cs9_ :: rw_ 110 6 A10_ a0.Compute c10_ cs10_ :: rw_ 112 2 A11_ a0.Order c11_ cs11_ :: oo ob1 86 [vp ob2 0] :: F) r) := by
 refine calls_enter Tryz.func114 rfl rfl ?_
 unfold parser_query_c4 at h
 refine wc_draw false (fun x => Rd m (oo ob0 36 (cGQuery a0 (vs A6_ a0.Variables c6_) (vs A7_ a0.Relations c7_) (vs A8_ a0.Absences c8_) (vs A9_ a0.Group c9_) (vs A10_ a0.Compute c10_) (vs A11_ a0.Order c11_)) :: oo ob1 86 [vp ob2 0] :: []) x) (by kernel_rfl) ?_
 have hst := hst.drew
 refine wpG_seg [0, 2, 1] [(2, vp ob0 6), (4, vp ob2 0), (3, vs A10_ a0.Compute c10_)] [(ad ob1 0, vp ob2 0), (ad ob0 6, vs A10_ a0.Compute c10_)] #[true, true, true, false, false, false, false, false] (fuel := 5) PQ.body (by kernel_rfl) (by kernel_rfl) (hst.rd.with_ 0 rfl (hst.rd.with_ 7 rfl (hst.rd.none_))) (fun x hx => ⟨hx.c 1, hx.c 0, trivial⟩) ?_
 refine wpG_exec 3 (by kernel_rfl) rfl ?_
 have hst := pk11 hst
 rcases xbind_some h with ⟨p16, hq13, rfl⟩ | ⟨r12, hq13, h⟩
 ·exact cpa (c_parser_aggregate hq13 hst hG) (fun _ _ hp => ⟨rfl, _, rfl, hp.p (Mem.le.refl _) 8 [0, 0, 0, 0, 0, 0, 0, 0]⟩)
 refine cal (c_parser_aggregate hq13 hst hG) ?_
 rintro _ _ ⟨m14, rfl, hl15, hst⟩
 refine nl (tn (⟨_, fun _ h => h, .inr (Rd.lower hl15 (hst.rd.with_ 1 rfl (hst.rd.with_ 8 rfl (hst.rd.none_)))), ?_⟩))
 refine wpG_exec 4 (by kernel_rfl) rfl (li 110 1 [vi r12.2.Kind, vstr r12.2.Column.Var, vstr r12.2.Column.Field, vstr r12.2.Column.Key, vi r12.2.Q.Num, vi r12.2.Q.Den] hst (fun b17 _ hst => ?_))
 refine nl (tn (⟨_, fun _ h => h, .inr (Rd.lower hl15 (hst.rd.with_ 2 rfl (hst.rd.with_ 9 rfl (hst.rd.none_)))), ?_⟩))
 refine wpG_exec 5 (by kernel_rfl) rfl ?_
 obtain ⟨hb18, h⟩ := chk_some h
 refine ap7 (TGAggregate) (xs := a0.Compute) (ys := [r12.2]) 72 1 0 hst (RC.mono hl15 hrc10_) (RC.k6 (TGAggregate.close_ r12.2) (RC.nil _ _)) hb18 (fun A19 c20 cs21 _ hrc22 hst => ?_)
 have hst := pk0 hst
 refine nl (tn (⟨_, fun _ h => h, .inr (Rd.lower hl15 (hst.rd.with_ 1 rfl (hst.rd.with_ 8 rfl (hst.rd.none_)))), ?_⟩))
 refine wpG_strong (S2 := fun x => Rd m14 (oo ob0 36 (cGQuery a0 (vs A6_ a0.Variables c6_) (vs A7_ a0.Relations c7_) (vs A8_ a0.Absences c8_) (vs A9_ a0.Group c9_) (vs A10_ a0.Compute c10_) (vs A11_ a0.Order c11_)) :: oo ob1 86 [vp ob2 0] :: []) x) (fun x hx => Rd.lower hl15 hx) ?_
 refine wpG_seg [6] [(8, vp ob0 6)] [] #[true, true, true, true, true, true, true, false] (fuel := 1) PQ.body (by kernel_rfl) (by kernel_rfl) (hst.rd.with_ 1 rfl (hst.rd.with_ 8 rfl (hst.rd.none_))) (fun x hx => trivial) ?_
 refine wpG_exec 7 (by kernel_rfl) rfl (so1 6 [vs A19 (a0.Compute ++ [r12.2]) c20] [vs A6_ a0.Variables c6_, vs A7_ a0.Relations c7_, vs A8_ a0.Absences c8_, vi a0.Slots.From, vi a0.Slots.To, vs A9_ a0.Group c9_, vs A19 (a0.Compute ++ [r12.2]) c20, vs A11_ a0.Order c11_, vi a0.Limit] hst (fun _ hst => ?_))
 refine nl (tn (⟨_, fun _ h => h, .inl ⟨rfl, allListed_of _ (by kernel_rfl)⟩, ?_⟩))
 refine wpG_done (by kernel_rfl) (we [] ?_)
 have hst := pk12 hst
 cases h
 exact ⟨_, rfl, m14, A6_, c6_, cs6_, A7_, c7_, cs7_, A8_, c8_, cs8_, A9_, c9_, cs9_, A19, c20, cs21, A11_, c11_, cs11_, rfl, hl15, hst, (RC.mono hl15 hrc6_), (RC.mono hl15 hrc7_), (RC.mono hl15 hrc8_), (RC.mono hl15 hrc9_), hrc22, (RC.mono hl15 hrc11_)⟩

def R_parser_list_i3 (g : World) (m : Mem) (F : List Asr) (ob0 : Nat) (ob1 : Nat) (ob2 : Nat) (r : SParser × GQuery) (v : Value) (w' : World) : Prop := ∃ (m' : Mem) (A6 : Option Addr) (c6 : Nat) (cs6 : List Value) (A7 : Option Addr) (c7 : Nat) (cs7 : List Value) (A8 : Option Addr) (c8 : Nat) (cs8 : List Value) (A9 : Option Addr) (c9 : Nat) (cs9 : List Value) (A10 : Option Addr) (c10 : Nat) (cs10 : List Value) (A11 : Option Addr) (c11 : Nat) (cs11 : List Value), v = vt [] ∧ m.le m' ∧ St g m' (oo ob0 155 (cSParser r.1) :: oo ob1 36 (cGQuery r.2 (vs A6 r.2.Variables c6) (vs A7 r.2.Relations c7) (vs A8 r.2.Absences c8) (vs A9 r.2.Group c9) (vs A10 r.2.Compute c10) (vs A11 r.2.Order c11)) :: rw_ 95 8 A6 r.2.Variables c6 cs6 :: rw_ 104 3 A7 r.2.Relations c7 cs7 :: rw_ 106 11 A8 r.2.Absences c8 cs8 :: rw_ 101 3 A9 r.2.Group c9 cs9 :: rw_ 110 6 A10 r.2.Compute c10 cs10 :: rw_ 112 2 A11 r.2.Order c11 cs11 :: oo ob2 86 [vp ob0 0] :: F) w' ∧ RC (TGVariable) m' r.2.Variables cs6 ∧ RC (TGRelation) m' r.2.Relations cs7 ∧ RC (TGAbsence) m' r.2.Absences cs8 ∧ RC (TGColumn) m' r.2.Group cs9 ∧ RC (TGAggregate) m' r.2.Compute cs10 ∧ RC (TGOrderKey) m' r.2.Order cs11
theorem c_parser_list_i3 {k : Nat} {a0 : SParser} {a1 : GQuery} {r : Except Pan (SParser × GQuery)} {g : World} {m : Mem} {F : List Asr} {w : World} {ob0 : Nat} {ob1 : Nat} {ob2 : Nat} {A6_ : Option Addr} {c6_ : Nat} {cs6_ : List Value} {A7_ : Option Addr} {c7_ : Nat} {cs7_ : List Value} {A8_ : Option Addr} {c8_ : Nat} {cs8_ : List Value} {A9_ : Option Addr} {c9_ : Nat} {cs9_ : List Value} {A10_ : Option Addr} {c10_ : Nat} {cs10_ : List Value} {A11_ : Option Addr} {c11_ : Nat} {cs11_ : List Value} (h : parser_list_i3 k a0 a1 = some r) (hst : St g m (oo ob0 155 (cSParser a0) :: oo ob1 36 (cGQuery a1 (vs A6_ a1.Variables c6_) (vs A7_ a1.Relations c7_) (vs A8_ a1.Absences c8_) (vs A9_ a1.Group c9_) (vs A10_ a1.Compute c10_) (vs A11_ a1.Order c11_)) :: rw_ 95 8 A6_ a1.Variables c6_ cs6_ :: rw_ 104 3 A7_ a1.Relations c7_ cs7_ :: rw_ 106 11 A8_ a1.Absences c8_ cs8_ :: rw_ 101 3 A9_ a1.Group c9_ cs9_ :: rw_ 110 6 A10_ a1.Compute c10_ cs10_ :: rw_ 112 2 A11_ a1.Order c11_ cs11_ :: oo ob2 86 [vp ob0 0] :: F) w) (hrc6_ : RC (TGVariable) m a1.Variables cs6_) (hrc7_ : RC (TGRelation) m a1.Relations cs7_) (hrc8_ : RC (TGAbsence) m a1.Absences cs8_) (hrc9_ : RC (TGColumn) m a1.Group cs9_) (hrc10_ : RC (TGAggregate) m a1.Compute cs10_) (hrc11_ : RC (TGOrderKey) m a1.Order cs11_) (hG : Glob m) :
    Calls Tryz.prog 105 ⟨[vp ob0 0, vf 114 [] [vp ob1 0, vp ob2 0]]⟩ w (XPost (R_parser_list_i3 g m F ob0 ob1 ob2) g m (oo ob2 86 [vp ob0 0] :: F) r) := by
 refine calls_enter Tryz.func105 rfl rfl ?_
 unfold parser_list_i3 at h
 refine qr (s0 1 [(4, vf 114 [] [vp ob1 0, vp ob2 0])] ?_)
 have hst := pk12 hst
 rcases xbind_some h with ⟨p5, hq2, rfl⟩ | ⟨r1, hq2, h⟩
 ·exact cpa (c_parser_query_c4 hq2 hst hrc6_ hrc7_ hrc8_ hrc9_ hrc10_ hrc11_ hG) (fun _ _ hp => ⟨rfl, _, rfl, hp.p (Mem.le.refl _) 8 [7]⟩)
 refine cal (c_parser_query_c4 hq2 hst hrc6_ hrc7_ hrc8_ hrc9_ hrc10_ hrc11_ hG) ?_
 rintro _ _ ⟨m3, A12, c13, cs14, A16, c17, cs18, A20, c21, cs22, A24, c25, cs26, A28, c29, cs30, A32, c33, cs34, rfl, hl4, hst, hrc15, hrc19, hrc23, hrc27, hrc31, hrc35⟩
 refine nl (tn (bk (wc_loop (fun kk a w => ∃ (f0 : Fr) (m239 : Mem) (x116 : List GVariable) (A117 : Option Addr) (c118 : Nat) (cs119 : List Value) (x121 : List GRelation) (A122 : Option Addr) (c123 : Nat) (cs124 : List Value) (x126 : List GAbsence) (A127 : Option Addr) (c128 : Nat) (cs129 : List Value) (x131 : List GColumn) (A132 : Option Addr) (c133 : Nat) (cs134 : List Value) (x136 : List GAggregate) (A137 : Option Addr) (c138 : Nat) (cs139 : List Value) (x141 : List GOrderKey) (A142 : Option Addr) (c143 : Nat) (cs144 : List Value) (x146 : Int) (x147 : Int) (x148 : Int) (x149 : Str) (x150 : Int) (x151 : Int) (x152 : Int) (x153 : Str) (x154 : Int), a = act Tryz.f105.ntmps (upds f0 [(0, vp ob0 0), (1, vf 114 [] [vp ob1 0, vp ob2 0])]) ∧ kk ≤ k ∧ parser_list_i3_l1 kk x116 x121 x126 x131 x136 x141 x146 x147 x148 x149 x150 x151 x152 x153 x154 = some r ∧ m3.le m239 ∧ St g m239 (oo ob1 36 [vs A117 x116 c118, vs A122 x121 c123, vs A127 x126 c128, vi x146, vi x147, vs A132 x131 c133, vs A137 x136 c138, vs A142 x141 c143, vi x148] :: rw_ 95 8 A117 x116 c118 cs119 :: rw_ 104 3 A122 x121 c123 cs124 :: rw_ 106 11 A127 x126 c128 cs129 :: rw_ 101 3 A132 x131 c133 cs134 :: rw_ 110 6 A137 x136 c138 cs139 :: rw_ 112 2 A142 x141 c143 cs144 :: oo ob2 86 [vp ob0 0] :: oo ob0 155 [vstr x149, vi x150, vi x151, vi x152, vstr x153, vi x154] :: F) w ∧ RC (TGVariable) m239 x116 cs119 ∧ RC (TGRelation) m239 x121 cs124 ∧ RC (TGAbsence) m239 x126 cs129 ∧ RC (TGColumn) m239 x131 cs134 ∧ RC (TGAggregate) m239 x136 cs139 ∧ RC (TGOrderKey) m239 x141 cs144) k ?_ ?_)))
 ·exact ⟨_, m3, (r1.1.Variables), A12, c13, cs14, (r1.1.Relations), A16, c17, cs18, (r1.1.Absences), A20, c21, cs22, (r1.1.Group), A24, c25, cs26, (r1.1.Compute), A28, c29, cs30, (r1.1.Order), A32, c33, cs34, (r1.1.Slots.From), (r1.1.Slots.To), (r1.1.Limit), (r1.2.x_.s_), (r1.2.x_.at_), (r1.2.t_.kind), (r1.2.t_.at_), (r1.2.t_.s_), (r1.2.t_.n_), (act_upds ⟨by kernel_rfl, by kernel_rfl, trivial⟩), (Nat.le_refl _), h, (Mem.le.refl _), hst, hrc15, hrc19, hrc23, hrc27, hrc31, hrc35⟩
 rintro k237 ih238 _ _ ⟨f0, m239, x116, A117, c118, cs119, x121, A122, c123, cs124, x126, A127, c128, cs129, x131, A132, c133, cs134, x136, A137, c138, cs139, x141, A142, c143, cs144, x146, x147, x148, x149, x150, x151, x152, x153, x154, rfl, hk236, h, hl235, hst, hrc120, hrc125, hrc130, hrc135, hrc140, hrc145⟩
 obtain _ | k241 := k237
 ·simp [parser_list_i3_l1] at h
 rw [parser_list_i3_l1] at h
 refine sq (qr (s0 1 [(6, vp ob0 0)] ?_))
 have hst := pk11 hst
 rcases xbind_some h with ⟨p246, hq243, rfl⟩ | ⟨r242, hq243, h⟩
 ·have e247 := hl4.trans hl235
  exact cpa (c_parser_takes hq243 hst) (fun _ _ hp => ⟨rfl, _, rfl, hp.p e247 8 [7]⟩)
 refine cal (c_parser_takes hq243 hst) ?_
 rintro _ _ ⟨m244, rfl, hl245, hst⟩
 refine nl (tn (cn h (fun h => ?_) (fun h => ?_)))
 ·refine wp_skip (tn (bk (rg (s0 1 [(8, vf 114 [] [vp ob1 0, vp ob2 0])] ?_))))
  have hst := pk12 hst
  have e252 := hl4.trans (hl235.trans hl245)
  rcases xbind_some h with ⟨p253, hq249, rfl⟩ | ⟨r248, hq249, h⟩
  ·exact cpa (c_parser_query_c4 hq249 hst (RC.mono hl245 hrc120) (RC.mono hl245 hrc125) (RC.mono hl245 hrc130) (RC.mono hl245 hrc135) (RC.mono hl245 hrc140) (RC.mono hl245 hrc145) (Glob.mono e252 hG)) (fun _ _ hp => ⟨rfl, _, rfl, hp.p e252 8 [7]⟩)
  refine cal (c_parser_query_c4 hq249 hst (RC.mono hl245 hrc120) (RC.mono hl245 hrc125) (RC.mono hl245 hrc130) (RC.mono hl245 hrc135) (RC.mono hl245 hrc140) (RC.mono hl245 hrc145) (Glob.mono e252 hG)) ?_
  rintro _ _ ⟨m250, A260, c261, cs262, A264, c265, cs266, A268, c269, cs270, A272, c273, cs274, A276, c277, cs278, A280, c281, cs282, rfl, hl251, hst, hrc263, hrc267, hrc271, hrc275, hrc279, hrc283⟩
  refine nl (bn (tn ?_))
  have e284 := hl235.trans (hl245.trans hl251)
  exact ih238 k241 (by omega) _ _ ⟨_, m250, (r248.1.Variables), A260, c261, cs262, (r248.1.Relations), A264, c265, cs266, (r248.1.Absences), A268, c269, cs270, (r248.1.Group), A272, c273, cs274, (r248.1.Compute), A276, c277, cs278, (r248.1.Order), A280, c281, cs282, (r248.1.Slots.From), (r248.1.Slots.To), (r248.1.Limit), (r248.2.x_.s_), (r248.2.x_.at_), (r248.2.t_.kind), (r248.2.t_.at_), (r248.2.t_.s_), (r248.2.t_.n_), (act_upds ⟨by kernel_rfl, by kernel_rfl, trivial⟩), (by omega), h, e284, hst, hrc263, hrc267, hrc271, hrc275, hrc279, hrc283⟩
 refine wp_exit (tx (tx (bx (we [] ?_))))
 have e285 := hl4.trans (hl235.trans hl245)
 cases h
 exact ⟨_, rfl, m244, A117, c118, cs119, A122, c123, cs124, A127, c128, cs129, A132, c133, cs134, A137, c138, cs139, A142, c143, cs144, rfl, e285, hst, (RC.mono hl245 hrc120), (RC.mono hl245 hrc125), (RC.mono hl245 hrc130), (RC.mono hl245 hrc135), (RC.mono hl245 hrc140), (RC.mono hl245 hrc145)⟩

def R_parser_query_c5 (g : World) (m : Mem) (F : List Asr) (ob0 : Nat) (ob1 : Nat) (ob2 : Nat) (r : SParser × GQuery) (v : Value) (w' : World) : Prop := ∃ (m' : Mem) (A6 : Option Addr) (c6 : Nat) (cs6 : List Value) (A7 : Option Addr) (c7 : Nat) (cs7 : List Value) (A8 : Option Addr) (c8 : Nat) (cs8 : List Value) (A9 : Option Addr) (c9 : Nat) (cs9 : List Value) (A10 : Option Addr) (c10 : Nat) (cs10 : List Value) (A11 : Option Addr) (c11 : Nat) (cs11 : List Value), v = vt [] ∧ m.le m' ∧ St g m' (oo ob0 86 [vp ob1 0] :: oo ob1 155 (cSParser r.1) :: oo ob2 36 (cGQuery r.2 (vs A6 r.2.Variables c6) (vs A7 r.2.Relations c7) (vs A8 r.2.Absences c8) (vs A9 r.2.Group c9) (vs A10 r.2.Compute c10) (vs A11 r.2.Order c11)) :: rw_ 95 8 A6 r.2.Variables c6 cs6 :: rw_ 104 3 A7 r.2.Relations c7 cs7 :: rw_ 106 11 A8 r.2.Absences c8 cs8 :: rw_ 101 3 A9 r.2.Group c9 cs9 :: rw_ 110 6 A10 r.2.Compute c10 cs10 :: rw_ 112 2 A11 r.2.Order c11 cs11 :: F) w' ∧ RC (TGVariable) m' r.2.Variables cs6 ∧ RC (TGRelation) m' r.2.Relations cs7 ∧ RC (TGAbsence) m' r.2.Absences cs8 ∧ RC (TGColumn) m' r.2.Group cs9 ∧ RC (TGAggregate) m' r.2.Compute cs10 ∧ RC (TGOrderKey) m' r.2.Order cs11
theorem c_parser_query_c5 {k : Nat} {a1 : SParser} {a2 : GQuery} {r : Except Pan (SParser × GQuery)} {g : World} {m : Mem} {F : List Asr} {w : World} {ob0 : Nat} {ob1 : Nat} {ob2 : Nat} {A6_ : Option Addr} {c6_ : Nat} {cs6_ : List Value} {A7_ : Option Addr} {c7_ : Nat} {cs7_ : List Value} {A8_ : Option Addr} {c8_ : Nat} {cs8_ : List Value} {A9_ : Option Addr} {c9_ : Nat} {cs9_ : List Value} {A10_ : Option Addr} {c10_ : Nat} {cs10_ : List Value} {A11_ : Option Addr} {c11_ : Nat} {cs11_ : List Value} (h : parser_query_c5 k a1 a2 = some r) (hst : St g m (oo ob0 86 [vp ob1 0] :: oo ob1 155 (cSParser a1) :: oo ob2 36 (cGQuery a2 (vs A6_ a2.Variables c6_) (vs A7_ a2.Relations c7_) (vs A8_ a2.Absences c8_) (vs A9_ a2.Group c9_) (vs A10_ a2.Compute c10_) (vs A11_ a2.Order c11_)) :: rw_ 95 8 A6_ a2.Variables c6_ cs6_ :: rw_ 104 3 A7_ a2.Relations c7_ cs7_ :: rw_ 106 11 A8_ a2.Absences c8_ cs8_ :: rw_ 101 3 A9_ a2.Group c9_ cs9_ :: rw_ 110 6 A10_ a2.Compute c10_ cs10_ :: rw_ 112 2 A11_ a2.Order c11_ cs11_ :: F) w) (hrc6_ : RC (TGVariable) m a2.Variables cs6_) (hrc7_ : RC (TGRelation) m a2.Relations cs7_) (hrc8_ : RC (TGAbsence) m a2.Absences cs8_) (hrc9_ : RC (TGColumn) m a2.Group cs9_) (hrc10_ : RC (TGAggregate) m a2.Compute cs10_) (hrc11_ : RC (TGOrderKey) m a2.Order cs11_) :
    Calls Tryz.prog 116 ⟨[vp ob0 0, vp ob2 0]⟩ w (XPost (R_parser_query_c5 g m F ob0 ob1 ob2) g m (oo ob0 86 [vp ob1 0] :: oo ob2 36 (cGQuery a2 (vs A6_ a2.Variables c6_) (vs A7_ a2.Relations c7_) (vs A8_ a2.Absences c8_) (vs A9_ a2.Group c9_) (vs A10_ a2.Compute c10_) (vs A11_ a2.Order c11_)) :: rw_ 95 8 A6_ a2.Variables c6_ cs6_ :: rw_ 104 3 A7_ a2.Relations c7_ cs7_ :: rw_ 106 11 A8_ a2.Absences c8_ cs8_ :: rw_ 101 3 A9_ a2.Group c9_ cs9_ :: rw_ 110 6 A10_ a2.Compute c10_ cs10_ :: rw_ 112 2 A11_ a2.Order c11_ cs11_ :: F) r) := by
 refine calls_enter Tryz.func116 rfl rfl ?_
 unfold parser_query_c5 at h
 refine qr (sg 1 [(3, vp ob1 0)] [(ad ob0 0, vp ob1 0)] ⟨hst.c 0, trivial⟩ ?_)
 have hst := pk1 hst
 rcases xbind_some h with ⟨p5, hq2, rfl⟩ | ⟨r1, hq2, h⟩
 ·exact cpa (c_parser_int hq2 hst) (fun _ _ hp => ⟨rfl, _, rfl, hp.p (Mem.le.refl _) 8 [0, 0, 0, 0, 0, 0, 0, 0]⟩)
 refine cal (c_parser_int hq2 hst) ?_
 rintro _ _ ⟨m3, rfl, hl4, hst⟩
 refine s0 1 [(5, va [vi r1.2, vb false])] (al [vi 0, vb false] hst (fun b6 _ hst => ?_))
 refine so0 0 [vi r1.2, vb false] [vi r1.2, vb false] hst (fun _ hst => ?_)
 refine nl (tn (qr (sg 1 [(6, vp ob1 0)] [(ad ob0 0, vp ob1 0)] ⟨hst.c 2, trivial⟩ ?_)))
 have hst := pk1 hst
 rcases xbind_some h with ⟨p11, hq8, rfl⟩ | ⟨r7, hq8, h⟩
 ·exact cpa (c_parser_takes hq8 hst) (fun _ _ hp => ⟨rfl, _, rfl, hp.p hl4 9 [1, 1, 1, 1, 1, 1, 1, 1]⟩)
 refine cal (c_parser_takes hq8 hst) ?_
 rintro _ _ ⟨m9, rfl, hl10, hst⟩
 refine s0 1 [(8, vp b6 1)] (so1 1 [vb r7.2] [vi r1.2, vb r7.2] hst (fun _ hst => ?_))
 refine nl (tn (rg (sg 3 [(9, vp ob2 7), (10, vs A11_ a2.Order c11_), (11, va [vi r1.2, vb r7.2])] [(ad ob2 7, vs A11_ a2.Order c11_), (ad b6 0, vi r1.2), (ad b6 1, vb r7.2)] ⟨hst.c 3, hst.c 1, hst.c 1, trivial⟩ (li 112 1 [vi r1.2, vb r7.2] hst (fun b12 _ hst => ?_)))))
 obtain ⟨hb13, h⟩ := chk_some h
 have e18 := hl4.trans hl10
 refine ap10 (TGOrderKey) (xs := a2.Order) (ys := [(GOrderKey.mk r1.2 r7.2)]) 16 1 0 hst (RC.mono e18 hrc11_) (RC.k2 (TGOrderKey.close_ (GOrderKey.mk r1.2 r7.2)) (RC.nil _ _)) hb13 (fun A14 c15 cs16 _ hrc17 hst => ?_)
 have hst := pk0 hst
 refine s0 1 [(14, vp ob2 7)] (so3 7 [vs A14 (a2.Order ++ [(GOrderKey.mk r1.2 r7.2)]) c15] [vs A6_ a2.Variables c6_, vs A7_ a2.Relations c7_, vs A8_ a2.Absences c8_, vi a2.Slots.From, vi a2.Slots.To, vs A9_ a2.Group c9_, vs A10_ a2.Compute c10_, vs A14 (a2.Order ++ [(GOrderKey.mk r1.2 r7.2)]) c15, vi a2.Limit] hst (fun _ hst => ?_))
 refine nl (we [] ?_)
 have hst := pk16 hst
 cases h
 exact ⟨_, rfl, m9, A6_, c6_, cs6_, A7_, c7_, cs7_, A8_, c8_, cs8_, A9_, c9_, cs9_, A10_, c10_, cs10_, A14, c15, cs16, rfl, e18, hst, (RC.mono e18 hrc6_), (RC.mono e18 hrc7_), (RC.mono e18 hrc8_), (RC.mono e18 hrc9_), (RC.mono e18 hrc10_), hrc17⟩

def R_parser_list_i4 (g : World) (m : Mem) (F : List Asr) (ob0 : Nat) (ob1 : Nat) (ob2 : Nat) (r : SParser × GQuery) (v : Value) (w' : World) : Prop := ∃ (m' : Mem) (A6 : Option Addr) (c6 : Nat) (cs6 : List Value) (A7 : Option Addr) (c7 : Nat) (cs7 : List Value) (A8 : Option Addr) (c8 : Nat) (cs8 : List Value) (A9 : Option Addr) (c9 : Nat) (cs9 : List Value) (A10 : Option Addr) (c10 : Nat) (cs10 : List Value) (A11 : Option Addr) (c11 : Nat) (cs11 : List Value), v = vt [] ∧ m.le m' ∧ St g m' (oo ob0 155 (cSParser r.1) :: oo ob1 86 [vp ob0 0] :: oo ob2 36 (cGQuery r.2 (vs A6 r.2.Variables c6) (vs A7 r.2.Relations c7) (vs A8 r.2.Absences c8) (vs A9 r.2.Group c9) (vs A10 r.2.Compute c10) (vs A11 r.2.Order c11)) :: rw_ 95 8 A6 r.2.Variables c6 cs6 :: rw_ 104 3 A7 r.2.Relations c7 cs7 :: rw_ 106 11 A8 r.2.Absences c8 cs8 :: rw_ 101 3 A9 r.2.Group c9 cs9 :: rw_ 110 6 A10 r.2.Compute c10 cs10 :: rw_ 112 2 A11 r.2.Order c11 cs11 :: F) w' ∧ RC (TGVariable) m' r.2.Variables cs6 ∧ RC (TGRelation) m' r.2.Relations cs7 ∧ RC (TGAbsence) m' r.2.Absences cs8 ∧ RC (TGColumn) m' r.2.Group cs9 ∧ RC (TGAggregate) m' r.2.Compute cs10 ∧ RC (TGOrderKey) m' r.2.Order cs11
theorem c_parser_list_i4 {k : Nat} {a0 : SParser} {a2 : GQuery} {r : Except Pan (SParser × GQuery)} {g : World} {m : Mem} {F : List Asr} {w : World} {ob0 : Nat} {ob1 : Nat} {ob2 : Nat} {A6_ : Option Addr} {c6_ : Nat} {cs6_ : List Value} {A7_ : Option Addr} {c7_ : Nat} {cs7_ : List Value} {A8_ : Option Addr} {c8_ : Nat} {cs8_ : List Value} {A9_ : Option Addr} {c9_ : Nat} {cs9_ : List Value} {A10_ : Option Addr} {c10_ : Nat} {cs10_ : List Value} {A11_ : Option Addr} {c11_ : Nat} {cs11_ : List Value} (h : parser_list_i4 k a0 a2 = some r) (hst : St g m (oo ob0 155 (cSParser a0) :: oo ob1 86 [vp ob0 0] :: oo ob2 36 (cGQuery a2 (vs A6_ a2.Variables c6_) (vs A7_ a2.Relations c7_) (vs A8_ a2.Absences c8_) (vs A9_ a2.Group c9_) (vs A10_ a2.Compute c10_) (vs A11_ a2.Order c11_)) :: rw_ 95 8 A6_ a2.Variables c6_ cs6_ :: rw_ 104 3 A7_ a2.Relations c7_ cs7_ :: rw_ 106 11 A8_ a2.Absences c8_ cs8_ :: rw_ 101 3 A9_ a2.Group c9_ cs9_ :: rw_ 110 6 A10_ a2.Compute c10_ cs10_ :: rw_ 112 2 A11_ a2.Order c11_ cs11_ :: F) w) (hrc6_ : RC (TGVariable) m a2.Variables cs6_) (hrc7_ : RC (TGRelation) m a2.Relations cs7_) (hrc8_ : RC (TGAbsence) m a2.Absences cs8_) (hrc9_ : RC (TGColumn) m a2.Group cs9_) (hrc10_ : RC (TGAggregate) m a2.Compute cs10_) (hrc11_ : RC (TGOrderKey) m a2.Order cs11_) :
    Calls Tryz.prog 105 ⟨[vp ob0 0, vf 116 [] [vp ob1 0, vp ob2 0]]⟩ w (XPost (R_parser_list_i4 g m F ob0 ob1 ob2) g m (oo ob1 86 [vp ob0 0] :: F) r) := by
 refine calls_enter Tryz.func105 rfl rfl ?_
 unfold parser_list_i4 at h
 refine qr (s0 1 [(4, vf 116 [] [vp ob1 0, vp ob2 0])] ?_)
 have hst := pk1 hst
 rcases xbind_some h with ⟨p5, hq2, rfl⟩ | ⟨r1, hq2, h⟩
 ·exact cpa (c_parser_query_c5 hq2 hst hrc6_ hrc7_ hrc8_ hrc9_ hrc10_ hrc11_) (fun _ _ hp => ⟨rfl, _, rfl, hp.p (Mem.le.refl _) 8 [0]⟩)
 refine cal (c_parser_query_c5 hq2 hst hrc6_ hrc7_ hrc8_ hrc9_ hrc10_ hrc11_) ?_
 rintro _ _ ⟨m3, A12, c13, cs14, A16, c17, cs18, A20, c21, cs22, A24, c25, cs26, A28, c29, cs30, A32, c33, cs34, rfl, hl4, hst, hrc15, hrc19, hrc23, hrc27, hrc31, hrc35⟩
 refine nl (tn (bk (wc_loop (fun kk a w => ∃ (f0 : Fr) (m239 : Mem) (x116 : List GVariable) (A117 : Option Addr) (c118 : Nat) (cs119 : List Value) (x121 : List GRelation) (A122 : Option Addr) (c123 : Nat) (cs124 : List Value) (x126 : List GAbsence) (A127 : Option Addr) (c128 : Nat) (cs129 : List Value) (x131 : List GColumn) (A132 : Option Addr) (c133 : Nat) (cs134 : List Value) (x136 : List GAggregate) (A137 : Option Addr) (c138 : Nat) (cs139 : List Value) (x141 : List GOrderKey) (A142 : Option Addr) (c143 : Nat) (cs144 : List Value) (x146 : Str) (x147 : Int) (x148 : Int) (x149 : Int) (x150 : Str) (x151 : Int) (x152 : Int) (x153 : Int) (x154 : Int), a = act Tryz.f105.ntmps (upds f0 [(0, vp ob0 0), (1, vf 116 [] [vp ob1 0, vp ob2 0])]) ∧ kk ≤ k ∧ parser_list_i4_l1 kk x116 x121 x126 x131 x136 x141 x146 x147 x148 x149 x150 x151 x152 x153 x154 = some r ∧ m3.le m239 ∧ St g m239 (oo ob1 86 [vp ob0 0] :: oo ob0 155 [vstr x146, vi x147, vi x148, vi x149, vstr x150, vi x151] :: oo ob2 36 [vs A117 x116 c118, vs A122 x121 c123, vs A127 x126 c128, vi x152, vi x153, vs A132 x131 c133, vs A137 x136 c138, vs A142 x141 c143, vi x154] :: rw_ 95 8 A117 x116 c118 cs119 :: rw_ 104 3 A122 x121 c123 cs124 :: rw_ 106 11 A127 x126 c128 cs129 :: rw_ 101 3 A132 x131 c133 cs134 :: rw_ 110 6 A137 x136 c138 cs139 :: rw_ 112 2 A142 x141 c143 cs144 :: F) w ∧ RC (TGVariable) m239 x116 cs119 ∧ RC (TGRelation) m239 x121 cs124 ∧ RC (TGAbsence) m239 x126 cs129 ∧ RC (TGColumn) m239 x131 cs134 ∧ RC (TGAggregate) m239 x136 cs139 ∧ RC (TGOrderKey) m239 x141 cs144) k ?_ ?_)))
 ·exact ⟨_, m3, (r1.2.Variables), A12, c13, cs14, (r1.2.Relations), A16, c17, cs18, (r1.2.Absences), A20, c21, cs22, (r1.2.Group), A24, c25, cs26, (r1.2.Compute), A28, c29, cs30, (r1.2.Order), A32, c33, cs34, (r1.1.x_.s_), (r1.1.x_.at_), (r1.1.t_.kind), (r1.1.t_.at_), (r1.1.t_.s_), (r1.1.t_.n_), (r1.2.Slots.From), (r1.2.Slots.To), (r1.2.Limit), (act_upds ⟨by kernel_rfl, by kernel_rfl, trivial⟩), (Nat.le_refl _), h, (Mem.le.refl _), hst, hrc15, hrc19, hrc23, hrc27, hrc31, hrc35⟩
 rintro k237 ih238 _ _ ⟨f0, m239, x116, A117, c118, cs119, x121, A122, c123, cs124, x126, A127, c128, cs129, x131, A132, c133, cs134, x136, A137, c138, cs139, x141, A142, c143, cs144, x146, x147, x148, x149, x150, x151, x152, x153, x154, rfl, hk236, h, hl235, hst, hrc120, hrc125, hrc130, hrc135, hrc140, hrc145⟩
 obtain _ | k241 := k237
 ·simp [parser_list_i4_l1] at h
 rw [parser_list_i4_l1] at h
 refine sq (qr (s0 1 [(6, vp ob0 0)] ?_))
 have hst := pk1 hst
 rcases xbind_some h with ⟨p246, hq243, rfl⟩ | ⟨r242, hq243, h⟩
 ·have e247 := hl4.trans hl235
  exact cpa (c_parser_takes hq243 hst) (fun _ _ hp => ⟨rfl, _, rfl, hp.p e247 8 [0]⟩)
 refine cal (c_parser_takes hq243 hst) ?_
 rintro _ _ ⟨m244, rfl, hl245, hst⟩
 refine nl (tn (cn h (fun h => ?_) (fun h => ?_)))
 ·refine wp_skip (tn (bk (rg (s0 1 [(8, vf 116 [] [vp ob1 0, vp ob2 0])] ?_))))
  have hst := pk1 hst
  rcases xbind_some h with ⟨p252, hq249, rfl⟩ | ⟨r248, hq249, h⟩
  ·have e253 := hl4.trans (hl235.trans hl245)
   exact cpa (c_parser_query_c5 hq249 hst (RC.mono hl245 hrc120) (RC.mono hl245 hrc125) (RC.mono hl245 hrc130) (RC.mono hl245 hrc135) (RC.mono hl245 hrc140) (RC.mono hl245 hrc145)) (fun _ _ hp => ⟨rfl, _, rfl, hp.p e253 8 [0]⟩)
  refine cal (c_parser_query_c5 hq249 hst (RC.mono hl245 hrc120) (RC.mono hl245 hrc125) (RC.mono hl245 hrc130) (RC.mono hl245 hrc135) (RC.mono hl245 hrc140) (RC.mono hl245 hrc145)) ?_
  rintro _ _ ⟨m250, A260, c261, cs262, A264, c265, cs266, A268, c269, cs270, A272, c273, cs274, A276, c277, cs278, A280, c281, cs282, rfl, hl251, hst, hrc263, hrc267, hrc271, hrc275, hrc279, hrc283⟩
  refine nl (bn (tn ?_))
  have e284 := hl235.trans (hl245.trans hl251)
  exact ih238 k241 (by omega) _ _ ⟨_, m250, (r248.2.Variables), A260, c261, cs262, (r248.2.Relations), A264, c265, cs266, (r248.2.Absences), A268, c269, cs270, (r248.2.Group), A272, c273, cs274, (r248.2.Compute), A276, c277, cs278, (r248.2.Order), A280, c281, cs282, (r248.1.x_.s_), (r248.1.x_.at_), (r248.1.t_.kind), (r248.1.t_.at_), (r248.1.t_.s_), (r248.1.t_.n_), (r248.2.Slots.From), (r248.2.Slots.To), (r248.2.Limit), (act_upds ⟨by kernel_rfl, by kernel_rfl, trivial⟩), (by omega), h, e284, hst, hrc263, hrc267, hrc271, hrc275, hrc279, hrc283⟩
 refine wp_exit (tx (tx (bx (we [] ?_))))
 have e285 := hl4.trans (hl235.trans hl245)
 cases h
 exact ⟨_, rfl, m244, A117, c118, cs119, A122, c123, cs124, A127, c128, cs129, A132, c133, cs134, A137, c138, cs139, A142, c143, cs144, rfl, e285, hst, (RC.mono hl245 hrc120), (RC.mono hl245 hrc125), (RC.mono hl245 hrc130), (RC.mono hl245 hrc135), (RC.mono hl245 hrc140), (RC.mono hl245 hrc145)⟩

end Go.Proofs.YtfnaahkgegfbnaaGreatDoor
