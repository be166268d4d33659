/- Contracts of Go functions. Written by a program of this session. -/
import Derived.Test.YtfnaahkgegfbnaaGreatDoorPK
import Derived.Test.YtfnaahkgegfbnaaGreatDoorShelf
import Derived.Test.YtfnaahkgegfbnaaGreatDoorDc
import Derived.Test.YtfnaahkgegfbnaaGreatDoorGb0
set_option linter.unusedVariables false
set_option linter.unusedSimpArgs false
set_option maxRecDepth 10000
namespace Go.Proofs.YtfnaahkgegfbnaaGreatDoor

def R_l36_reserved (g : World) (m : Mem) (F : List Asr) (r : List Str) (v : Value) (w' : World) : Prop := ∃ (m' : Mem) (v0 : Value), v = v0 ∧ m.le m' ∧ St g m' (F) w' ∧ RS (TStr) m' v0 r
theorem c_l36_reserved {r : List Str} {g : World} {m : Mem} {F : List Asr} {w : World} (h : l36_reserved = some r) (hst : St g m (F) w) :
    Calls Tryz.prog 13 ⟨[]⟩ w (OPost (R_l36_reserved g m F) r) := by
 refine calls_enter Tryz.func13 rfl rfl ?_
 unfold l36_reserved at h
 refine qr (s0 1 [(0, vn)] (nl (tn (qr (li 9 30 [vstr w_and, vstr w_attr, vstr w_false, vstr w_has, vstr w_not, vstr w_or, vstr w_prefix, vstr w_true, vstr w_ancestor, vstr w_before, vstr w_by, vstr w_compute, vstr w_desc, vstr w_distinct, vstr w_estimate, vstr w_find, vstr w_greatest, vstr w_group, vstr w_least, vstr w_limit, vstr w_link, vstr w_matches, vstr w_order, vstr w_parent, vstr w_quantile, vstr w_sibling, vstr w_slots, vstr w_sum, vstr w_traces, vstr w_where] hst (fun b1 _ hst => ?_))))))
 obtain ⟨m2, hl3, hst, hs4⟩ := hst.obj_slice (T := TStr) (xs := [w_and, w_attr, w_false, w_has, w_not, w_or, w_prefix, w_true, w_ancestor, w_before, w_by, w_compute, w_desc, w_distinct, w_estimate, w_find, w_greatest, w_group, w_least, w_limit, w_link, w_matches, w_order, w_parent, w_quantile, w_sibling, w_slots, w_sum, w_traces, w_where]) (RC.k1 rfl (RC.k1 rfl (RC.k1 rfl (RC.k1 rfl (RC.k1 rfl (RC.k1 rfl (RC.k1 rfl (RC.k1 rfl (RC.k1 rfl (RC.k1 rfl (RC.k1 rfl (RC.k1 rfl (RC.k1 rfl (RC.k1 rfl (RC.k1 rfl (RC.k1 rfl (RC.k1 rfl (RC.k1 rfl (RC.k1 rfl (RC.k1 rfl (RC.k1 rfl (RC.k1 rfl (RC.k1 rfl (RC.k1 rfl (RC.k1 rfl (RC.k1 rfl (RC.k1 rfl (RC.k1 rfl (RC.k1 rfl (RC.k1 rfl (RC.nil _ _))))))))))))))))))))))))))))))) rfl
 refine s0 1 [(0, .slice (some ⟨b1, 0, none⟩) 30 30)] (nl (tn (wp_ret (wr [.slice (some ⟨b1, 0, none⟩) 30 30] ?_))))
 cases h
 exact ⟨_, rfl, m2, (.slice (some ⟨b1, 0, none⟩) 30 30), rfl, hl3, hst, hs4⟩

def R_l36_word (g : World) (m : Mem) (F : List Asr) (r : Bool) (v : Value) (w' : World) : Prop := ∃ (m' : Mem), v = vb r ∧ m.le m' ∧ St g m' (F) w'
theorem c_l36_word {k : Nat} {a0 : Str} {r : Bool} {g : World} {m : Mem} {F : List Asr} {w : World} (h : l36_word k a0 = some r) (hst : St g m (F) w) :
    Calls Tryz.prog 45 ⟨[vstr a0]⟩ w (OPost (R_l36_word g m F) r) := by
 refine calls_enter Tryz.func45 rfl rfl ?_
 unfold l36_word at h
 refine qr (s0 1 [(2, vb false)] (nl (tn (sq (qr (s0 1 [(3, vi 0)] (nl (tn (bk (wc_loop (fun kk a w => ∃ (f0 : Fr) (m48 : Mem) (x22 : Int), a = act Tryz.f45.ntmps (upds f0 [(0, vstr a0), (2, vb false), (3, vi x22)]) ∧ kk ≤ k ∧ l36_word_l1 kk a0 x22 = some r ∧ m.le m48 ∧ St g m48 (F) w) k ?_ ?_))))))))))
 ·exact ⟨_, m, (0), (act_upds ⟨by kernel_rfl, by kernel_rfl, by kernel_rfl, trivial⟩), (Nat.le_refl _), h, (Mem.le.refl _), hst⟩
 rintro k46 ih47 _ _ ⟨f0, m48, x22, rfl, hk45, h, hl44, hst⟩
 obtain _ | k50 := k46
 ·simp [l36_word_l1] at h
 rw [l36_word_l1] at h
 refine sq (qr (s0 4 [(4, vi x22), (5, vstr a0), (6, vi ((a0).length : Int)), (7, vb (decide (x22 < ((a0).length : Int))))] (nl (tn (cn h (fun h => ?_) (fun h => ?_))))))
 ·refine wp_skip (tn (sq (bk (qr (s0 2 [(10, vstr a0), (11, vi x22)] ?_)))))
  obtain ⟨c52, hc53, h⟩ := ix h
  refine vl (ria hc53.1 hc53.2) ?_
  obtain ⟨r54, hq55, h⟩ := bs h
  refine cal (c_l36_begins hq55 hst) ?_
  rintro _ _ ⟨m56, rfl, hl57, hst⟩
  refine s0 2 [(14, vb (!r54)), (15, vb (!r54))] ?_
  rcases sp h with ⟨hc58, h⟩ | ⟨hc58, h⟩
  ·rw [hc58]
   refine s0 3 [(16, vi x22), (17, vb (x22 == 0)), (18, vb (x22 == 0))] ?_
   rcases sp h with ⟨hc59, h⟩ | ⟨hc59, h⟩
   ·rw [hc59]
    refine s0 13 [(19, undef), (20, undef), (21, undef), (22, undef), (23, undef), (24, undef), (25, undef), (26, undef), (27, undef), (28, undef), (29, undef), (30, vb true), (31, vb true)] (nl (tn (ct (qr (s0 1 [(2, vb false)] (nl (tn (wp_ret (br (tr (tr (br (tr (wr [vb false] ?_))))))))))))))
    have e60 := hl44.trans hl57
    have h := Option.some.inj h; subst h
    exact ⟨_, rfl, m56, rfl, e60, hst⟩
   rw [hc59]
   refine s0 2 [(19, vstr a0), (20, vi x22)] ?_
   obtain ⟨c62, hc63, h⟩ := ix h
   refine vl (ria hc63.1 hc63.2) ?_
   obtain ⟨r64, hq65, h⟩ := bs h
   refine cal (c_l36_digit hq65 hst) ?_
   rintro _ _ ⟨m66, rfl, hl67, hst⟩
   refine s0 2 [(23, vb (!r64)), (24, vb (!r64))] ?_
   rcases sp h with ⟨hc68, h⟩ | ⟨hc68, h⟩
   ·rw [hc68]
    refine s0 2 [(25, vstr a0), (26, vi x22)] ?_
    obtain ⟨c70, hc71, h⟩ := ix h
    refine vl (ria hc71.1 hc71.2) (s0 4 [(28, vb ((c70.toNat : Int) != 45)), (29, vb ((c70.toNat : Int) != 45)), (30, vb ((c70.toNat : Int) != 45)), (31, vb ((c70.toNat : Int) != 45))] (nl (tn (cn h (fun h => ?_) (fun h => ?_)))))
    ·refine qr (s0 1 [(2, vb false)] (nl (tn (wp_ret (br (tr (tr (br (tr (wr [vb false] ?_))))))))))
     have e72 := hl44.trans (hl57.trans hl67)
     have h := Option.some.inj h; subst h
     exact ⟨_, rfl, m66, rfl, e72, hst⟩
    refine wp_skip (bn (tn (rg (s0 3 [(8, vi x22), (9, vi (w64 (x22 + 1))), (3, vi (w64 (x22 + 1)))] (nl (tn ?_))))))
    have e73 := hl44.trans (hl57.trans hl67)
    exact ih47 k50 (by omega) _ _ ⟨_, m66, (w64 (x22 + 1)), (act_upds ⟨by kernel_rfl, by kernel_rfl, by kernel_rfl, trivial⟩), (by omega), h, e73, hst⟩
   rw [hc68]
   refine s0 7 [(25, undef), (26, undef), (27, undef), (28, undef), (29, vb false), (30, vb false), (31, vb false)] (nl (tn (cf (wp_skip (bn (tn (rg (s0 3 [(8, vi x22), (9, vi (w64 (x22 + 1))), (3, vi (w64 (x22 + 1)))] (nl (tn ?_))))))))))
   have e74 := hl44.trans (hl57.trans hl67)
   exact ih47 k50 (by omega) _ _ ⟨_, m66, (w64 (x22 + 1)), (act_upds ⟨by kernel_rfl, by kernel_rfl, by kernel_rfl, trivial⟩), (by omega), h, e74, hst⟩
  rw [hc58]
  refine s0 16 [(16, undef), (17, undef), (18, undef), (19, undef), (20, undef), (21, undef), (22, undef), (23, undef), (24, undef), (25, undef), (26, undef), (27, undef), (28, undef), (29, undef), (30, undef), (31, vb false)] (nl (tn (cf (wp_skip (bn (tn (rg (s0 3 [(8, vi x22), (9, vi (w64 (x22 + 1))), (3, vi (w64 (x22 + 1)))] (nl (tn ?_))))))))))
  have e75 := hl44.trans hl57
  exact ih47 k50 (by omega) _ _ ⟨_, m56, (w64 (x22 + 1)), (act_upds ⟨by kernel_rfl, by kernel_rfl, by kernel_rfl, trivial⟩), (by omega), h, e75, hst⟩
 refine wp_exit (tx (tx (bx (tn (qr (s0 1 [(32, vstr a0)] (vl (rne a0 w_0) (s0 1 [(2, vb (!(a0 == w_0)))] (nl (tn (wp_ret (wr [vb (!(a0 == w_0))] ?_))))))))))))
 cases h
 exact ⟨_, rfl, m48, rfl, hl44, hst⟩

def R_l36_among (g : World) (m : Mem) (F : List Asr) (r : Bool) (v : Value) (w' : World) : Prop := ∃ (m' : Mem), v = vb r ∧ m.le m' ∧ St g m' (F) w'
theorem c_l36_among {k : Nat} {a0 : Str} {a1 : Int} {r : Bool} {g : World} {m : Mem} {F : List Asr} {w : World} (h : l36_among k a0 a1 = some r) (hst : St g m (F) w) :
    Calls Tryz.prog 46 ⟨[vstr a0, vi a1]⟩ w (OPost (R_l36_among g m F) r) := by
 refine calls_enter Tryz.func46 rfl rfl ?_
 unfold l36_among at h
 refine qr (s0 1 [(4, vb false)] (nl (tn (sq (qr (s0 1 [(5, vi 0)] (nl (tn (bk (wc_loop (fun kk a w => ∃ (f0 : Fr) (m40 : Mem) (x18 : Int), a = act Tryz.f46.ntmps (upds f0 [(0, vstr a0), (1, vi a1), (4, vb false), (5, vi x18)]) ∧ kk ≤ k ∧ l36_among_l1 kk a0 a1 x18 = some r ∧ m.le m40 ∧ St g m40 (F) w) k ?_ ?_))))))))))
 ·exact ⟨_, m, (0), (act_upds ⟨by kernel_rfl, by kernel_rfl, by kernel_rfl, by kernel_rfl, trivial⟩), (Nat.le_refl _), h, (Mem.le.refl _), hst⟩
 rintro k38 ih39 _ _ ⟨f0, m40, x18, rfl, hk37, h, hl36, hst⟩
 obtain _ | k42 := k38
 ·simp [l36_among_l1] at h
 rw [l36_among_l1] at h
 refine sq (qr (s0 3 [(6, vi x18), (7, vi a1), (8, vb (decide (x18 < a1)))] (nl (tn (cn h (fun h => ?_) (fun h => ?_))))))
 ·refine wp_skip (tn (sq (bk (qr ?_))))
  obtain ⟨r43, hq44, h⟩ := bs h
  refine cal (c_l36_reserved hq44 hst) ?_
  rintro _ _ ⟨m45, v47, rfl, hl46, hst, hv47⟩
  obtain ⟨A48, c49, rfl⟩ := hv47.shape
  refine s0 1 [(12, vi x18)] ?_
  obtain ⟨x51, hx52, h⟩ := ix h
  obtain ⟨b53, o54, cs55, hR56, hA57, hI58⟩ := RS.ix (P := Tryz.prog) hv47 hx52
  obtain rfl : cs55 = [vstr x51] := hR56
  refine vl (hI58.r .i64) (sg 2 [(14, vstr x51), (15, vstr a0)] [(ad b53 o54, vstr x51)] ⟨hst.e hA57 0, trivial⟩ (vl (re x51 a0) (nl (tn (cn h (fun h => ?_) (fun h => ?_))))))
  ·refine qr (s0 1 [(4, vb true)] (nl (tn (wp_ret (br (tr (tr (br (tr (wr [vb true] ?_))))))))))
   have e59 := hl36.trans hl46
   have h := Option.some.inj h; subst h
   exact ⟨_, rfl, m45, rfl, e59, hst⟩
  refine wp_skip (bn (tn (rg (s0 3 [(9, vi x18), (10, vi (w64 (x18 + 1))), (5, vi (w64 (x18 + 1)))] (nl (tn ?_))))))
  have e60 := hl36.trans hl46
  exact ih39 k42 (by omega) _ _ ⟨_, m45, (w64 (x18 + 1)), (act_upds ⟨by kernel_rfl, by kernel_rfl, by kernel_rfl, by kernel_rfl, trivial⟩), (by omega), h, e60, hst⟩
 refine wp_exit (tx (tx (bx (tn (qr (s0 1 [(4, vb false)] (nl (tn (wp_ret (wr [vb false] ?_))))))))))
 have h := Option.some.inj h; subst h
 exact ⟨_, rfl, m40, rfl, hl36, hst⟩

def R_l36_field (g : World) (m : Mem) (F : List Asr) (r : Bool) (v : Value) (w' : World) : Prop := ∃ (m' : Mem), v = vb r ∧ m.le m' ∧ St g m' (F) w'
theorem c_l36_field {k : Nat} {a0 : Str} {r : Bool} {g : World} {m : Mem} {F : List Asr} {w : World} (h : l36_field k a0 = some r) (hst : St g m (F) w) :
    Calls Tryz.prog 18 ⟨[vstr a0]⟩ w (OPost (R_l36_field g m F) r) := by
 refine calls_enter Tryz.func18 rfl rfl ?_
 unfold l36_field at h
 refine qr (s0 1 [(2, vb false)] (nl (tn (qr (s0 1 [(3, vstr a0)] ?_)))))
 obtain ⟨r1, hq2, h⟩ := bs h
 refine cal (c_l36_word hq2 hst) ?_
 rintro _ _ ⟨m3, rfl, hl4, hst⟩
 refine s0 1 [(5, vb r1)] ?_
 rcases sp h with ⟨hc5, h⟩ | ⟨hc5, h⟩
 ·rw [hc5]
  refine s0 5 [(6, vstr a0), (7, vi ((a0).length : Int)), (8, vb (decide (((a0).length : Int) ≤ 64))), (9, vb (decide (((a0).length : Int) ≤ 64))), (10, vb (decide (((a0).length : Int) ≤ 64)))] ?_
  rcases sp h with ⟨hc6, h⟩ | ⟨hc6, h⟩
  ·rw [hc6]
   refine s0 1 [(11, vstr a0)] ?_
   obtain ⟨r7, hq8, h⟩ := bs h
   refine cal (c_l36_among hq8 hst) ?_
   rintro _ _ ⟨m9, rfl, hl10, hst⟩
   refine s0 3 [(13, vb (!r7)), (14, vb (!r7)), (2, vb (!r7))] (nl (tn (wp_ret (wr [vb (!r7)] ?_))))
   have e11 := hl4.trans hl10
   cases h
   exact ⟨_, rfl, m9, rfl, e11, hst⟩
  rw [hc6]
  refine s0 5 [(11, undef), (12, undef), (13, undef), (14, vb false), (2, vb false)] (nl (tn (wp_ret (wr [vb false] ?_))))
  have h := Option.some.inj h; subst h
  exact ⟨_, rfl, m3, rfl, hl4, hst⟩
 rw [hc5]
 refine s0 10 [(6, undef), (7, undef), (8, undef), (9, vb false), (10, vb false), (11, undef), (12, undef), (13, undef), (14, vb false), (2, vb false)] (nl (tn (wp_ret (wr [vb false] ?_))))
 have h := Option.some.inj h; subst h
 exact ⟨_, rfl, m3, rfl, hl4, hst⟩

end Go.Proofs.YtfnaahkgegfbnaaGreatDoor
