/- Contracts of Go functions. Written by a program of this session. -/
import Derived.Test.YtfnaahkgegfbnaaGreatDoorPK
import Derived.Test.YtfnaahkgegfbnaaGreatDoorShelf
import Derived.Test.YtfnaahkgegfbnaaGreatDoorDe
import Derived.Test.YtfnaahkgegfbnaaGreatDoorGa1
import Derived.Test.YtfnaahkgegfbnaaGreatDoorGc0
set_option linter.unusedVariables false
set_option linter.unusedSimpArgs false
set_option maxRecDepth 10000
namespace Go.Proofs.YtfnaahkgegfbnaaGreatDoor

def R_l36_fits (g : World) (m : Mem) (F : List Asr) (r : Bool) (v : Value) (w' : World) : Prop := ∃ (m' : Mem), v = vb r ∧ m.le m' ∧ St g m' (F) w'
structure I_l36_fits (k : Nat) : Prop where
  c_l36_fits : ∀ {a0 : GPred} {a1 : Bool} {r : Bool} {g : World} {m : Mem} {F : List Asr} {w : World} {u0 : Value} (h : l36_fits k a0 a1 = some r) (hst : St g m (F) w) (hu0 : RS (TGPred) m u0 a0.Args),
    Calls Tryz.prog 69 ⟨[va (cGPred a0 u0), vb a1]⟩ w (OPost (R_l36_fits g m F) r)
theorem s_l36_fits {k : Nat} (ih : ∀ j, j < k → I_l36_fits j) {a0 : GPred} {a1 : Bool} {r : Bool} {g : World} {m : Mem} {F : List Asr} {w : World} {u0 : Value} (h : l36_fits k a0 a1 = some r) (hst : St g m (F) w) (hu0 : RS (TGPred) m u0 a0.Args) :
    Calls Tryz.prog 69 ⟨[va (cGPred a0 u0), vb a1]⟩ w (OPost (R_l36_fits g m F) r) := by
 refine calls_enter Tryz.func69 rfl rfl ?_
 obtain _ | k1 := k
 ·simp [l36_fits] at h
 rw [l36_fits] at h
 obtain ⟨A1, c2, rfl⟩ := hu0.shape
 refine qr (bo_ (cGPred a0 (vs A1 a0.Args c2)) hst (fun b3 _ hst => ?_))
 refine s0 1 [(4, vb false)] (nl (tn (wc_join (fun a w => ∃ (f0 : Fr) (k16 : Nat) (m18 : Mem) (x14 : Bool), a = act Tryz.f69.ntmps (upds f0 [(1, vb x14), (2, vp b3 0), (4, vb false)]) ∧ k16 ≤ k1 ∧ l36_fits_j1 k16 a0 x14 = some r ∧ m.le m18 ∧ St g m18 (oo b3 44 (cGPred a0 (vs A1 a0.Args c2)) :: F) w) ?_ ?_)))
 ·rintro _ _ ⟨f0, k16, m18, x14, rfl, hk17, h, hl15, hst⟩
  obtain _ | k19 := k16
  ·simp [l36_fits_j1] at h
  rw [l36_fits_j1] at h
  refine sq (qr (s0 1 [(5, vi 0)] (nl (tn (bk (wc_loop (fun kk a w => ∃ (f0 : Fr) (m59 : Mem) (x37 : Int), a = act Tryz.f69.ntmps (upds f0 [(1, vb x14), (2, vp b3 0), (4, vb false), (5, vi x37)]) ∧ kk ≤ k19 ∧ l36_fits_l2 kk a0 x14 x37 = some r ∧ m18.le m59 ∧ St g m59 (oo b3 44 (cGPred a0 (vs A1 a0.Args c2)) :: F) w) k19 ?_ ?_))))))
  ·exact ⟨_, m18, (0), (act_upds ⟨by kernel_rfl, by kernel_rfl, by kernel_rfl, by kernel_rfl, trivial⟩), (Nat.le_refl _), h, (Mem.le.refl _), hst⟩
  rintro k57 ih58 _ _ ⟨f0, m59, x37, rfl, hk56, h, hl55, hst⟩
  obtain _ | k61 := k57
  ·simp [l36_fits_l2] at h
  rw [l36_fits_l2] at h
  refine sq (qr (sg 5 [(43, vi x37), (44, vp b3 6), (45, vs A1 a0.Args c2), (46, vi ((a0.Args).length : Int)), (47, vb (decide (x37 < ((a0.Args).length : Int))))] [(ad b3 6, vs A1 a0.Args c2)] ⟨hst.c 0, trivial⟩ (nl (tn (cn h (fun h => ?_) (fun h => ?_))))))
  ·refine wp_skip (tn (sq (bk (qr (sg 3 [(50, vp b3 6), (51, vs A1 a0.Args c2), (52, vi x37)] [(ad b3 6, vs A1 a0.Args c2)] ⟨hst.c 0, trivial⟩ ?_)))))
   obtain ⟨x63, hx64, h⟩ := ix h
   have e71 := hl15.trans hl55
   obtain ⟨b65, o66, cs67, hR68, hA69, hI70⟩ := RS.ix (P := Tryz.prog) (RS.mono e71 hu0) hx64
   obtain ⟨v72, rfl, hv72⟩ := TGPred.open_ hR68
   obtain ⟨A73, c74, rfl⟩ := hv72.shape
   refine vl (hI70.r .i64) (sg 2 [(54, va (cGPred x63 (vs A73 x63.Args c74))), (55, vb x14)] [(ad b65 o66, vi x63.Op), (ad b65 (o66 + 1), vstr x63.Field), (ad b65 (o66 + 2), vstr x63.Key), (ad b65 (o66 + 3), vi x63.Value.Kind), (ad b65 (o66 + 4), vstr x63.Value.Text), (ad b65 (o66 + 5), vi x63.Value.Int), (ad b65 (o66 + 6), vs A73 x63.Args c74)] ⟨hst.e hA69 0, hst.e hA69 1, hst.e hA69 2, hst.e hA69 3, hst.e hA69 4, hst.e hA69 5, hst.e hA69 6, trivial⟩ ?_)
   obtain ⟨r75, hq76, h⟩ := bs h
   refine cal ((ih k61 (by omega)).c_l36_fits hq76 hst hv72) ?_
   rintro _ _ ⟨m77, rfl, hl78, hst⟩
   refine s0 1 [(57, vb (!r75))] (nl (tn (cn h (fun h => ?_) (fun h => ?_))))
   ·refine qr (s0 1 [(4, vb false)] (nl (tn (wp_ret (br (tr (tr (br (tr (wr [vb false] ?_))))))))))
    have hst := pk0 hst
    have e79 := e71.trans hl78
    have h := Option.some.inj h; subst h
    exact ⟨_, rfl, m77, rfl, e79, hst⟩
   refine wp_skip (bn (tn (rg (s0 3 [(48, vi x37), (49, vi (w64 (x37 + 1))), (5, vi (w64 (x37 + 1)))] (nl (tn ?_))))))
   have e80 := hl55.trans hl78
   exact ih58 k61 (by omega) _ _ ⟨_, m77, (w64 (x37 + 1)), (act_upds ⟨by kernel_rfl, by kernel_rfl, by kernel_rfl, by kernel_rfl, trivial⟩), (by omega), h, e80, hst⟩
  refine wp_exit (tx (tx (bx (tn (qr (s0 1 [(4, vb true)] (nl (tn (wp_ret (wr [vb true] ?_))))))))))
  have hst := pk0 hst
  have e81 := hl15.trans hl55
  have h := Option.some.inj h; subst h
  exact ⟨_, rfl, m59, rfl, e81, hst⟩
 refine qr (s0 2 [(6, vb a1), (7, vb a1)] ?_)
 rcases sp h with ⟨hc82, h⟩ | ⟨hc82, h⟩
 ·rw [hc82]
  refine sg 5 [(8, vp b3 0), (9, vi a0.Op), (10, vb (decide (a0.Op ≥ 5))), (11, vb (decide (a0.Op ≥ 5))), (12, vb (decide (a0.Op ≥ 5)))] [(ad b3 0, vi a0.Op)] ⟨hst.c 0, trivial⟩ ?_
  rcases sp h with ⟨hc83, h⟩ | ⟨hc83, h⟩
  ·rw [hc83]
   refine sg 2 [(13, vp b3 1), (14, vstr a0.Field)] [(ad b3 1, vstr a0.Field)] ⟨hst.c 0, trivial⟩ ?_
   obtain ⟨r84, hq85, h⟩ := bs h
   refine cal (c_l36_field hq85 hst) ?_
   rintro _ _ ⟨m86, rfl, hl87, hst⟩
   refine s0 3 [(16, vb (!r84)), (17, vb (!r84)), (18, vb (!r84))] ?_
   rcases sp h with ⟨hc88, h⟩ | ⟨hc88, h⟩
   ·rw [hc88]
    refine sg 2 [(19, vp b3 1), (20, vstr a0.Field)] [(ad b3 1, vstr a0.Field)] ⟨hst.c 0, trivial⟩ (vl (rne a0.Field w_attr) (s0 2 [(22, vb (!(a0.Field == w_attr))), (23, vb (!(a0.Field == w_attr)))] ?_))
    rcases sp h with ⟨hc89, h⟩ | ⟨hc89, h⟩
    ·rw [hc89]
     refine s0 19 [(24, undef), (25, undef), (26, undef), (27, undef), (28, undef), (29, undef), (30, undef), (31, undef), (32, undef), (33, undef), (34, undef), (35, undef), (36, undef), (37, undef), (38, undef), (39, undef), (40, undef), (41, undef), (42, vb true)] (nl (tn (ct (qr (s0 1 [(4, vb false)] (nl (tn (wp_ret (tr (wr [vb false] ?_))))))))))
     have hst := pk0 hst
     have h := Option.some.inj h; subst h
     exact ⟨_, rfl, m86, rfl, hl87, hst⟩
    rw [hc89]
    refine s0 19 [(24, vb true), (25, vb false), (26, vb false), (27, undef), (28, undef), (29, undef), (30, undef), (31, undef), (32, undef), (33, undef), (34, undef), (35, vb false), (36, vb false), (37, undef), (38, undef), (39, undef), (40, undef), (41, vb false), (42, vb false)] (nl (tn (cf (wp_skip (tn ?_)))))
    exact ⟨_, k1, m86, (true), (act_upds ⟨by kernel_rfl, by kernel_rfl, by kernel_rfl, trivial⟩), (by omega), h, hl87, hst⟩
   rw [hc88]
   refine s0 24 [(19, undef), (20, undef), (21, undef), (22, vb false), (23, vb false), (24, vb true), (25, vb false), (26, vb false), (27, undef), (28, undef), (29, undef), (30, undef), (31, undef), (32, undef), (33, undef), (34, undef), (35, vb false), (36, vb false), (37, undef), (38, undef), (39, undef), (40, undef), (41, vb false), (42, vb false)] (nl (tn (cf (wp_skip (tn ?_)))))
   exact ⟨_, k1, m86, (true), (act_upds ⟨by kernel_rfl, by kernel_rfl, by kernel_rfl, trivial⟩), (by omega), h, hl87, hst⟩
  rw [hc83]
  refine s0 30 [(13, undef), (14, undef), (15, undef), (16, undef), (17, vb false), (18, vb false), (19, undef), (20, undef), (21, undef), (22, vb false), (23, vb false), (24, vb true), (25, vb false), (26, vb false), (27, undef), (28, undef), (29, undef), (30, undef), (31, undef), (32, undef), (33, undef), (34, undef), (35, vb false), (36, vb false), (37, undef), (38, undef), (39, undef), (40, undef), (41, vb false), (42, vb false)] (nl (tn (cf (wp_skip (tn ?_)))))
  exact ⟨_, k1, m, (true), (act_upds ⟨by kernel_rfl, by kernel_rfl, by kernel_rfl, trivial⟩), (by omega), h, (Mem.le.refl _), hst⟩
 rw [hc82]
 refine sg 23 [(8, undef), (9, undef), (10, undef), (11, vb false), (12, vb false), (13, undef), (14, undef), (15, undef), (16, undef), (17, vb false), (18, vb false), (19, undef), (20, undef), (21, undef), (22, vb false), (23, vb false), (24, vb false), (25, vb true), (26, vb true), (27, vp b3 0), (28, vi a0.Op), (29, vb (a0.Op == 1)), (30, vb (a0.Op == 1))] [(ad b3 0, vi a0.Op)] ⟨hst.c 0, trivial⟩ ?_
 rcases sp h with ⟨hc90, h⟩ | ⟨hc90, h⟩
 ·rw [hc90]
  refine sg 12 [(31, undef), (32, undef), (33, undef), (34, vb true), (35, vb true), (36, vb true), (37, vp b3 6), (38, vs A1 a0.Args c2), (39, vi ((a0.Args).length : Int)), (40, vb (decide (((a0.Args).length : Int) < 2))), (41, vb (decide (((a0.Args).length : Int) < 2))), (42, vb (decide (((a0.Args).length : Int) < 2)))] [(ad b3 6, vs A1 a0.Args c2)] ⟨hst.c 0, trivial⟩ (nl (tn (cn h (fun h => ?_) (fun h => ?_))))
  ·refine qr (s0 1 [(4, vb false)] (nl (tn (wp_ret (tr (wr [vb false] ?_))))))
   have hst := pk0 hst
   have h := Option.some.inj h; subst h
   exact ⟨_, rfl, m, rfl, (Mem.le.refl _), hst⟩
  refine wp_skip (tn ?_)
  exact ⟨_, k1, m, (false), (act_upds ⟨by kernel_rfl, by kernel_rfl, by kernel_rfl, trivial⟩), (by omega), h, (Mem.le.refl _), hst⟩
 rw [hc90]
 refine sg 6 [(31, vp b3 0), (32, vi a0.Op), (33, vb (a0.Op == 2)), (34, vb (a0.Op == 2)), (35, vb (a0.Op == 2)), (36, vb (a0.Op == 2))] [(ad b3 0, vi a0.Op)] ⟨hst.c 0, trivial⟩ ?_
 rcases sp h with ⟨hc91, h⟩ | ⟨hc91, h⟩
 ·rw [hc91]
  refine sg 6 [(37, vp b3 6), (38, vs A1 a0.Args c2), (39, vi ((a0.Args).length : Int)), (40, vb (decide (((a0.Args).length : Int) < 2))), (41, vb (decide (((a0.Args).length : Int) < 2))), (42, vb (decide (((a0.Args).length : Int) < 2)))] [(ad b3 6, vs A1 a0.Args c2)] ⟨hst.c 0, trivial⟩ (nl (tn (cn h (fun h => ?_) (fun h => ?_))))
  ·refine qr (s0 1 [(4, vb false)] (nl (tn (wp_ret (tr (wr [vb false] ?_))))))
   have hst := pk0 hst
   have h := Option.some.inj h; subst h
   exact ⟨_, rfl, m, rfl, (Mem.le.refl _), hst⟩
  refine wp_skip (tn ?_)
  exact ⟨_, k1, m, (false), (act_upds ⟨by kernel_rfl, by kernel_rfl, by kernel_rfl, trivial⟩), (by omega), h, (Mem.le.refl _), hst⟩
 rw [hc91]
 refine s0 6 [(37, undef), (38, undef), (39, undef), (40, undef), (41, vb false), (42, vb false)] (nl (tn (cf (wp_skip (tn ?_)))))
 exact ⟨_, k1, m, (false), (act_upds ⟨by kernel_rfl, by kernel_rfl, by kernel_rfl, trivial⟩), (by omega), h, (Mem.le.refl _), hst⟩
theorem i_l36_fits (k : Nat) : I_l36_fits k := by
  induction k using Nat.strongRecOn with
  | ind k ih => exact ⟨s_l36_fits ih⟩
theorem c_l36_fits {k : Nat} {a0 : GPred} {a1 : Bool} {r : Bool} {g : World} {m : Mem} {F : List Asr} {w : World} {u0 : Value} (h : l36_fits k a0 a1 = some r) (hst : St g m (F) w) (hu0 : RS (TGPred) m u0 a0.Args) :
    Calls Tryz.prog 69 ⟨[va (cGPred a0 u0), vb a1]⟩ w (OPost (R_l36_fits g m F) r) := (i_l36_fits k).c_l36_fits h hst hu0

def R_l36_checkPred (g : World) (m : Mem) (F : List Asr) (r : Int) (v : Value) (w' : World) : Prop := ∃ (m' : Mem), v = vi r ∧ m.le m' ∧ St g m' (F) w'
theorem c_l36_checkPred {k : Nat} {a0 : GPred} {r : Int} {g : World} {m : Mem} {F : List Asr} {w : World} {u0 : Value} (h : l36_checkPred k a0 = some r) (hst : St g m (F) w) (hu0 : RS (TGPred) m u0 a0.Args) :
    Calls Tryz.prog 32 ⟨[va (cGPred a0 u0)]⟩ w (OPost (R_l36_checkPred g m F) r) := by
 refine calls_enter Tryz.func32 rfl rfl ?_
 unfold l36_checkPred at h
 obtain ⟨A1, c2, rfl⟩ := hu0.shape
 refine qr (bo_ (cGPred a0 (vs A1 a0.Args c2)) hst (fun b3 _ hst => ?_))
 refine s0 1 [(2, vi 0)] (nl (tn (sq (qr (sg 1 [(4, va (cGPred a0 (vs A1 a0.Args c2)))] [(ad b3 0, vi a0.Op), (ad b3 1, vstr a0.Field), (ad b3 2, vstr a0.Key), (ad b3 3, vi a0.Value.Kind), (ad b3 4, vstr a0.Value.Text), (ad b3 5, vi a0.Value.Int), (ad b3 6, vs A1 a0.Args c2)] ⟨hst.c 0, hst.c 0, hst.c 0, hst.c 0, hst.c 0, hst.c 0, hst.c 0, trivial⟩ ?_)))))
 obtain ⟨r8, hq9, h⟩ := bs h
 refine cal (c_attribute_Check hq9 hst hu0) ?_
 rintro _ _ ⟨m10, rfl, hl11, hst⟩
 refine s0 1 [(3, vi r8)] (nl (tn (qr (s0 2 [(6, vi r8), (7, vb (r8 != 0))] (nl (tn (cn h (fun h => ?_) (fun h => ?_))))))))
 ·refine qr (s0 2 [(8, vi r8), (2, vi r8)] (nl (tn (wp_ret (tr (wr [vi r8] ?_))))))
  have hst := pk0 hst
  have h := Option.some.inj h; subst h
  exact ⟨_, rfl, m10, rfl, hl11, hst⟩
 refine wp_skip (tn (sq (qr (sg 1 [(9, va (cGPred a0 (vs A1 a0.Args c2)))] [(ad b3 0, vi a0.Op), (ad b3 1, vstr a0.Field), (ad b3 2, vstr a0.Key), (ad b3 3, vi a0.Value.Kind), (ad b3 4, vstr a0.Value.Text), (ad b3 5, vi a0.Value.Int), (ad b3 6, vs A1 a0.Args c2)] ⟨hst.c 0, hst.c 0, hst.c 0, hst.c 0, hst.c 0, hst.c 0, hst.c 0, trivial⟩ ?_))))
 obtain ⟨r12, hq13, h⟩ := bs h
 refine cal (c_l36_fits hq13 hst (RS.mono hl11 hu0)) ?_
 rintro _ _ ⟨m14, rfl, hl15, hst⟩
 refine s0 1 [(11, vb (!r12))] (nl (tn (cn h (fun h => ?_) (fun h => ?_))))
 ·refine qr (s0 1 [(2, vi 3)] (nl (tn (wp_ret (tr (wr [vi 3] ?_))))))
  have hst := pk0 hst
  have e16 := hl11.trans hl15
  have h := Option.some.inj h; subst h
  exact ⟨_, rfl, m14, rfl, e16, hst⟩
 refine wp_skip (tn (sq (qr (sg 1 [(12, va (cGPred a0 (vs A1 a0.Args c2)))] [(ad b3 0, vi a0.Op), (ad b3 1, vstr a0.Field), (ad b3 2, vstr a0.Key), (ad b3 3, vi a0.Value.Kind), (ad b3 4, vstr a0.Value.Text), (ad b3 5, vi a0.Value.Int), (ad b3 6, vs A1 a0.Args c2)] ⟨hst.c 0, hst.c 0, hst.c 0, hst.c 0, hst.c 0, hst.c 0, hst.c 0, trivial⟩ ?_))))
 have e17 := hl11.trans hl15
 obtain ⟨r18, hq19, h⟩ := bs h
 refine cal (c_l36_fits hq19 hst (RS.mono e17 hu0)) ?_
 rintro _ _ ⟨m20, rfl, hl21, hst⟩
 refine s0 1 [(14, vb (!r18))] (nl (tn (cn h (fun h => ?_) (fun h => ?_))))
 ·refine qr (s0 1 [(2, vi 11)] (nl (tn (wp_ret (tr (wr [vi 11] ?_))))))
  have hst := pk0 hst
  have e22 := e17.trans hl21
  have h := Option.some.inj h; subst h
  exact ⟨_, rfl, m20, rfl, e22, hst⟩
 refine wp_skip (tn (qr (s0 1 [(2, vi 0)] (nl (tn (wp_ret (wr [vi 0] ?_)))))))
 have hst := pk0 hst
 have e23 := e17.trans hl21
 have h := Option.some.inj h; subst h
 exact ⟨_, rfl, m20, rfl, e23, hst⟩

def R_l36_quoted (g : World) (m : Mem) (F : List Asr) (r : Str) (v : Value) (w' : World) : Prop := ∃ (m' : Mem), v = vstr r ∧ m.le m' ∧ St g m' (F) w'
theorem c_l36_quoted {k : Nat} {a0 : Str} {r : Str} {g : World} {m : Mem} {F : List Asr} {w : World} (h : l36_quoted k a0 = some r) (hst : St g m (F) w) :
    Calls Tryz.prog 148 ⟨[vstr a0]⟩ w (OPost (R_l36_quoted g m F) r) := by
 refine calls_enter Tryz.func148 rfl rfl ?_
 unfold l36_quoted at h
 refine qr (s0 1 [(2, vstr w_0)] (nl (tn (qr (li 5 1 [vu 34] hst (fun b1 _ hst => ?_))))))
 have hrc3 : RC (TInt .u8) m [34] [vu 34] := (RC.k1 rfl (RC.nil _ _))
 have hst := hst.obj_row (size := 1) (k := 1) rfl (Nat.le_of_ble_eq_true rfl)
 refine s0 1 [(3, .slice (some ⟨b1, 0, none⟩) 1 1)] (nl (tn (sq (qr (s0 1 [(4, vi 0)] (nl (tn (bk (wc_loop (fun kk a w => ∃ (f0 : Fr) (m146 : Mem) (x70 : List Int) (A71 : Option Addr) (c72 : Nat) (cs73 : List Value) (x75 : Int), a = act Tryz.f148.ntmps (upds f0 [(0, vstr a0), (2, vstr w_0), (3, vs A71 x70 c72), (4, vi x75)]) ∧ kk ≤ k ∧ l36_quoted_l3 kk a0 x70 x75 = some r ∧ m.le m146 ∧ St g m146 (rw_ 5 1 A71 x70 c72 cs73 :: F) w ∧ RC (TInt .u8) m146 x70 cs73) k ?_ ?_)))))))))
 ·exact ⟨_, m, ([34]), (some ⟨b1, 0, none⟩), 1, [vu 34], (0), (act_upds ⟨by kernel_rfl, by kernel_rfl, by kernel_rfl, by kernel_rfl, trivial⟩), (Nat.le_refl _), h, (Mem.le.refl _), hst, hrc3⟩
 rintro k144 ih145 _ _ ⟨f0, m146, x70, A71, c72, cs73, x75, rfl, hk143, h, hl142, hst, hrc74⟩
 obtain _ | k148 := k144
 ·simp [l36_quoted_l3] at h
 rw [l36_quoted_l3] at h
 refine sq (qr (s0 4 [(6, vi x75), (7, vstr a0), (8, vi ((a0).length : Int)), (9, vb (decide (x75 < ((a0).length : Int))))] (nl (tn (cn h (fun h => ?_) (fun h => ?_))))))
 ·refine wp_skip (tn (sq (bk (wc_join (fun a w => ∃ (f0 : Fr) (k178 : Nat) (m180 : Mem) (x168 : List Int) (A169 : Option Addr) (c170 : Nat) (cs171 : List Value) (x173 : Int) (x174 : Bool) (x175 : Bool) (x176 : Bool), a = act Tryz.f148.ntmps (upds f0 [(0, vstr a0), (2, vstr w_0), (3, vs A169 x168 c170), (4, vi x75), (6, vi x75), (7, vstr a0), (8, vi ((a0).length : Int)), (9, vb (decide (x75 < ((a0).length : Int)))), (12, vstr a0), (13, vi x75), (14, vu x173), (15, vb x174), (16, vb x175), (21, vb x176)]) ∧ k178 ≤ k148 ∧ l36_quoted_j4 k178 a0 x75 x168 = some r ∧ m146.le m180 ∧ St g m180 (rw_ 5 1 A169 x168 c170 cs171 :: F) w ∧ RC (TInt .u8) m180 x168 cs171) ?_ ?_))))
  ·rintro _ _ ⟨f0, k178, m180, x168, A169, c170, cs171, x173, x174, x175, x176, rfl, hk179, h, hl177, hst, hrc172⟩
   obtain _ | k181 := k178
   ·simp [l36_quoted_j4] at h
   rw [l36_quoted_j4] at h
   refine rg (s0 3 [(25, vs A169 x168 c170), (26, vstr a0), (27, vi x75)] ?_)
   obtain ⟨c183, hc184, h⟩ := ix h
   refine vl (ria hc184.1 hc184.2) (li 5 1 [vu (c183.toNat : Int)] hst (fun b185 _ hst => ?_))
   obtain ⟨hb186, h⟩ := chk_some h
   refine ap1 (TInt .u8) (xs := x168) (ys := [(c183.toNat : Int)]) 1 1 0 hst hrc172 (RC.k1 rfl (RC.nil _ _)) hb186 (fun A187 c188 cs189 _ hrc190 hst => ?_)
   have hst := pk0 hst
   refine s0 1 [(3, vs A187 (x168 ++ [(c183.toNat : Int)]) c188)] (nl (bn (tn (rg (s0 3 [(10, vi x75), (11, vi (w64 (x75 + 1))), (4, vi (w64 (x75 + 1)))] (nl (tn ?_)))))))
   have e191 := hl142.trans hl177
   exact ih145 k181 (by omega) _ _ ⟨_, m180, ((x168 ++ [(c183.toNat : Int)])), A187, c188, cs189, (w64 (x75 + 1)), (act_upds ⟨by kernel_rfl, by kernel_rfl, by kernel_rfl, by kernel_rfl, trivial⟩), (by omega), h, e191, hst, hrc190⟩
  refine qr (s0 2 [(12, vstr a0), (13, vi x75)] ?_)
  obtain ⟨c193, hc194, h⟩ := ix h
  refine vl (ria hc194.1 hc194.2) (s0 2 [(15, vb ((c193.toNat : Int) == 34)), (16, vb ((c193.toNat : Int) == 34))] ?_)
  rcases sp h with ⟨hc195, h⟩ | ⟨hc195, h⟩
  ·rw [hc195]
   refine s0 5 [(17, undef), (18, undef), (19, undef), (20, undef), (21, vb true)] (nl (tn (ct (rg (s0 1 [(22, vs A71 x70 c72)] (li 5 1 [vu 92] hst (fun b196 _ hst => ?_)))))))
   obtain ⟨hb197, h⟩ := chk_some h
   refine ap1 (TInt .u8) (xs := x70) (ys := [92]) 1 1 0 hst hrc74 (RC.k1 rfl (RC.nil _ _)) hb197 (fun A198 c199 cs200 _ hrc201 hst => ?_)
   have hst := pk0 hst
   refine s0 1 [(3, vs A198 (x70 ++ [92]) c199)] (nl (tn ?_))
   exact ⟨_, k148, m146, ((x70 ++ [92])), A198, c199, cs200, ((c193.toNat : Int)), (true), (true), (true), (act_upds ⟨by kernel_rfl, by kernel_rfl, by kernel_rfl, by kernel_rfl, by kernel_rfl, by kernel_rfl, by kernel_rfl, by kernel_rfl, by kernel_rfl, by kernel_rfl, by kernel_rfl, by kernel_rfl, by kernel_rfl, by kernel_rfl, trivial⟩), (by omega), h, (Mem.le.refl _), hst, hrc201⟩
  rw [hc195]
  refine s0 2 [(17, vstr a0), (18, vi x75)] ?_
  obtain ⟨c203, hc204, h⟩ := ix h
  refine vl (ria hc204.1 hc204.2) (s0 2 [(20, vb ((c203.toNat : Int) == 92)), (21, vb ((c203.toNat : Int) == 92))] (nl (tn (cn h (fun h => ?_) (fun h => ?_)))))
  ·refine rg (s0 1 [(22, vs A71 x70 c72)] (li 5 1 [vu 92] hst (fun b205 _ hst => ?_)))
   obtain ⟨hb206, h⟩ := chk_some h
   refine ap1 (TInt .u8) (xs := x70) (ys := [92]) 1 1 0 hst hrc74 (RC.k1 rfl (RC.nil _ _)) hb206 (fun A207 c208 cs209 _ hrc210 hst => ?_)
   have hst := pk0 hst
   refine s0 1 [(3, vs A207 (x70 ++ [92]) c208)] (nl (tn ?_))
   exact ⟨_, k148, m146, ((x70 ++ [92])), A207, c208, cs209, ((c193.toNat : Int)), (false), (false), (((c203.toNat : Int) == 92)), (act_upds ⟨by kernel_rfl, by kernel_rfl, by kernel_rfl, by kernel_rfl, by kernel_rfl, by kernel_rfl, by kernel_rfl, by kernel_rfl, by kernel_rfl, by kernel_rfl, by kernel_rfl, by kernel_rfl, by kernel_rfl, by kernel_rfl, trivial⟩), (by omega), h, (Mem.le.refl _), hst, hrc210⟩
  refine wp_skip (tn ?_)
  exact ⟨_, k148, m146, (x70), A71, c72, cs73, ((c193.toNat : Int)), (false), (false), (((c203.toNat : Int) == 92)), (act_upds ⟨by kernel_rfl, by kernel_rfl, by kernel_rfl, by kernel_rfl, by kernel_rfl, by kernel_rfl, by kernel_rfl, by kernel_rfl, by kernel_rfl, by kernel_rfl, by kernel_rfl, by kernel_rfl, by kernel_rfl, by kernel_rfl, trivial⟩), (by omega), h, (Mem.le.refl _), hst, hrc74⟩
 refine wp_exit (tx (tx (bx (tn (qr (s0 1 [(31, vs A71 x70 c72)] (li 5 1 [vu 34] hst (fun b211 _ hst => ?_))))))))
 obtain ⟨hb212, h⟩ := chk_some h
 refine ap1 (TInt .u8) (xs := x70) (ys := [34]) 1 1 0 hst hrc74 (RC.k1 rfl (RC.nil _ _)) hb212 (fun A213 c214 cs215 _ hrc216 hst => ?_)
 have hst := pk0 hst
 refine vl (cro hst.rd 0 hrc216) (s0 1 [(2, vstr (List.map (fun q : Int => UInt8.ofNat q.toNat) (x70 ++ [34])))] ?_)
 refine nl (tn (wp_ret (wr [vstr (List.map (fun q : Int => UInt8.ofNat q.toNat) (x70 ++ [34]))] ?_)))
 have hst := pk0 hst
 cases h
 exact ⟨_, rfl, m146, rfl, hl142, hst⟩

def R_l36_label (g : World) (m : Mem) (F : List Asr) (r : Str) (v : Value) (w' : World) : Prop := ∃ (m' : Mem), v = vstr r ∧ m.le m' ∧ St g m' (F) w'
theorem c_l36_label {k : Nat} {a0 : Str} {r : Str} {g : World} {m : Mem} {F : List Asr} {w : World} (h : l36_label k a0 = some r) (hst : St g m (F) w) :
    Calls Tryz.prog 74 ⟨[vstr a0]⟩ w (OPost (R_l36_label g m F) r) := by
 refine calls_enter Tryz.func74 rfl rfl ?_
 unfold l36_label at h
 refine qr (s0 1 [(2, vstr w_0)] (nl (tn (sq (qr (s0 1 [(3, vstr a0)] ?_))))))
 obtain ⟨r1, hq2, h⟩ := bs h
 refine cal (c_l36_word hq2 hst) ?_
 rintro _ _ ⟨m3, rfl, hl4, hst⟩
 refine nl (tn (cn h (fun h => ?_) (fun h => ?_)))
 ·refine qr (s0 2 [(5, vstr a0), (2, vstr a0)] (nl (tn (wp_ret (tr (wr [vstr a0] ?_))))))
  have h := Option.some.inj h; subst h
  exact ⟨_, rfl, m3, rfl, hl4, hst⟩
 refine wp_skip (tn (qr (s0 1 [(6, vstr a0)] ?_)))
 obtain ⟨r5, hq6, h⟩ := bs h
 refine cal (c_l36_quoted hq6 hst) ?_
 rintro _ _ ⟨m7, rfl, hl8, hst⟩
 refine s0 1 [(2, vstr r5)] (nl (tn (wp_ret (wr [vstr r5] ?_))))
 have e9 := hl4.trans hl8
 have h := Option.some.inj h; subst h
 exact ⟨_, rfl, m7, rfl, e9, hst⟩

def R_l36_decimal (g : World) (m : Mem) (F : List Asr) (r : Str) (v : Value) (w' : World) : Prop := ∃ (m' : Mem), v = vstr r ∧ m.le m' ∧ St g m' (F) w'
structure I_l36_decimal (k : Nat) : Prop where
  c_l36_decimal : ∀ {a0 : Int} {r : Str} {g : World} {m : Mem} {F : List Asr} {w : World} (h : l36_decimal k a0 = some r) (hst : St g m (F) w),
    Calls Tryz.prog 86 ⟨[vi a0]⟩ w (OPost (R_l36_decimal g m F) r)
theorem s_l36_decimal {k : Nat} (ih : ∀ j, j < k → I_l36_decimal j) {a0 : Int} {r : Str} {g : World} {m : Mem} {F : List Asr} {w : World} (h : l36_decimal k a0 = some r) (hst : St g m (F) w) :
    Calls Tryz.prog 86 ⟨[vi a0]⟩ w (OPost (R_l36_decimal g m F) r) := by
 refine calls_enter Tryz.func86 rfl rfl ?_
 obtain _ | k1 := k
 ·simp [l36_decimal] at h
 rw [l36_decimal] at h
 refine qr (s0 1 [(2, vstr w_0)] (nl (tn (sq (qr (s0 2 [(3, vi a0), (4, vb (decide (a0 < 0)))] (nl (tn (cn h (fun h => ?_) (fun h => ?_))))))))))
 ·refine qr (s0 2 [(5, vi a0), (6, vi (w64 (0 - a0)))] ?_)
  obtain ⟨r6, hq7, h⟩ := bs h
  refine cal ((ih k1 (by omega)).c_l36_decimal hq7 hst) ?_
  rintro _ _ ⟨m8, rfl, hl9, hst⟩
  obtain ⟨hb10, h⟩ := chk_some h
  refine vl (rad hb10) (s0 1 [(2, vstr (wx2d ++ r6))] (nl (tn (wp_ret (tr (wr [vstr (wx2d ++ r6)] ?_))))))
  cases h
  exact ⟨_, rfl, m8, rfl, hl9, hst⟩
 refine wp_skip (tn (sq (qr (s0 2 [(9, vi a0), (10, vb (decide (a0 < 10)))] (nl (tn (cn h (fun h => ?_) (fun h => ?_))))))))
 ·refine qr (s0 3 [(11, vi a0), (12, vi (w64 (48 + a0))), (13, vu (IntKind.u8.wrap (w64 (48 + a0))))] (li 5 1 [vu (IntKind.u8.wrap (w64 (48 + a0)))] hst (fun b11 _ hst => ?_)))
  have hrc13 : RC (TInt .u8) m [IntKind.u8.wrap (w64 (48 + a0))] [vu (IntKind.u8.wrap (w64 (48 + a0)))] := (RC.k1 rfl (RC.nil _ _))
  have hst := hst.obj_row (size := 1) (k := 1) rfl (Nat.le_of_ble_eq_true rfl)
  refine vl (cro hst.rd 0 hrc13) (s0 1 [(2, vstr (List.map (fun q : Int => UInt8.ofNat q.toNat) [IntKind.u8.wrap (w64 (48 + a0))]))] ?_)
  refine nl (tn (wp_ret (tr (wr [vstr (List.map (fun q : Int => UInt8.ofNat q.toNat) [IntKind.u8.wrap (w64 (48 + a0))])] ?_))))
  have hst := pk0 hst
  cases h
  exact ⟨_, rfl, m, rfl, (Mem.le.refl _), hst⟩
 refine wp_skip (tn (qr (s0 2 [(16, vi a0), (17, vi (w64 (a0.tdiv 10)))] ?_)))
 obtain ⟨r14, hq15, h⟩ := bs h
 refine cal ((ih k1 (by omega)).c_l36_decimal hq15 hst) ?_
 rintro _ _ ⟨m16, rfl, hl17, hst⟩
 refine s0 2 [(19, vi a0), (20, vi (a0.tmod 10))] ?_
 obtain ⟨r18, hq19, h⟩ := bs h
 refine cal ((ih k1 (by omega)).c_l36_decimal hq19 hst) ?_
 rintro _ _ ⟨m20, rfl, hl21, hst⟩
 obtain ⟨hb22, h⟩ := chk_some h
 refine vl (rad hb22) (s0 1 [(2, vstr (r14 ++ r18))] (nl (tn (wp_ret (wr [vstr (r14 ++ r18)] ?_)))))
 have e23 := hl17.trans hl21
 cases h
 exact ⟨_, rfl, m20, rfl, e23, hst⟩
theorem i_l36_decimal (k : Nat) : I_l36_decimal k := by
  induction k using Nat.strongRecOn with
  | ind k ih => exact ⟨s_l36_decimal ih⟩
theorem c_l36_decimal {k : Nat} {a0 : Int} {r : Str} {g : World} {m : Mem} {F : List Asr} {w : World} (h : l36_decimal k a0 = some r) (hst : St g m (F) w) :
    Calls Tryz.prog 86 ⟨[vi a0]⟩ w (OPost (R_l36_decimal g m F) r) := (i_l36_decimal k).c_l36_decimal h hst

def R_l36_value (g : World) (m : Mem) (F : List Asr) (r : Str) (v : Value) (w' : World) : Prop := ∃ (m' : Mem), v = vstr r ∧ m.le m' ∧ St g m' (F) w'
theorem c_l36_value {k : Nat} {a0 : GValue} {r : Str} {g : World} {m : Mem} {F : List Asr} {w : World} (h : l36_value k a0 = some r) (hst : St g m (F) w) :
    Calls Tryz.prog 76 ⟨[va (cGValue a0)]⟩ w (OPost (R_l36_value g m F) r) := by
 refine calls_enter Tryz.func76 rfl rfl ?_
 unfold l36_value at h
 refine qr (bo_ (cGValue a0) hst (fun b1 _ hst => ?_))
 refine s0 1 [(2, vstr w_0)] (nl (tn (sq (qr (sg 2 [(3, vp b1 0), (4, vi a0.Kind)] [(ad b1 0, vi a0.Kind)] ⟨hst.c 0, trivial⟩ (nl (tn (bk (qr (s0 2 [(6, vb (a0.Kind == 1)), (5, vb (a0.Kind == 1))] (nl (tn (cn h (fun h => ?_) (fun h => ?_))))))))))))))
 ·refine qr (sg 2 [(7, vp b1 1), (8, vstr a0.Text)] [(ad b1 1, vstr a0.Text)] ⟨hst.c 0, trivial⟩ ?_)
  obtain ⟨r2, hq3, h⟩ := bs h
  refine cal (c_l36_quoted hq3 hst) ?_
  rintro _ _ ⟨m4, rfl, hl5, hst⟩
  refine s0 1 [(2, vstr r2)] (nl (tn (wp_ret (br (tr (wr [vstr r2] ?_))))))
  have hst := pk0 hst
  have h := Option.some.inj h; subst h
  exact ⟨_, rfl, m4, rfl, hl5, hst⟩
 refine qr (s0 2 [(11, vb (a0.Kind == 2)), (10, vb (a0.Kind == 2))] (nl (tn (cn h (fun h => ?_) (fun h => ?_)))))
 ·refine qr (sg 2 [(12, vp b1 2), (13, vi a0.Int)] [(ad b1 2, vi a0.Int)] ⟨hst.c 0, trivial⟩ ?_)
  obtain ⟨r6, hq7, h⟩ := bs h
  refine cal (c_l36_decimal hq7 hst) ?_
  rintro _ _ ⟨m8, rfl, hl9, hst⟩
  refine s0 1 [(2, vstr r6)] (nl (tn (wp_ret (br (tr (wr [vstr r6] ?_))))))
  have hst := pk0 hst
  have h := Option.some.inj h; subst h
  exact ⟨_, rfl, m8, rfl, hl9, hst⟩
 refine wp_skip (bn (tn (sq (qr (sg 3 [(15, vp b1 2), (16, vi a0.Int), (17, vb (a0.Int == 1))] [(ad b1 2, vi a0.Int)] ⟨hst.c 0, trivial⟩ (nl (tn (cn h (fun h => ?_) (fun h => ?_)))))))))
 ·refine qr (s0 1 [(2, vstr w_true)] (nl (tn (wp_ret (tr (wr [vstr w_true] ?_))))))
  have hst := pk0 hst
  have h := Option.some.inj h; subst h
  exact ⟨_, rfl, m, rfl, (Mem.le.refl _), hst⟩
 refine wp_skip (tn (qr (s0 1 [(2, vstr w_false)] (nl (tn (wp_ret (wr [vstr w_false] ?_)))))))
 have hst := pk0 hst
 have h := Option.some.inj h; subst h
 exact ⟨_, rfl, m, rfl, (Mem.le.refl _), hst⟩

def R_l36_pred (g : World) (m : Mem) (F : List Asr) (r : Str) (v : Value) (w' : World) : Prop := ∃ (m' : Mem), v = vstr r ∧ m.le m' ∧ St g m' (F) w'
def R_l36_part (g : World) (m : Mem) (F : List Asr) (r : Str) (v : Value) (w' : World) : Prop := ∃ (m' : Mem), v = vstr r ∧ m.le m' ∧ St g m' (F) w'
structure I_l36_pred (k : Nat) : Prop where
  c_l36_pred : ∀ {a0 : GPred} {r : Str} {g : World} {m : Mem} {F : List Asr} {w : World} {u0 : Value} (h : l36_pred k a0 = some r) (hst : St g m (F) w) (hu0 : RS (TGPred) m u0 a0.Args),
    Calls Tryz.prog 35 ⟨[va (cGPred a0 u0)]⟩ w (OPost (R_l36_pred g m F) r)
  c_l36_part : ∀ {a0 : GPred} {r : Str} {g : World} {m : Mem} {F : List Asr} {w : World} {u0 : Value} (h : l36_part k a0 = some r) (hst : St g m (F) w) (hu0 : RS (TGPred) m u0 a0.Args),
    Calls Tryz.prog 75 ⟨[va (cGPred a0 u0)]⟩ w (OPost (R_l36_part g m F) r)
theorem s_l36_pred {k : Nat} (ih : ∀ j, j < k → I_l36_pred j) {a0 : GPred} {r : Str} {g : World} {m : Mem} {F : List Asr} {w : World} {u0 : Value} (h : l36_pred k a0 = some r) (hst : St g m (F) w) (hu0 : RS (TGPred) m u0 a0.Args) :
    Calls Tryz.prog 35 ⟨[va (cGPred a0 u0)]⟩ w (OPost (R_l36_pred g m F) r) := by
 refine calls_enter Tryz.func35 rfl rfl ?_
 obtain _ | k1 := k
 ·simp [l36_pred] at h
 rw [l36_pred] at h
 obtain ⟨A1, c2, rfl⟩ := hu0.shape
 refine qr (bo_ (cGPred a0 (vs A1 a0.Args c2)) hst (fun b3 _ hst => ?_))
 refine s0 1 [(2, vstr w_0)] (nl (tn (qr (sg 3 [(7, vp b3 1), (8, vstr a0.Field), (3, vstr a0.Field)] [(ad b3 1, vstr a0.Field)] ⟨hst.c 0, trivial⟩ (nl (tn (wc_join (fun a w => ∃ (f0 : Fr) (k11 : Nat) (m13 : Mem) (x9 : Str), a = act Tryz.f35.ntmps (upds f0 [(1, vp b3 0), (2, vstr w_0), (3, vstr x9)]) ∧ k11 ≤ k1 ∧ l36_pred_j1 k11 a0 x9 = some r ∧ m.le m13 ∧ St g m13 (oo b3 44 (cGPred a0 (vs A1 a0.Args c2)) :: F) w) ?_ ?_)))))))
 ·rintro _ _ ⟨f0, k11, m13, x9, rfl, hk12, h, hl10, hst⟩
  obtain _ | k14 := k11
  ·simp [l36_pred_j1] at h
  rw [l36_pred_j1] at h
  refine sq (qr (sg 2 [(15, vp b3 0), (16, vi a0.Op)] [(ad b3 0, vi a0.Op)] ⟨hst.c 0, trivial⟩ (nl (tn (bk (wc_join (fun a w => ∃ (f0 : Fr) (k17 : Nat) (m19 : Mem) (x15 : Bool), a = act Tryz.f35.ntmps (upds f0 [(1, vp b3 0), (2, vstr w_0), (3, vstr x9), (16, vi a0.Op), (17, vb x15)]) ∧ k17 ≤ k14 ∧ l36_pred_j2 k17 a0 x9 x15 = some r ∧ m13.le m19 ∧ St g m19 (oo b3 44 (cGPred a0 (vs A1 a0.Args c2)) :: F) w) ?_ ?_))))))
  ·rintro _ _ ⟨f0, k17, m19, x15, rfl, hk18, h, hl16, hst⟩
   obtain _ | k20 := k17
   ·simp [l36_pred_j2] at h
   rw [l36_pred_j2] at h
   refine cn h (fun h => ?_) (fun h => ?_)
   ·refine qr (s0 1 [(4, vstr wx20616e6420)] (nl (tn (wc_join (fun a w => ∃ (f0 : Fr) (k23 : Nat) (m25 : Mem) (x21 : Str), a = act Tryz.f35.ntmps (upds f0 [(1, vp b3 0), (2, vstr w_0), (4, vstr x21)]) ∧ k23 ≤ k20 ∧ l36_pred_j3 k23 a0 x21 = some r ∧ m19.le m25 ∧ St g m25 (oo b3 44 (cGPred a0 (vs A1 a0.Args c2)) :: F) w) ?_ ?_))))
    ·rintro _ _ ⟨f0, k23, m25, x21, rfl, hk24, h, hl22, hst⟩
     obtain _ | k26 := k23
     ·simp [l36_pred_j3] at h
     rw [l36_pred_j3] at h
     refine qr (sg 2 [(23, vp b3 6), (24, vs A1 a0.Args c2)] [(ad b3 6, vs A1 a0.Args c2)] ⟨hst.c 0, trivial⟩ ?_)
     obtain ⟨x28, hx29, h⟩ := ix h
     have e36 := hl10.trans (hl16.trans hl22)
     obtain ⟨b30, o31, cs32, hR33, hA34, hI35⟩ := RS.ix (P := Tryz.prog) (RS.mono e36 hu0) hx29
     obtain ⟨v37, rfl, hv37⟩ := TGPred.open_ hR33
     obtain ⟨A38, c39, rfl⟩ := hv37.shape
     refine vl (hI35.r .i64) (sg 1 [(26, va (cGPred x28 (vs A38 x28.Args c39)))] [(ad b30 o31, vi x28.Op), (ad b30 (o31 + 1), vstr x28.Field), (ad b30 (o31 + 2), vstr x28.Key), (ad b30 (o31 + 3), vi x28.Value.Kind), (ad b30 (o31 + 4), vstr x28.Value.Text), (ad b30 (o31 + 5), vi x28.Value.Int), (ad b30 (o31 + 6), vs A38 x28.Args c39)] ⟨hst.e hA34 0, hst.e hA34 1, hst.e hA34 2, hst.e hA34 3, hst.e hA34 4, hst.e hA34 5, hst.e hA34 6, trivial⟩ ?_)
     obtain ⟨r40, hq41, h⟩ := bs h
     refine cal ((ih k26 (by omega)).c_l36_part hq41 hst hv37) ?_
     rintro _ _ ⟨m42, rfl, hl43, hst⟩
     refine s0 1 [(5, vstr r40)] (nl (tn (sq (qr (s0 1 [(6, vi 1)] (nl (tn (bk (wc_loop (fun kk a w => ∃ (f0 : Fr) (m92 : Mem) (x65 : Str) (x66 : Int), a = act Tryz.f35.ntmps (upds f0 [(1, vp b3 0), (2, vstr w_0), (4, vstr x21), (5, vstr x65), (6, vi x66)]) ∧ kk ≤ k26 ∧ l36_pred_l4 kk a0 x21 x65 x66 = some r ∧ m42.le m92 ∧ St g m92 (oo b3 44 (cGPred a0 (vs A1 a0.Args c2)) :: F) w) k26 ?_ ?_)))))))))
     ·exact ⟨_, m42, (r40), (1), (act_upds ⟨by kernel_rfl, by kernel_rfl, by kernel_rfl, by kernel_rfl, by kernel_rfl, trivial⟩), (Nat.le_refl _), h, (Mem.le.refl _), hst⟩
     rintro k90 ih91 _ _ ⟨f0, m92, x65, x66, rfl, hk89, h, hl88, hst⟩
     obtain _ | k94 := k90
     ·simp [l36_pred_l4] at h
     rw [l36_pred_l4] at h
     refine sq (qr (sg 5 [(28, vi x66), (29, vp b3 6), (30, vs A1 a0.Args c2), (31, vi ((a0.Args).length : Int)), (32, vb (decide (x66 < ((a0.Args).length : Int))))] [(ad b3 6, vs A1 a0.Args c2)] ⟨hst.c 0, trivial⟩ (nl (tn (cn h (fun h => ?_) (fun h => ?_))))))
     ·refine wp_skip (tn (sq (bk (rg (s0 2 [(35, vstr x65), (36, vstr x21)] ?_)))))
      obtain ⟨hb95, h⟩ := chk_some h
      refine vl (rad hb95) (sg 3 [(38, vp b3 6), (39, vs A1 a0.Args c2), (40, vi x66)] [(ad b3 6, vs A1 a0.Args c2)] ⟨hst.c 0, trivial⟩ ?_)
      obtain ⟨x97, hx98, h⟩ := ix h
      have e105 := e36.trans (hl43.trans hl88)
      obtain ⟨b99, o100, cs101, hR102, hA103, hI104⟩ := RS.ix (P := Tryz.prog) (RS.mono e105 hu0) hx98
      obtain ⟨v106, rfl, hv106⟩ := TGPred.open_ hR102
      obtain ⟨A107, c108, rfl⟩ := hv106.shape
      refine vl (hI104.r .i64) (sg 1 [(42, va (cGPred x97 (vs A107 x97.Args c108)))] [(ad b99 o100, vi x97.Op), (ad b99 (o100 + 1), vstr x97.Field), (ad b99 (o100 + 2), vstr x97.Key), (ad b99 (o100 + 3), vi x97.Value.Kind), (ad b99 (o100 + 4), vstr x97.Value.Text), (ad b99 (o100 + 5), vi x97.Value.Int), (ad b99 (o100 + 6), vs A107 x97.Args c108)] ⟨hst.e hA103 0, hst.e hA103 1, hst.e hA103 2, hst.e hA103 3, hst.e hA103 4, hst.e hA103 5, hst.e hA103 6, trivial⟩ ?_)
      obtain ⟨r109, hq110, h⟩ := bs h
      refine cal ((ih k94 (by omega)).c_l36_part hq110 hst hv106) ?_
      rintro _ _ ⟨m111, rfl, hl112, hst⟩
      obtain ⟨hb113, h⟩ := chk_some h
      refine vl (rad hb113) (s0 1 [(5, vstr ((x65 ++ x21) ++ r109))] (nl (bn (tn (rg (s0 3 [(33, vi x66), (34, vi (w64 (x66 + 1))), (6, vi (w64 (x66 + 1)))] (nl (tn ?_))))))))
      have e114 := hl88.trans hl112
      exact ih91 k94 (by omega) _ _ ⟨_, m111, (((x65 ++ x21) ++ r109)), (w64 (x66 + 1)), (act_upds ⟨by kernel_rfl, by kernel_rfl, by kernel_rfl, by kernel_rfl, by kernel_rfl, trivial⟩), (by omega), h, e114, hst⟩
     refine wp_exit (tx (tx (bx (tn (qr (s0 2 [(45, vstr x65), (2, vstr x65)] (nl (tn (wp_ret (br (tr (wr [vstr x65] ?_))))))))))))
     have hst := pk0 hst
     have e115 := e36.trans (hl43.trans hl88)
     have h := Option.some.inj h; subst h
     exact ⟨_, rfl, m92, rfl, e115, hst⟩
    refine qr (sg 3 [(20, vp b3 0), (21, vi a0.Op), (22, vb (a0.Op == 2))] [(ad b3 0, vi a0.Op)] ⟨hst.c 0, trivial⟩ (nl (tn (cn h (fun h => ?_) (fun h => ?_)))))
    ·refine rg (s0 1 [(4, vstr wx206f7220)] (nl (tn ?_)))
     exact ⟨_, k20, m19, (wx206f7220), (act_upds ⟨by kernel_rfl, by kernel_rfl, by kernel_rfl, trivial⟩), (by omega), h, (Mem.le.refl _), hst⟩
    refine wp_skip (tn ?_)
    exact ⟨_, k20, m19, (wx20616e6420), (act_upds ⟨by kernel_rfl, by kernel_rfl, by kernel_rfl, trivial⟩), (by omega), h, (Mem.le.refl _), hst⟩
   refine qr (s0 2 [(47, vb (a0.Op == 3)), (46, vb (a0.Op == 3))] (nl (tn (cn h (fun h => ?_) (fun h => ?_)))))
   ·refine qr (sg 2 [(48, vp b3 6), (49, vs A1 a0.Args c2)] [(ad b3 6, vs A1 a0.Args c2)] ⟨hst.c 0, trivial⟩ ?_)
    obtain ⟨x117, hx118, h⟩ := ix h
    have e125 := hl10.trans hl16
    obtain ⟨b119, o120, cs121, hR122, hA123, hI124⟩ := RS.ix (P := Tryz.prog) (RS.mono e125 hu0) hx118
    obtain ⟨v126, rfl, hv126⟩ := TGPred.open_ hR122
    obtain ⟨A127, c128, rfl⟩ := hv126.shape
    refine vl (hI124.r .i64) (sg 1 [(51, va (cGPred x117 (vs A127 x117.Args c128)))] [(ad b119 o120, vi x117.Op), (ad b119 (o120 + 1), vstr x117.Field), (ad b119 (o120 + 2), vstr x117.Key), (ad b119 (o120 + 3), vi x117.Value.Kind), (ad b119 (o120 + 4), vstr x117.Value.Text), (ad b119 (o120 + 5), vi x117.Value.Int), (ad b119 (o120 + 6), vs A127 x117.Args c128)] ⟨hst.e hA123 0, hst.e hA123 1, hst.e hA123 2, hst.e hA123 3, hst.e hA123 4, hst.e hA123 5, hst.e hA123 6, trivial⟩ ?_)
    obtain ⟨r129, hq130, h⟩ := bs h
    refine cal ((ih k20 (by omega)).c_l36_part hq130 hst hv126) ?_
    rintro _ _ ⟨m131, rfl, hl132, hst⟩
    obtain ⟨hb133, h⟩ := chk_some h
    refine vl (rad hb133) (s0 1 [(2, vstr (wx6e6f7420 ++ r129))] (nl (tn (wp_ret (br (tr (wr [vstr (wx6e6f7420 ++ r129)] ?_)))))))
    have hst := pk0 hst
    have e134 := e125.trans hl132
    cases h
    exact ⟨_, rfl, m131, rfl, e134, hst⟩
   refine qr (s0 2 [(55, vb (a0.Op == 4)), (54, vb (a0.Op == 4))] (nl (tn (cn h (fun h => ?_) (fun h => ?_)))))
   ·refine qr (sg 2 [(56, vp b3 2), (57, vstr a0.Key)] [(ad b3 2, vstr a0.Key)] ⟨hst.c 0, trivial⟩ ?_)
    obtain ⟨r135, hq136, h⟩ := bs h
    refine cal (c_l36_label hq136 hst) ?_
    rintro _ _ ⟨m137, rfl, hl138, hst⟩
    obtain ⟨hb139, h⟩ := chk_some h
    refine vl (rad hb139) (s0 1 [(2, vstr (wx68617320 ++ r135))] (nl (tn (wp_ret (br (tr (wr [vstr (wx68617320 ++ r135)] ?_)))))))
    have hst := pk0 hst
    have e140 := hl10.trans (hl16.trans hl138)
    cases h
    exact ⟨_, rfl, m137, rfl, e140, hst⟩
   refine qr (s0 2 [(61, vb (a0.Op == 5)), (60, vb (a0.Op == 5))] (nl (tn (cn h (fun h => ?_) (fun h => ?_)))))
   ·refine qr (s0 1 [(62, vstr x9)] ?_)
    obtain ⟨hb141, h⟩ := chk_some h
    refine vl (rad hb141) (sg 2 [(64, vp b3 3), (65, va (cGValue a0.Value))] [(ad b3 3, vi a0.Value.Kind), (ad b3 4, vstr a0.Value.Text), (ad b3 5, vi a0.Value.Int)] ⟨hst.c 0, hst.c 0, hst.c 0, trivial⟩ ?_)
    obtain ⟨r142, hq143, h⟩ := bs h
    refine cal (c_l36_value hq143 hst) ?_
    rintro _ _ ⟨m144, rfl, hl145, hst⟩
    obtain ⟨hb146, h⟩ := chk_some h
    refine vl (rad hb146) (s0 1 [(2, vstr ((x9 ++ wx203d20) ++ r142))] (nl (tn (wp_ret (br (tr (wr [vstr ((x9 ++ wx203d20) ++ r142)] ?_)))))))
    have hst := pk0 hst
    have e147 := hl10.trans (hl16.trans hl145)
    cases h
    exact ⟨_, rfl, m144, rfl, e147, hst⟩
   refine qr (s0 2 [(69, vb (a0.Op == 6)), (68, vb (a0.Op == 6))] (nl (tn (cn h (fun h => ?_) (fun h => ?_)))))
   ·refine qr (s0 1 [(70, vstr x9)] ?_)
    obtain ⟨hb148, h⟩ := chk_some h
    refine vl (rad hb148) (sg 2 [(72, vp b3 3), (73, va (cGValue a0.Value))] [(ad b3 3, vi a0.Value.Kind), (ad b3 4, vstr a0.Value.Text), (ad b3 5, vi a0.Value.Int)] ⟨hst.c 0, hst.c 0, hst.c 0, trivial⟩ ?_)
    obtain ⟨r149, hq150, h⟩ := bs h
    refine cal (c_l36_value hq150 hst) ?_
    rintro _ _ ⟨m151, rfl, hl152, hst⟩
    obtain ⟨hb153, h⟩ := chk_some h
    refine vl (rad hb153) (s0 1 [(2, vstr ((x9 ++ wx203c20) ++ r149))] (nl (tn (wp_ret (br (tr (wr [vstr ((x9 ++ wx203c20) ++ r149)] ?_)))))))
    have hst := pk0 hst
    have e154 := hl10.trans (hl16.trans hl152)
    cases h
    exact ⟨_, rfl, m151, rfl, e154, hst⟩
   refine qr (s0 2 [(77, vb (a0.Op == 7)), (76, vb (a0.Op == 7))] (nl (tn (cn h (fun h => ?_) (fun h => ?_)))))
   ·refine qr (s0 1 [(78, vstr x9)] ?_)
    obtain ⟨hb155, h⟩ := chk_some h
    refine vl (rad hb155) (sg 2 [(80, vp b3 3), (81, va (cGValue a0.Value))] [(ad b3 3, vi a0.Value.Kind), (ad b3 4, vstr a0.Value.Text), (ad b3 5, vi a0.Value.Int)] ⟨hst.c 0, hst.c 0, hst.c 0, trivial⟩ ?_)
    obtain ⟨r156, hq157, h⟩ := bs h
    refine cal (c_l36_value hq157 hst) ?_
    rintro _ _ ⟨m158, rfl, hl159, hst⟩
    obtain ⟨hb160, h⟩ := chk_some h
    refine vl (rad hb160) (s0 1 [(2, vstr ((x9 ++ wx2070726566697820) ++ r156))] (nl (tn (wp_ret (br (tr (wr [vstr ((x9 ++ wx2070726566697820) ++ r156)] ?_)))))))
    have hst := pk0 hst
    have e161 := hl10.trans (hl16.trans hl159)
    cases h
    exact ⟨_, rfl, m158, rfl, e161, hst⟩
   refine wp_skip (bn (tn (qr (s0 1 [(2, vstr w_true)] (nl (tn (wp_ret (wr [vstr w_true] ?_))))))))
   have hst := pk0 hst
   have e162 := hl10.trans hl16
   have h := Option.some.inj h; subst h
   exact ⟨_, rfl, m19, rfl, e162, hst⟩
  refine qr (s0 2 [(18, vb (a0.Op == 1)), (17, vb (a0.Op == 1))] (nl (tn (cn h (fun h => ?_) (fun h => ?_)))))
  ·refine wp_skip (tn ?_)
   exact ⟨_, k14, m13, ((a0.Op == 1)), (act_upds ⟨by kernel_rfl, by kernel_rfl, by kernel_rfl, by kernel_rfl, by kernel_rfl, trivial⟩), (by omega), h, (Mem.le.refl _), hst⟩
  refine rg (s0 2 [(19, vb (a0.Op == 2)), (17, vb (a0.Op == 2))] (nl (tn ?_)))
  exact ⟨_, k14, m13, ((a0.Op == 2)), (act_upds ⟨by kernel_rfl, by kernel_rfl, by kernel_rfl, by kernel_rfl, by kernel_rfl, trivial⟩), (by omega), h, (Mem.le.refl _), hst⟩
 refine qr (s0 1 [(9, vstr a0.Field)] (vl (re a0.Field w_attr) (nl (tn (cn h (fun h => ?_) (fun h => ?_))))))
 ·refine rg (sg 2 [(11, vp b3 2), (12, vstr a0.Key)] [(ad b3 2, vstr a0.Key)] ⟨hst.c 0, trivial⟩ ?_)
  obtain ⟨r163, hq164, h⟩ := bs h
  refine cal (c_l36_label hq164 hst) ?_
  rintro _ _ ⟨m165, rfl, hl166, hst⟩
  obtain ⟨hb167, h⟩ := chk_some h
  refine vl (rad hb167) (s0 1 [(3, vstr (wx617474722e ++ r163))] (nl (tn ?_)))
  exact ⟨_, k1, m165, ((wx617474722e ++ r163)), (act_upds ⟨by kernel_rfl, by kernel_rfl, by kernel_rfl, trivial⟩), (by omega), h, hl166, hst⟩
 refine wp_skip (tn ?_)
 exact ⟨_, k1, m, (a0.Field), (act_upds ⟨by kernel_rfl, by kernel_rfl, by kernel_rfl, trivial⟩), (by omega), h, (Mem.le.refl _), hst⟩
theorem s_l36_part {k : Nat} (ih : ∀ j, j < k → I_l36_pred j) {a0 : GPred} {r : Str} {g : World} {m : Mem} {F : List Asr} {w : World} {u0 : Value} (h : l36_part k a0 = some r) (hst : St g m (F) w) (hu0 : RS (TGPred) m u0 a0.Args) :
    Calls Tryz.prog 75 ⟨[va (cGPred a0 u0)]⟩ w (OPost (R_l36_part g m F) r) := by
 refine calls_enter Tryz.func75 rfl rfl ?_
 obtain _ | k1 := k
 ·simp [l36_part] at h
 rw [l36_part] at h
 obtain ⟨A1, c2, rfl⟩ := hu0.shape
 refine qr (bo_ (cGPred a0 (vs A1 a0.Args c2)) hst (fun b3 _ hst => ?_))
 refine s0 1 [(2, vstr w_0)] (nl (tn (sq (qr (sg 4 [(3, vp b3 0), (4, vi a0.Op), (5, vb (a0.Op == 1)), (6, vb (a0.Op == 1))] [(ad b3 0, vi a0.Op)] ⟨hst.c 0, trivial⟩ ?_)))))
 rcases sp h with ⟨hc4, h⟩ | ⟨hc4, h⟩
 ·rw [hc4]
  refine s0 4 [(7, undef), (8, undef), (9, undef), (10, vb true)] (nl (tn (ct (qr (sg 1 [(11, va (cGPred a0 (vs A1 a0.Args c2)))] [(ad b3 0, vi a0.Op), (ad b3 1, vstr a0.Field), (ad b3 2, vstr a0.Key), (ad b3 3, vi a0.Value.Kind), (ad b3 4, vstr a0.Value.Text), (ad b3 5, vi a0.Value.Int), (ad b3 6, vs A1 a0.Args c2)] ⟨hst.c 0, hst.c 0, hst.c 0, hst.c 0, hst.c 0, hst.c 0, hst.c 0, trivial⟩ ?_)))))
  obtain ⟨r5, hq6, h⟩ := bs h
  refine cal ((ih k1 (by omega)).c_l36_pred hq6 hst hu0) ?_
  rintro _ _ ⟨m7, rfl, hl8, hst⟩
  obtain ⟨hb9, h⟩ := chk_some h
  refine vl (rad hb9) ?_
  obtain ⟨hb10, h⟩ := chk_some h
  refine vl (rad hb10) (s0 1 [(2, vstr ((wx28 ++ r5) ++ wx29))] (nl (tn (wp_ret (tr (wr [vstr ((wx28 ++ r5) ++ wx29)] ?_))))))
  have hst := pk0 hst
  cases h
  exact ⟨_, rfl, m7, rfl, hl8, hst⟩
 rw [hc4]
 refine sg 4 [(7, vp b3 0), (8, vi a0.Op), (9, vb (a0.Op == 2)), (10, vb (a0.Op == 2))] [(ad b3 0, vi a0.Op)] ⟨hst.c 0, trivial⟩ (nl (tn (cn h (fun h => ?_) (fun h => ?_))))
 ·refine qr (sg 1 [(11, va (cGPred a0 (vs A1 a0.Args c2)))] [(ad b3 0, vi a0.Op), (ad b3 1, vstr a0.Field), (ad b3 2, vstr a0.Key), (ad b3 3, vi a0.Value.Kind), (ad b3 4, vstr a0.Value.Text), (ad b3 5, vi a0.Value.Int), (ad b3 6, vs A1 a0.Args c2)] ⟨hst.c 0, hst.c 0, hst.c 0, hst.c 0, hst.c 0, hst.c 0, hst.c 0, trivial⟩ ?_)
  obtain ⟨r11, hq12, h⟩ := bs h
  refine cal ((ih k1 (by omega)).c_l36_pred hq12 hst hu0) ?_
  rintro _ _ ⟨m13, rfl, hl14, hst⟩
  obtain ⟨hb15, h⟩ := chk_some h
  refine vl (rad hb15) ?_
  obtain ⟨hb16, h⟩ := chk_some h
  refine vl (rad hb16) (s0 1 [(2, vstr ((wx28 ++ r11) ++ wx29))] (nl (tn (wp_ret (tr (wr [vstr ((wx28 ++ r11) ++ wx29)] ?_))))))
  have hst := pk0 hst
  cases h
  exact ⟨_, rfl, m13, rfl, hl14, hst⟩
 refine wp_skip (tn (qr (sg 1 [(15, va (cGPred a0 (vs A1 a0.Args c2)))] [(ad b3 0, vi a0.Op), (ad b3 1, vstr a0.Field), (ad b3 2, vstr a0.Key), (ad b3 3, vi a0.Value.Kind), (ad b3 4, vstr a0.Value.Text), (ad b3 5, vi a0.Value.Int), (ad b3 6, vs A1 a0.Args c2)] ⟨hst.c 0, hst.c 0, hst.c 0, hst.c 0, hst.c 0, hst.c 0, hst.c 0, trivial⟩ ?_)))
 obtain ⟨r17, hq18, h⟩ := bs h
 refine cal ((ih k1 (by omega)).c_l36_pred hq18 hst hu0) ?_
 rintro _ _ ⟨m19, rfl, hl20, hst⟩
 refine s0 1 [(2, vstr r17)] (nl (tn (wp_ret (wr [vstr r17] ?_))))
 have hst := pk0 hst
 have h := Option.some.inj h; subst h
 exact ⟨_, rfl, m19, rfl, hl20, hst⟩
theorem i_l36_pred (k : Nat) : I_l36_pred k := by
  induction k using Nat.strongRecOn with
  | ind k ih => exact ⟨s_l36_pred ih, s_l36_part ih⟩
theorem c_l36_pred {k : Nat} {a0 : GPred} {r : Str} {g : World} {m : Mem} {F : List Asr} {w : World} {u0 : Value} (h : l36_pred k a0 = some r) (hst : St g m (F) w) (hu0 : RS (TGPred) m u0 a0.Args) :
    Calls Tryz.prog 35 ⟨[va (cGPred a0 u0)]⟩ w (OPost (R_l36_pred g m F) r) := (i_l36_pred k).c_l36_pred h hst hu0
theorem c_l36_part {k : Nat} {a0 : GPred} {r : Str} {g : World} {m : Mem} {F : List Asr} {w : World} {u0 : Value} (h : l36_part k a0 = some r) (hst : St g m (F) w) (hu0 : RS (TGPred) m u0 a0.Args) :
    Calls Tryz.prog 75 ⟨[va (cGPred a0 u0)]⟩ w (OPost (R_l36_part g m F) r) := (i_l36_pred k).c_l36_part h hst hu0

end Go.Proofs.YtfnaahkgegfbnaaGreatDoor
