/- Contracts of Go functions. Written by a program of this session. -/
import Derived.Test.YtfnaahkgegfbnaaGreatDoorPK
import Derived.Test.YtfnaahkgegfbnaaGreatDoorShelf
import Derived.Test.YtfnaahkgegfbnaaGreatDoorDh
set_option linter.unusedVariables false
set_option linter.unusedSimpArgs false
set_option maxRecDepth 10000
namespace Go.Proofs.YtfnaahkgegfbnaaGreatDoor

def R_syntax_EqualPred (g : World) (m : Mem) (F : List Asr) (r : Bool) (v : Value) (w' : World) : Prop := ∃ (m' : Mem), v = vb r ∧ m.le m' ∧ St g m' (F) w'
def R_slices_EqualFunc_api_Pred (g : World) (m : Mem) (F : List Asr) (r : Bool) (v : Value) (w' : World) : Prop := ∃ (m' : Mem), v = vb r ∧ m.le m' ∧ St g m' (F) w'
structure I_syntax_EqualPred (k : Nat) : Prop where
  c_syntax_EqualPred : ∀ {a0 : GPred} {a1 : GPred} {r : Bool} {g : World} {m : Mem} {F : List Asr} {w : World} {u0 : Value} {u1 : Value} (h : syntax_EqualPred k a0 a1 = some r) (hst : St g m (F) w) (hu0 : RS (TGPred) m u0 a0.Args) (hu1 : RS (TGPred) m u1 a1.Args),
    Calls Tryz.prog 36 ⟨[va (cGPred a0 u0), va (cGPred a1 u1)]⟩ w (OPost (R_syntax_EqualPred g m F) r)
  c_slices_EqualFunc_api_Pred : ∀ {a0 : List GPred} {a1 : List GPred} {r : Bool} {g : World} {m : Mem} {F : List Asr} {w : World} {u0 : Value} {u1 : Value} (h : slices_EqualFunc_api_Pred k a0 a1 = some r) (hst : St g m (F) w) (hu0 : RS (TGPred) m u0 a0) (hu1 : RS (TGPred) m u1 a1),
    Calls Tryz.prog 77 ⟨[u0, u1, vf 36 [] []]⟩ w (OPost (R_slices_EqualFunc_api_Pred g m F) r)
theorem s_syntax_EqualPred {k : Nat} (ih : ∀ j, j < k → I_syntax_EqualPred j) {a0 : GPred} {a1 : GPred} {r : Bool} {g : World} {m : Mem} {F : List Asr} {w : World} {u0 : Value} {u1 : Value} (h : syntax_EqualPred k a0 a1 = some r) (hst : St g m (F) w) (hu0 : RS (TGPred) m u0 a0.Args) (hu1 : RS (TGPred) m u1 a1.Args) :
    Calls Tryz.prog 36 ⟨[va (cGPred a0 u0), va (cGPred a1 u1)]⟩ w (OPost (R_syntax_EqualPred g m F) r) := by
 refine calls_enter Tryz.func36 rfl rfl ?_
 obtain _ | k1 := k
 ·simp [syntax_EqualPred] at h
 rw [syntax_EqualPred] at h
 obtain ⟨A1, c2, rfl⟩ := hu0.shape
 obtain ⟨A3, c4, rfl⟩ := hu1.shape
 refine qr (bo_ (cGPred a0 (vs A1 a0.Args c2)) hst (fun b5 _ hst => ?_))
 refine bo_ (cGPred a1 (vs A3 a1.Args c4)) hst (fun b6 _ hst => ?_)
 refine s0 1 [(4, vb false)] (nl (tn (qr (sg 6 [(5, vp b5 0), (6, vi a0.Op), (7, vp b6 0), (8, vi a1.Op), (9, vb (a0.Op == a1.Op)), (10, vb (a0.Op == a1.Op))] [(ad b5 0, vi a0.Op), (ad b6 0, vi a1.Op)] ⟨hst.c 1, hst.c 0, trivial⟩ ?_))))
 rcases sp h with ⟨hc7, h⟩ | ⟨hc7, h⟩
 ·rw [hc7]
  refine sg 4 [(11, vp b5 1), (12, vstr a0.Field), (13, vp b6 1), (14, vstr a1.Field)] [(ad b5 1, vstr a0.Field), (ad b6 1, vstr a1.Field)] ⟨hst.c 1, hst.c 0, trivial⟩ (vl (re a0.Field a1.Field) (s0 2 [(16, vb (a0.Field == a1.Field)), (17, vb (a0.Field == a1.Field))] ?_))
  rcases sp h with ⟨hc8, h⟩ | ⟨hc8, h⟩
  ·rw [hc8]
   refine sg 4 [(18, vp b5 2), (19, vstr a0.Key), (20, vp b6 2), (21, vstr a1.Key)] [(ad b5 2, vstr a0.Key), (ad b6 2, vstr a1.Key)] ⟨hst.c 1, hst.c 0, trivial⟩ (vl (re a0.Key a1.Key) (s0 2 [(23, vb (a0.Key == a1.Key)), (24, vb (a0.Key == a1.Key))] ?_))
   rcases sp h with ⟨hc9, h⟩ | ⟨hc9, h⟩
   ·rw [hc9]
    refine sg 4 [(25, vp b5 3), (26, va (cGValue a0.Value)), (27, vp b6 3), (28, va (cGValue a1.Value))] [(ad b5 3, vi a0.Value.Kind), (ad b5 4, vstr a0.Value.Text), (ad b5 5, vi a0.Value.Int), (ad b6 3, vi a1.Value.Kind), (ad b6 4, vstr a1.Value.Text), (ad b6 5, vi a1.Value.Int)] ⟨hst.c 1, hst.c 1, hst.c 1, hst.c 0, hst.c 0, hst.c 0, trivial⟩ (vl (rae ((a0.Value.Kind == a1.Value.Kind) && ((a0.Value.Text == a1.Value.Text) && ((a0.Value.Int == a1.Value.Int) && true))) (cGValue a0.Value) (cGValue a1.Value)) (s0 2 [(30, vb ((a0.Value.Kind == a1.Value.Kind) && ((a0.Value.Text == a1.Value.Text) && ((a0.Value.Int == a1.Value.Int) && true)))), (31, vb ((a0.Value.Kind == a1.Value.Kind) && ((a0.Value.Text == a1.Value.Text) && ((a0.Value.Int == a1.Value.Int) && true))))] ?_))
    rcases sp h with ⟨hc10, h⟩ | ⟨hc10, h⟩
    ·rw [hc10]
     refine sg 4 [(32, vp b5 6), (33, vs A1 a0.Args c2), (34, vp b6 6), (35, vs A3 a1.Args c4)] [(ad b5 6, vs A1 a0.Args c2), (ad b6 6, vs A3 a1.Args c4)] ⟨hst.c 1, hst.c 0, trivial⟩ ?_
     obtain ⟨r11, hq12, h⟩ := bs h
     refine cal ((ih k1 (by omega)).c_slices_EqualFunc_api_Pred hq12 hst hu0 hu1) ?_
     rintro _ _ ⟨m13, rfl, hl14, hst⟩
     refine s0 2 [(37, vb r11), (4, vb r11)] (nl (tn (wp_ret (wr [vb r11] ?_))))
     have hst := pk2 hst
     have h := Option.some.inj h; subst h
     exact ⟨_, rfl, m13, rfl, hl14, hst⟩
    rw [hc10]
    refine s0 7 [(32, undef), (33, undef), (34, undef), (35, undef), (36, undef), (37, vb false), (4, vb false)] (nl (tn (wp_ret (wr [vb false] ?_))))
    have hst := pk2 hst
    have h := Option.some.inj h; subst h
    exact ⟨_, rfl, m, rfl, (Mem.le.refl _), hst⟩
   rw [hc9]
   refine s0 14 [(25, undef), (26, undef), (27, undef), (28, undef), (29, undef), (30, vb false), (31, vb false), (32, undef), (33, undef), (34, undef), (35, undef), (36, undef), (37, vb false), (4, vb false)] (nl (tn (wp_ret (wr [vb false] ?_))))
   have hst := pk2 hst
   have h := Option.some.inj h; subst h
   exact ⟨_, rfl, m, rfl, (Mem.le.refl _), hst⟩
  rw [hc8]
  refine s0 21 [(18, undef), (19, undef), (20, undef), (21, undef), (22, undef), (23, vb false), (24, vb false), (25, undef), (26, undef), (27, undef), (28, undef), (29, undef), (30, vb false), (31, vb false), (32, undef), (33, undef), (34, undef), (35, undef), (36, undef), (37, vb false), (4, vb false)] (nl (tn (wp_ret (wr [vb false] ?_))))
  have hst := pk2 hst
  have h := Option.some.inj h; subst h
  exact ⟨_, rfl, m, rfl, (Mem.le.refl _), hst⟩
 rw [hc7]
 refine s0 28 [(11, undef), (12, undef), (13, undef), (14, undef), (15, undef), (16, vb false), (17, vb false), (18, undef), (19, undef), (20, undef), (21, undef), (22, undef), (23, vb false), (24, vb false), (25, undef), (26, undef), (27, undef), (28, undef), (29, undef), (30, vb false), (31, vb false), (32, undef), (33, undef), (34, undef), (35, undef), (36, undef), (37, vb false), (4, vb false)] (nl (tn (wp_ret (wr [vb false] ?_))))
 have hst := pk2 hst
 have h := Option.some.inj h; subst h
 exact ⟨_, rfl, m, rfl, (Mem.le.refl _), hst⟩
theorem s_slices_EqualFunc_api_Pred {k : Nat} (ih : ∀ j, j < k → I_syntax_EqualPred j) {a0 : List GPred} {a1 : List GPred} {r : Bool} {g : World} {m : Mem} {F : List Asr} {w : World} {u0 : Value} {u1 : Value} (h : slices_EqualFunc_api_Pred k a0 a1 = some r) (hst : St g m (F) w) (hu0 : RS (TGPred) m u0 a0) (hu1 : RS (TGPred) m u1 a1) :
    Calls Tryz.prog 77 ⟨[u0, u1, vf 36 [] []]⟩ w (OPost (R_slices_EqualFunc_api_Pred g m F) r) := by
 refine calls_enter Tryz.func77 rfl rfl ?_
 obtain _ | k1 := k
 ·simp [slices_EqualFunc_api_Pred] at h
 rw [slices_EqualFunc_api_Pred] at h
 obtain ⟨A1, c2, rfl⟩ := hu0.shape
 obtain ⟨A3, c4, rfl⟩ := hu1.shape
 refine qr (s0 1 [(6, vb false)] (nl (tn (sq (qr (s0 5 [(10, vs A1 a0 c2), (11, vi ((a0).length : Int)), (12, vs A3 a1 c4), (13, vi ((a1).length : Int)), (14, vb (((a0).length : Int) != ((a1).length : Int)))] (nl (tn (cn h (fun h => ?_) (fun h => ?_))))))))))
 ·refine qr (s0 1 [(6, vb false)] (nl (tn (wp_ret (tr (wr [vb false] ?_))))))
  have h := Option.some.inj h; subst h
  exact ⟨_, rfl, m, rfl, (Mem.le.refl _), hst⟩
 refine wp_skip (tn (sq (qr (s0 3 [(15, vs A1 a0 c2), (16, vi ((a0).length : Int)), (17, vi 0)] (nl (tn (bk (wc_loop (fun kk a w => ∃ (f0 : Fr) (m80 : Mem) (x40 : Int), a = act Tryz.f77.ntmps (upds f0 [(1, vs A3 a1 c4), (2, vf 36 [] []), (6, vb false), (15, vs A1 a0 c2), (16, vi ((a0).length : Int)), (17, vi x40)]) ∧ kk ≤ k1 ∧ slices_EqualFunc_api_Pred_l1 kk a0 a1 x40 = some r ∧ m.le m80 ∧ St g m80 (F) w) k1 ?_ ?_))))))))
 ·exact ⟨_, m, (0), (act_upds ⟨by kernel_rfl, by kernel_rfl, by kernel_rfl, by kernel_rfl, by kernel_rfl, by kernel_rfl, trivial⟩), (Nat.le_refl _), h, (Mem.le.refl _), hst⟩
 rintro k78 ih79 _ _ ⟨f0, m80, x40, rfl, hk77, h, hl76, hst⟩
 obtain _ | k82 := k78
 ·simp [slices_EqualFunc_api_Pred_l1] at h
 rw [slices_EqualFunc_api_Pred_l1] at h
 refine qr (s0 1 [(18, vb (decide (x40 < ((a0).length : Int))))] (nl (tn (sq (cn h (fun h => ?_) (fun h => ?_))))))
 ·refine wp_skip (tn (sq (bk (qr (s0 1 [(19, vi x40)] ?_)))))
  obtain ⟨x84, hx85, h⟩ := ix h
  obtain ⟨b86, o87, cs88, hR89, hA90, hI91⟩ := RS.ix (P := Tryz.prog) (RS.mono hl76 hu0) hx85
  obtain ⟨v92, rfl, hv92⟩ := TGPred.open_ hR89
  obtain ⟨A93, c94, rfl⟩ := hv92.shape
  refine vl (hI91.r .i64) (sg 1 [(21, va (cGPred x84 (vs A93 x84.Args c94)))] [(ad b86 o87, vi x84.Op), (ad b86 (o87 + 1), vstr x84.Field), (ad b86 (o87 + 2), vstr x84.Key), (ad b86 (o87 + 3), vi x84.Value.Kind), (ad b86 (o87 + 4), vstr x84.Value.Text), (ad b86 (o87 + 5), vi x84.Value.Int), (ad b86 (o87 + 6), vs A93 x84.Args c94)] ⟨hst.e hA90 0, hst.e hA90 1, hst.e hA90 2, hst.e hA90 3, hst.e hA90 4, hst.e hA90 5, hst.e hA90 6, trivial⟩ (al [vi 0, vstr w_0, vstr w_0, vi 0, vstr w_0, vi 0, vn] hst (fun b95 _ hst => ?_)))
  have hrc97 := RC.nil (TGPred) m80
  have hst := hst.nil_row 44 7
  refine s0 1 [(7, vi x40)] (so1 0 (cGPred x84 (vs A93 x84.Args c94)) (cGPred x84 (vs A93 x84.Args c94)) hst (fun _ hst => ?_))
  refine nl (tn (qr (s0 2 [(22, vs A3 a1 c4), (23, vi x40)] ?_)))
  obtain ⟨x99, hx100, h⟩ := ix h
  obtain ⟨b101, o102, cs103, hR104, hA105, hI106⟩ := RS.ix (P := Tryz.prog) (RS.mono hl76 hu1) hx100
  obtain ⟨v107, rfl, hv107⟩ := TGPred.open_ hR104
  obtain ⟨A108, c109, rfl⟩ := hv107.shape
  refine vl (hI106.r .i64) (sg 1 [(25, va (cGPred x99 (vs A108 x99.Args c109)))] [(ad b101 o102, vi x99.Op), (ad b101 (o102 + 1), vstr x99.Field), (ad b101 (o102 + 2), vstr x99.Key), (ad b101 (o102 + 3), vi x99.Value.Kind), (ad b101 (o102 + 4), vstr x99.Value.Text), (ad b101 (o102 + 5), vi x99.Value.Int), (ad b101 (o102 + 6), vs A108 x99.Args c109)] ⟨hst.e hA105 0, hst.e hA105 1, hst.e hA105 2, hst.e hA105 3, hst.e hA105 4, hst.e hA105 5, hst.e hA105 6, trivial⟩ (al [vi 0, vstr w_0, vstr w_0, vi 0, vstr w_0, vi 0, vn] hst (fun b110 _ hst => ?_)))
  have hrc112 := RC.nil (TGPred) m80
  have hst := hst.nil_row 44 7
  refine so1 0 (cGPred x99 (vs A108 x99.Args c109)) (cGPred x99 (vs A108 x99.Args c109)) hst (fun _ hst => ?_)
  refine nl (tn (qr ?_))
  have hst := pk15 hst
  refine sg 3 [(26, vf 36 [] []), (27, va (cGPred x84 (vs A93 x84.Args c94))), (28, va (cGPred x99 (vs A108 x99.Args c109)))] [(ad b95 0, vi x84.Op), (ad b95 1, vstr x84.Field), (ad b95 2, vstr x84.Key), (ad b95 3, vi x84.Value.Kind), (ad b95 4, vstr x84.Value.Text), (ad b95 5, vi x84.Value.Int), (ad b95 6, vs A93 x84.Args c94), (ad b110 0, vi x99.Op), (ad b110 1, vstr x99.Field), (ad b110 2, vstr x99.Key), (ad b110 3, vi x99.Value.Kind), (ad b110 4, vstr x99.Value.Text), (ad b110 5, vi x99.Value.Int), (ad b110 6, vs A108 x99.Args c109)] ⟨hst.c 1, hst.c 1, hst.c 1, hst.c 1, hst.c 1, hst.c 1, hst.c 1, hst.c 0, hst.c 0, hst.c 0, hst.c 0, hst.c 0, hst.c 0, hst.c 0, trivial⟩ ?_
  obtain ⟨r113, hq114, h⟩ := bs h
  refine cal ((ih k82 (by omega)).c_syntax_EqualPred hq114 hst hv92 hv107) ?_
  rintro _ _ ⟨m115, rfl, hl116, hst⟩
  refine s0 1 [(30, vb (!r113))] (nl (tn (cn h (fun h => ?_) (fun h => ?_))))
  ·refine qr (s0 1 [(6, vb false)] (nl (tn (wp_ret (br (tr (tr (br (tr (wr [vb false] ?_))))))))))
   have hst := pk2 hst
   have e117 := hl76.trans hl116
   have h := Option.some.inj h; subst h
   exact ⟨_, rfl, m115, rfl, e117, hst⟩
  refine wp_skip (bn (tn (rg (s0 2 [(31, vi (w64 (x40 + 1))), (17, vi (w64 (x40 + 1)))] (nl (tn ?_))))))
  have e118 := hl76.trans hl116
  have hst := pk2 hst
  exact ih79 k82 (by omega) _ _ ⟨_, m115, (w64 (x40 + 1)), (act_upds ⟨by kernel_rfl, by kernel_rfl, by kernel_rfl, by kernel_rfl, by kernel_rfl, by kernel_rfl, trivial⟩), (by omega), h, e118, hst⟩
 refine wp_exit (tx (tx (bx (tn (qr (s0 1 [(6, vb true)] (nl (tn (wp_ret (wr [vb true] ?_))))))))))
 have h := Option.some.inj h; subst h
 exact ⟨_, rfl, m80, rfl, hl76, hst⟩
theorem i_syntax_EqualPred (k : Nat) : I_syntax_EqualPred k := by
  induction k using Nat.strongRecOn with
  | ind k ih => exact ⟨s_syntax_EqualPred ih, s_slices_EqualFunc_api_Pred ih⟩
theorem c_syntax_EqualPred {k : Nat} {a0 : GPred} {a1 : GPred} {r : Bool} {g : World} {m : Mem} {F : List Asr} {w : World} {u0 : Value} {u1 : Value} (h : syntax_EqualPred k a0 a1 = some r) (hst : St g m (F) w) (hu0 : RS (TGPred) m u0 a0.Args) (hu1 : RS (TGPred) m u1 a1.Args) :
    Calls Tryz.prog 36 ⟨[va (cGPred a0 u0), va (cGPred a1 u1)]⟩ w (OPost (R_syntax_EqualPred g m F) r) := (i_syntax_EqualPred k).c_syntax_EqualPred h hst hu0 hu1
theorem c_slices_EqualFunc_api_Pred {k : Nat} {a0 : List GPred} {a1 : List GPred} {r : Bool} {g : World} {m : Mem} {F : List Asr} {w : World} {u0 : Value} {u1 : Value} (h : slices_EqualFunc_api_Pred k a0 a1 = some r) (hst : St g m (F) w) (hu0 : RS (TGPred) m u0 a0) (hu1 : RS (TGPred) m u1 a1) :
    Calls Tryz.prog 77 ⟨[u0, u1, vf 36 [] []]⟩ w (OPost (R_slices_EqualFunc_api_Pred g m F) r) := (i_syntax_EqualPred k).c_slices_EqualFunc_api_Pred h hst hu0 hu1

end Go.Proofs.YtfnaahkgegfbnaaGreatDoor
