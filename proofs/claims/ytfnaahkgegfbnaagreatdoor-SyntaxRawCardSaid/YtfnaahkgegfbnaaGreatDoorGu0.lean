/- Contracts of Go functions. Written by a program of this session. -/
import Derived.Test.YtfnaahkgegfbnaaGreatDoorPK
import Derived.Test.YtfnaahkgegfbnaaGreatDoorShelf
import Derived.Test.YtfnaahkgegfbnaaGreatDoorDu
import Derived.Test.YtfnaahkgegfbnaaGreatDoorGa1
import Derived.Test.YtfnaahkgegfbnaaGreatDoorGa2
import Derived.Test.YtfnaahkgegfbnaaGreatDoorGd0
import Derived.Test.YtfnaahkgegfbnaaGreatDoorGe0
import Derived.Test.YtfnaahkgegfbnaaGreatDoorGh0
import Derived.Test.YtfnaahkgegfbnaaGreatDoorGn0
set_option linter.unusedVariables false
set_option linter.unusedSimpArgs false
set_option maxRecDepth 10000
namespace Go.Proofs.YtfnaahkgegfbnaaGreatDoor

def R_l36_SyntaxRaw (g : World) (m : Mem) (F : List Asr) (r : Bool) (v : Value) (w' : World) : Prop := ∃ (m' : Mem), v = vb r ∧ m.le m' ∧ St g m' (F) w'
theorem c_l36_SyntaxRaw {k : Nat} {a0 : GPred} {a1 : GPred} {r : Bool} {g : World} {m : Mem} {F : List Asr} {w : World} {u0 : Value} {u1 : Value} (h : l36_SyntaxRaw k a0 a1 = some r) (hst : St g m (F) w) (hu0 : RS (TGPred) m u0 a0.Args) (hu1 : RS (TGPred) m u1 a1.Args) (hG : Glob m) :
    Calls Tryz.prog 9 ⟨[va (cGPred a0 u0), va (cGPred a1 u1)]⟩ w (OPost (R_l36_SyntaxRaw g m F) r) := by
 refine calls_enter Tryz.func9 rfl rfl ?_
 unfold l36_SyntaxRaw at h
 obtain ⟨A1, c2, rfl⟩ := hu0.shape
 obtain ⟨A3, c4, rfl⟩ := hu1.shape
 refine qr (bo_ (cGPred a0 (vs A1 a0.Args c2)) hst (fun b5 _ hst => ?_))
 refine bo_ (cGPred a1 (vs A3 a1.Args c4)) hst (fun b6 _ hst => ?_)
 refine s0 1 [(4, vb false)] (nl (tn (sq (wc_join (fun a w => ∃ (f0 : Fr) (k53 : Nat) (m55 : Mem) (x51 : Bool), a = act Tryz.f9.ntmps (upds f0 [(2, vp b5 0), (3, vp b6 0), (4, vb false), (18, vb x51)]) ∧ k53 ≤ k ∧ l36_SyntaxRaw_j1 k53 a0 a1 x51 = some r ∧ m.le m55 ∧ St g m55 (oo b6 44 (cGPred a1 (vs A3 a1.Args c4)) :: oo b5 44 (cGPred a0 (vs A1 a0.Args c2)) :: F) w) ?_ ?_))))
 ·rintro _ _ ⟨f0, k53, m55, x51, rfl, hk54, h, hl52, hst⟩
  unfold l36_SyntaxRaw_j1 at h
  refine cn h (fun h => ?_) (fun h => ?_)
  ·refine qr ?_
   obtain ⟨r56, hq57, h⟩ := bs h
   refine cal (c_l36_known hq57 hst (Glob.mono hl52 hG)) ?_
   rintro _ _ ⟨m58, rfl, hl59, hst⟩
   refine s0 1 [(4, vb r56)] (nl (tn (wp_ret (tr (wr [vb r56] ?_)))))
   have hst := pk2 hst
   have e60 := hl52.trans hl59
   have h := Option.some.inj h; subst h
   exact ⟨_, rfl, m58, rfl, e60, hst⟩
  refine wp_skip (tn (qr (sg 1 [(21, va (cGPred a0 (vs A1 a0.Args c2)))] [(ad b5 0, vi a0.Op), (ad b5 1, vstr a0.Field), (ad b5 2, vstr a0.Key), (ad b5 3, vi a0.Value.Kind), (ad b5 4, vstr a0.Value.Text), (ad b5 5, vi a0.Value.Int), (ad b5 6, vs A1 a0.Args c2)] ⟨hst.c 1, hst.c 1, hst.c 1, hst.c 1, hst.c 1, hst.c 1, hst.c 1, trivial⟩ ?_)))
  obtain ⟨r61, hq62, h⟩ := bs h
  refine cal (c_syntax_PrintPred hq62 hst (RS.mono hl52 hu0) (Glob.mono hl52 hG)) ?_
  rintro _ _ ⟨m63, rfl, hl64, hst⟩
  refine s0 5 [(20, vt [vstr r61.1, vi r61.2]), (23, vstr r61.1), (24, vi r61.2), (5, vstr r61.1), (6, vi r61.2)] (nl (tn (sq (wc_join (fun a w => ∃ (f0 : Fr) (k183 : Nat) (m185 : Mem) (x181 : Bool), a = act Tryz.f9.ntmps (upds f0 [(2, vp b5 0), (4, vb false), (5, vstr r61.1), (6, vi r61.2), (49, vb x181)]) ∧ k183 ≤ k53 ∧ l36_SyntaxRaw_j2 k183 a0 r61 x181 = some r ∧ m63.le m185 ∧ St g m185 (oo b6 44 (cGPred a1 (vs A3 a1.Args c4)) :: oo b5 44 (cGPred a0 (vs A1 a0.Args c2)) :: F) w) ?_ ?_))))
  ·rintro _ _ ⟨f0, k183, m185, x181, rfl, hk184, h, hl182, hst⟩
   unfold l36_SyntaxRaw_j2 at h
   refine cn h (fun h => ?_) (fun h => ?_)
   ·refine qr (s0 1 [(4, vb false)] (nl (tn (wp_ret (tr (wr [vb false] ?_))))))
    have hst := pk2 hst
    have e186 := hl52.trans (hl64.trans hl182)
    have h := Option.some.inj h; subst h
    exact ⟨_, rfl, m185, rfl, e186, hst⟩
   refine wp_skip (tn (qr (s0 3 [(50, vi r61.2), (51, vb (r61.2 != 0)), (52, vb (r61.2 != 0))] ?_)))
   rcases sp h with ⟨hc187, h⟩ | ⟨hc187, h⟩
   ·rw [hc187]
    refine s0 1 [(53, vstr r61.1)] (vl (re r61.1 w_0) (s0 2 [(55, vb (r61.1 == w_0)), (56, vb (r61.1 == w_0))] ?_))
    rcases sp h with ⟨hc188, h⟩ | ⟨hc188, h⟩
    ·rw [hc188]
     refine s0 10 [(57, undef), (58, undef), (59, undef), (60, undef), (61, undef), (62, undef), (63, undef), (64, undef), (65, vb true), (4, vb true)] (nl (tn (wp_ret (wr [vb true] ?_))))
     have hst := pk2 hst
     have e189 := hl52.trans (hl64.trans hl182)
     have h := Option.some.inj h; subst h
     exact ⟨_, rfl, m185, rfl, e189, hst⟩
    rw [hc188]
    refine s0 3 [(57, vi r61.2), (58, vb (r61.2 == 0)), (59, vb (r61.2 == 0))] ?_
    rcases sp h with ⟨hc190, h⟩ | ⟨hc190, h⟩
    ·rw [hc190]
     refine sg 2 [(60, vstr r61.1), (61, va (cGPred a0 (vs A1 a0.Args c2)))] [(ad b5 0, vi a0.Op), (ad b5 1, vstr a0.Field), (ad b5 2, vstr a0.Key), (ad b5 3, vi a0.Value.Kind), (ad b5 4, vstr a0.Value.Text), (ad b5 5, vi a0.Value.Int), (ad b5 6, vs A1 a0.Args c2)] ⟨hst.c 1, hst.c 1, hst.c 1, hst.c 1, hst.c 1, hst.c 1, hst.c 1, trivial⟩ ?_
     have e191 := hl52.trans (hl64.trans hl182)
     obtain ⟨r192, hq193, h⟩ := bs h
     refine cal (c_l36_pred hq193 hst (RS.mono e191 hu0)) ?_
     rintro _ _ ⟨m194, rfl, hl195, hst⟩
     refine vl (re r61.1 r192) (s0 3 [(64, vb (r61.1 == r192)), (65, vb (r61.1 == r192)), (4, vb (r61.1 == r192))] (nl (tn (wp_ret (wr [vb (r61.1 == r192)] ?_)))))
     have hst := pk2 hst
     have e196 := e191.trans hl195
     cases h
     exact ⟨_, rfl, m194, rfl, e196, hst⟩
    rw [hc190]
    refine s0 7 [(60, undef), (61, undef), (62, undef), (63, undef), (64, vb false), (65, vb false), (4, vb false)] (nl (tn (wp_ret (wr [vb false] ?_))))
    have hst := pk2 hst
    have e197 := hl52.trans (hl64.trans hl182)
    have h := Option.some.inj h; subst h
    exact ⟨_, rfl, m185, rfl, e197, hst⟩
   rw [hc187]
   refine s0 7 [(53, undef), (54, undef), (55, vb false), (56, vb false), (57, vi r61.2), (58, vb (r61.2 == 0)), (59, vb (r61.2 == 0))] ?_
   rcases sp h with ⟨hc198, h⟩ | ⟨hc198, h⟩
   ·rw [hc198]
    refine sg 2 [(60, vstr r61.1), (61, va (cGPred a0 (vs A1 a0.Args c2)))] [(ad b5 0, vi a0.Op), (ad b5 1, vstr a0.Field), (ad b5 2, vstr a0.Key), (ad b5 3, vi a0.Value.Kind), (ad b5 4, vstr a0.Value.Text), (ad b5 5, vi a0.Value.Int), (ad b5 6, vs A1 a0.Args c2)] ⟨hst.c 1, hst.c 1, hst.c 1, hst.c 1, hst.c 1, hst.c 1, hst.c 1, trivial⟩ ?_
    have e199 := hl52.trans (hl64.trans hl182)
    obtain ⟨r200, hq201, h⟩ := bs h
    refine cal (c_l36_pred hq201 hst (RS.mono e199 hu0)) ?_
    rintro _ _ ⟨m202, rfl, hl203, hst⟩
    refine vl (re r61.1 r200) (s0 3 [(64, vb (r61.1 == r200)), (65, vb (r61.1 == r200)), (4, vb (r61.1 == r200))] (nl (tn (wp_ret (wr [vb (r61.1 == r200)] ?_)))))
    have hst := pk2 hst
    have e204 := e199.trans hl203
    cases h
    exact ⟨_, rfl, m202, rfl, e204, hst⟩
   rw [hc198]
   refine s0 7 [(60, undef), (61, undef), (62, undef), (63, undef), (64, vb false), (65, vb false), (4, vb false)] (nl (tn (wp_ret (wr [vb false] ?_))))
   have hst := pk2 hst
   have e205 := hl52.trans (hl64.trans hl182)
   have h := Option.some.inj h; subst h
   exact ⟨_, rfl, m185, rfl, e205, hst⟩
  refine wc_draw false (fun x => Rd m63 (oo b5 44 (cGPred a0 (vs A1 a0.Args c2)) :: oo b6 44 (cGPred a1 (vs A3 a1.Args c4)) :: []) x) (by kernel_rfl) ?_
  have hst := hst.drew
  refine wpG_seg [0, 1] [(25, vi r61.2), (26, va (cGPred a0 (vs A1 a0.Args c2)))] [(ad b5 0, vi a0.Op), (ad b5 1, vstr a0.Field), (ad b5 2, vstr a0.Key), (ad b5 3, vi a0.Value.Kind), (ad b5 4, vstr a0.Value.Text), (ad b5 5, vi a0.Value.Int), (ad b5 6, vs A1 a0.Args c2)] #[true, true, false, false, false, false, false, false, false, false, false, false, false, false, false, false, false, false, false, false, false, false, false, false, false] (fuel := 23) (PQ.then_ (PQ.then_ PQ.body)) (by kernel_rfl) (by kernel_rfl) (hst.rd.with_ 1 rfl (hst.rd.with_ 0 rfl (hst.rd.none_))) (fun x hx => ⟨hx.c 0, hx.c 0, hx.c 0, hx.c 0, hx.c 0, hx.c 0, hx.c 0, trivial⟩) ?_
  refine wpG_exec 2 (by kernel_rfl) rfl ?_
  have e235 := hl52.trans hl64
  obtain ⟨r236, hq237, h⟩ := bs h
  refine cal (c_l36_checkPred hq237 hst (RS.mono e235 hu0)) ?_
  rintro _ _ ⟨m238, rfl, hl239, hst⟩
  refine nl (tn (⟨_, fun _ h => h, .inr (Rd.lower hl239 (hst.rd.with_ 1 rfl (hst.rd.with_ 0 rfl (hst.rd.none_)))), ?_⟩))
  refine wpG_strong (S2 := fun x => Rd m238 (oo b5 44 (cGPred a0 (vs A1 a0.Args c2)) :: oo b6 44 (cGPred a1 (vs A3 a1.Args c4)) :: []) x) (fun x hx => Rd.lower hl239 hx) ?_
  refine wpG_seg [3, 4] [(28, vb (r61.2 != r236)), (29, vb (r61.2 != r236))] [] #[true, true, true, true, true, false, false, false, false, false, false, false, false, false, false, false, false, false, false, false, false, false, false, false, false] (fuel := 20) (PQ.then_ (PQ.then_ PQ.body)) (by kernel_rfl) (by kernel_rfl) (hst.rd.with_ 1 rfl (hst.rd.with_ 0 rfl (hst.rd.none_))) (fun x hx => trivial) ?_
  rcases sp h with ⟨hc240, h⟩ | ⟨hc240, h⟩
  ·rw [hc240]
   refine wpG_seg [5, 7, 6, 8, 9, 10, 11, 12, 14, 15, 13, 16, 17, 18, 19, 20, 21, 22, 23] [(30, undef), (32, undef), (31, undef), (33, undef), (34, vb true), (35, vb true), (36, undef), (37, undef), (39, undef), (40, undef), (38, undef), (41, undef), (42, undef), (43, vb true), (44, vb true), (45, undef), (46, undef), (47, undef), (48, undef)] [] #[true, true, true, true, true, true, true, true, true, true, true, true, true, true, true, true, true, true, true, true, true, true, true, true, false] (fuel := 1) (PQ.then_ (PQ.then_ PQ.body)) (by kernel_rfl) (by kernel_rfl) (hst.rd.with_ 1 rfl (hst.rd.with_ 0 rfl (hst.rd.none_))) (fun x hx => trivial) ?_
   refine wpG_exec 24 (by kernel_rfl) rfl (sg 1 [(49, vb true)] [] trivial (nl (tn (⟨_, fun _ h => h, .inl ⟨rfl, allListed_of _ (by kernel_rfl)⟩, ?_⟩))))
   refine wpG_done (by kernel_rfl) (tn ?_)
   exact ⟨_, k53, m238, (true), (act_upds ⟨by kernel_rfl, by kernel_rfl, by kernel_rfl, by kernel_rfl, by kernel_rfl, trivial⟩), (by omega), h, hl239, hst⟩
  rw [hc240]
  refine wpG_seg [5, 7] [(30, va (cGPred a0 (vs A1 a0.Args c2))), (32, vi r61.2)] [(ad b5 0, vi a0.Op), (ad b5 1, vstr a0.Field), (ad b5 2, vstr a0.Key), (ad b5 3, vi a0.Value.Kind), (ad b5 4, vstr a0.Value.Text), (ad b5 5, vi a0.Value.Int), (ad b5 6, vs A1 a0.Args c2)] #[true, true, true, true, true, true, false, true, false, false, false, false, false, false, false, false, false, false, false, false, false, false, false, false, false] (fuel := 18) (PQ.then_ (PQ.then_ PQ.body)) (by kernel_rfl) (by kernel_rfl) (hst.rd.with_ 1 rfl (hst.rd.with_ 0 rfl (hst.rd.none_))) (fun x hx => ⟨hx.c 0, hx.c 0, hx.c 0, hx.c 0, hx.c 0, hx.c 0, hx.c 0, trivial⟩) ?_
  refine wpG_exec 6 (by kernel_rfl) rfl ?_
  have e241 := e235.trans hl239
  obtain ⟨r242, hq243, h⟩ := bs h
  refine cal (c_syntax_CheckPred hq243 hst (RS.mono e241 hu0)) ?_
  rintro _ _ ⟨m244, rfl, hl245, hst⟩
  refine nl (tn (⟨_, fun _ h => h, .inr (Rd.lower hl245 (hst.rd.with_ 1 rfl (hst.rd.with_ 0 rfl (hst.rd.none_)))), ?_⟩))
  refine wpG_strong (S2 := fun x => Rd m244 (oo b5 44 (cGPred a0 (vs A1 a0.Args c2)) :: oo b6 44 (cGPred a1 (vs A3 a1.Args c4)) :: []) x) (fun x hx => Rd.lower hl245 hx) ?_
  refine wpG_seg [8, 9, 10] [(33, vb (r242 != r61.2)), (34, vb (r242 != r61.2)), (35, vb (r242 != r61.2))] [] #[true, true, true, true, true, true, true, true, true, true, true, false, false, false, false, false, false, false, false, false, false, false, false, false, false] (fuel := 14) (PQ.then_ (PQ.then_ PQ.body)) (by kernel_rfl) (by kernel_rfl) (hst.rd.with_ 1 rfl (hst.rd.with_ 0 rfl (hst.rd.none_))) (fun x hx => trivial) ?_
  rcases sp h with ⟨hc246, h⟩ | ⟨hc246, h⟩
  ·rw [hc246]
   refine wpG_seg [11, 12, 14, 15, 13, 16, 17, 18, 19, 20, 21, 22, 23] [(36, undef), (37, undef), (39, undef), (40, undef), (38, undef), (41, undef), (42, undef), (43, vb true), (44, vb true), (45, undef), (46, undef), (47, undef), (48, undef)] [] #[true, true, true, true, true, true, true, true, true, true, true, true, true, true, true, true, true, true, true, true, true, true, true, true, false] (fuel := 1) (PQ.then_ (PQ.then_ PQ.body)) (by kernel_rfl) (by kernel_rfl) (hst.rd.with_ 1 rfl (hst.rd.with_ 0 rfl (hst.rd.none_))) (fun x hx => trivial) ?_
   refine wpG_exec 24 (by kernel_rfl) rfl (sg 1 [(49, vb true)] [] trivial (nl (tn (⟨_, fun _ h => h, .inl ⟨rfl, allListed_of _ (by kernel_rfl)⟩, ?_⟩))))
   refine wpG_done (by kernel_rfl) (tn ?_)
   have e247 := hl239.trans hl245
   exact ⟨_, k53, m244, (true), (act_upds ⟨by kernel_rfl, by kernel_rfl, by kernel_rfl, by kernel_rfl, by kernel_rfl, trivial⟩), (by omega), h, e247, hst⟩
  rw [hc246]
  refine wpG_seg [11, 12, 14, 15] [(36, va (cGPred a0 (vs A1 a0.Args c2))), (37, va (cGPred a1 (vs A3 a1.Args c4))), (39, va (cGPred a0 (vs A1 a0.Args c2))), (40, va (cGPred a1 (vs A3 a1.Args c4)))] [(ad b5 0, vi a0.Op), (ad b5 1, vstr a0.Field), (ad b5 2, vstr a0.Key), (ad b5 3, vi a0.Value.Kind), (ad b5 4, vstr a0.Value.Text), (ad b5 5, vi a0.Value.Int), (ad b5 6, vs A1 a0.Args c2), (ad b6 0, vi a1.Op), (ad b6 1, vstr a1.Field), (ad b6 2, vstr a1.Key), (ad b6 3, vi a1.Value.Kind), (ad b6 4, vstr a1.Value.Text), (ad b6 5, vi a1.Value.Int), (ad b6 6, vs A3 a1.Args c4), (ad b5 0, vi a0.Op), (ad b5 1, vstr a0.Field), (ad b5 2, vstr a0.Key), (ad b5 3, vi a0.Value.Kind), (ad b5 4, vstr a0.Value.Text), (ad b5 5, vi a0.Value.Int), (ad b5 6, vs A1 a0.Args c2), (ad b6 0, vi a1.Op), (ad b6 1, vstr a1.Field), (ad b6 2, vstr a1.Key), (ad b6 3, vi a1.Value.Kind), (ad b6 4, vstr a1.Value.Text), (ad b6 5, vi a1.Value.Int), (ad b6 6, vs A3 a1.Args c4)] #[true, true, true, true, true, true, true, true, true, true, true, true, true, false, true, true, false, false, false, false, false, false, false, false, false] (fuel := 10) (PQ.then_ (PQ.then_ PQ.body)) (by kernel_rfl) (by kernel_rfl) (hst.rd.with_ 1 rfl (hst.rd.with_ 0 rfl (hst.rd.none_))) (fun x hx => ⟨hx.c 0, hx.c 0, hx.c 0, hx.c 0, hx.c 0, hx.c 0, hx.c 0, hx.c 1, hx.c 1, hx.c 1, hx.c 1, hx.c 1, hx.c 1, hx.c 1, hx.c 0, hx.c 0, hx.c 0, hx.c 0, hx.c 0, hx.c 0, hx.c 0, hx.c 1, hx.c 1, hx.c 1, hx.c 1, hx.c 1, hx.c 1, hx.c 1, trivial⟩) ?_
  refine wpG_exec 13 (by kernel_rfl) rfl ?_
  have e248 := e241.trans hl245
  obtain ⟨r249, hq250, h⟩ := bs h
  refine cal (c_syntax_EqualPred hq250 hst (RS.mono e248 hu0) (RS.mono e248 hu1)) ?_
  rintro _ _ ⟨m251, rfl, hl252, hst⟩
  refine nl (tn (⟨_, fun _ h => h, .inr (Rd.lower hl252 (hst.rd.with_ 1 rfl (hst.rd.with_ 0 rfl (hst.rd.none_)))), ?_⟩))
  refine wpG_exec 16 (by kernel_rfl) rfl ?_
  have e253 := e248.trans hl252
  obtain ⟨r254, hq255, h⟩ := bs h
  refine cal (c_l36_samePred hq255 hst (RS.mono e253 hu0) (RS.mono e253 hu1)) ?_
  rintro _ _ ⟨m256, rfl, hl257, hst⟩
  refine nl (tn ?_)
  have e258 := hl252.trans hl257
  refine ⟨_, fun _ h => h, .inr (Rd.lower e258 (hst.rd.with_ 1 rfl (hst.rd.with_ 0 rfl (hst.rd.none_)))), ?_⟩
  refine wpG_strong (S2 := fun x => Rd m256 (oo b5 44 (cGPred a0 (vs A1 a0.Args c2)) :: oo b6 44 (cGPred a1 (vs A3 a1.Args c4)) :: []) x) (fun x hx => Rd.lower e258 hx) ?_
  refine wpG_seg [17, 18, 19] [(42, vb (!(r249 == r254))), (43, vb (!(r249 == r254))), (44, vb (!(r249 == r254)))] [] #[true, true, true, true, true, true, true, true, true, true, true, true, true, true, true, true, true, true, true, true, false, false, false, false, false] (fuel := 5) (PQ.then_ (PQ.then_ PQ.body)) (by kernel_rfl) (by kernel_rfl) (hst.rd.with_ 1 rfl (hst.rd.with_ 0 rfl (hst.rd.none_))) (fun x hx => trivial) ?_
  rcases sp h with ⟨hc259, h⟩ | ⟨hc259, h⟩
  ·rw [hc259]
   refine wpG_seg [20, 21, 22, 23] [(45, undef), (46, undef), (47, undef), (48, undef)] [] #[true, true, true, true, true, true, true, true, true, true, true, true, true, true, true, true, true, true, true, true, true, true, true, true, false] (fuel := 1) (PQ.then_ (PQ.then_ PQ.body)) (by kernel_rfl) (by kernel_rfl) (hst.rd.with_ 1 rfl (hst.rd.with_ 0 rfl (hst.rd.none_))) (fun x hx => trivial) ?_
   refine wpG_exec 24 (by kernel_rfl) rfl (sg 1 [(49, vb true)] [] trivial (nl (tn (⟨_, fun _ h => h, .inl ⟨rfl, allListed_of _ (by kernel_rfl)⟩, ?_⟩))))
   refine wpG_done (by kernel_rfl) (tn ?_)
   have e260 := hl239.trans (hl245.trans (hl252.trans hl257))
   exact ⟨_, k53, m256, (true), (act_upds ⟨by kernel_rfl, by kernel_rfl, by kernel_rfl, by kernel_rfl, by kernel_rfl, trivial⟩), (by omega), h, e260, hst⟩
  rw [hc259]
  refine wpG_seg [20, 21] [(45, va (cGPred a0 (vs A1 a0.Args c2))), (46, va (cGPred a0 (vs A1 a0.Args c2)))] [(ad b5 0, vi a0.Op), (ad b5 1, vstr a0.Field), (ad b5 2, vstr a0.Key), (ad b5 3, vi a0.Value.Kind), (ad b5 4, vstr a0.Value.Text), (ad b5 5, vi a0.Value.Int), (ad b5 6, vs A1 a0.Args c2), (ad b5 0, vi a0.Op), (ad b5 1, vstr a0.Field), (ad b5 2, vstr a0.Key), (ad b5 3, vi a0.Value.Kind), (ad b5 4, vstr a0.Value.Text), (ad b5 5, vi a0.Value.Int), (ad b5 6, vs A1 a0.Args c2)] #[true, true, true, true, true, true, true, true, true, true, true, true, true, true, true, true, true, true, true, true, true, true, false, false, false] (fuel := 3) (PQ.then_ (PQ.then_ PQ.body)) (by kernel_rfl) (by kernel_rfl) (hst.rd.with_ 1 rfl (hst.rd.with_ 0 rfl (hst.rd.none_))) (fun x hx => ⟨hx.c 0, hx.c 0, hx.c 0, hx.c 0, hx.c 0, hx.c 0, hx.c 0, hx.c 0, hx.c 0, hx.c 0, hx.c 0, hx.c 0, hx.c 0, hx.c 0, trivial⟩) ?_
  refine wpG_exec 22 (by kernel_rfl) rfl ?_
  have e261 := e253.trans hl257
  obtain ⟨r262, hq263, h⟩ := bs h
  refine cal (c_syntax_EqualPred hq263 hst (RS.mono e261 hu0) (RS.mono e261 hu0)) ?_
  rintro _ _ ⟨m264, rfl, hl265, hst⟩
  refine nl (tn (⟨_, fun _ h => h, .inr (Rd.lower hl265 (hst.rd.with_ 1 rfl (hst.rd.with_ 0 rfl (hst.rd.none_)))), ?_⟩))
  refine wpG_strong (S2 := fun x => Rd m264 (oo b5 44 (cGPred a0 (vs A1 a0.Args c2)) :: oo b6 44 (cGPred a1 (vs A3 a1.Args c4)) :: []) x) (fun x hx => Rd.lower hl265 hx) ?_
  refine wpG_seg [23] [(48, vb (!r262))] [] #[true, true, true, true, true, true, true, true, true, true, true, true, true, true, true, true, true, true, true, true, true, true, true, true, false] (fuel := 1) (PQ.then_ (PQ.then_ PQ.body)) (by kernel_rfl) (by kernel_rfl) (hst.rd.with_ 1 rfl (hst.rd.with_ 0 rfl (hst.rd.none_))) (fun x hx => trivial) ?_
  refine wpG_exec 24 (by kernel_rfl) rfl (sg 1 [(49, vb (!r262))] [] trivial (nl (tn (⟨_, fun _ h => h, .inl ⟨rfl, allListed_of _ (by kernel_rfl)⟩, ?_⟩))))
  refine wpG_done (by kernel_rfl) (tn ?_)
  have e266 := hl239.trans (hl245.trans (hl252.trans (hl257.trans hl265)))
  exact ⟨_, k53, m264, (!r262), (act_upds ⟨by kernel_rfl, by kernel_rfl, by kernel_rfl, by kernel_rfl, by kernel_rfl, trivial⟩), (by omega), h, e266, hst⟩
 refine rg ?_
 obtain ⟨r267, hq268, h⟩ := bs h
 refine cal (c_l36_known hq268 hst hG) ?_
 rintro _ _ ⟨m269, rfl, hl270, hst⟩
 refine s0 2 [(8, vb (!r267)), (9, vb (!r267))] ?_
 rcases sp h with ⟨hc271, h⟩ | ⟨hc271, h⟩
 ·rw [hc271]
  refine s0 9 [(10, undef), (11, undef), (12, undef), (13, vb true), (14, vb true), (15, undef), (16, undef), (17, undef), (18, vb true)] (nl (tn ?_))
  exact ⟨_, k, m269, (true), (act_upds ⟨by kernel_rfl, by kernel_rfl, by kernel_rfl, by kernel_rfl, trivial⟩), (by omega), h, hl270, hst⟩
 rw [hc271]
 refine sg 1 [(10, va (cGPred a0 (vs A1 a0.Args c2)))] [(ad b5 0, vi a0.Op), (ad b5 1, vstr a0.Field), (ad b5 2, vstr a0.Key), (ad b5 3, vi a0.Value.Kind), (ad b5 4, vstr a0.Value.Text), (ad b5 5, vi a0.Value.Int), (ad b5 6, vs A1 a0.Args c2)] ⟨hst.c 1, hst.c 1, hst.c 1, hst.c 1, hst.c 1, hst.c 1, hst.c 1, trivial⟩ ?_
 obtain ⟨r272, hq273, h⟩ := bs h
 refine cal (c_l36_smallPred hq273 hst (RS.mono hl270 hu0)) ?_
 rintro _ _ ⟨m274, rfl, hl275, hst⟩
 refine s0 3 [(12, vb (!r272)), (13, vb (!r272)), (14, vb (!r272))] ?_
 rcases sp h with ⟨hc276, h⟩ | ⟨hc276, h⟩
 ·rw [hc276]
  refine s0 4 [(15, undef), (16, undef), (17, undef), (18, vb true)] (nl (tn ?_))
  have e277 := hl270.trans hl275
  exact ⟨_, k, m274, (true), (act_upds ⟨by kernel_rfl, by kernel_rfl, by kernel_rfl, by kernel_rfl, trivial⟩), (by omega), h, e277, hst⟩
 rw [hc276]
 refine sg 1 [(15, va (cGPred a1 (vs A3 a1.Args c4)))] [(ad b6 0, vi a1.Op), (ad b6 1, vstr a1.Field), (ad b6 2, vstr a1.Key), (ad b6 3, vi a1.Value.Kind), (ad b6 4, vstr a1.Value.Text), (ad b6 5, vi a1.Value.Int), (ad b6 6, vs A3 a1.Args c4)] ⟨hst.c 0, hst.c 0, hst.c 0, hst.c 0, hst.c 0, hst.c 0, hst.c 0, trivial⟩ ?_
 have e278 := hl270.trans hl275
 obtain ⟨r279, hq280, h⟩ := bs h
 refine cal (c_l36_smallPred hq280 hst (RS.mono e278 hu1)) ?_
 rintro _ _ ⟨m281, rfl, hl282, hst⟩
 refine s0 2 [(17, vb (!r279)), (18, vb (!r279))] (nl (tn ?_))
 have e283 := e278.trans hl282
 exact ⟨_, k, m281, (!r279), (act_upds ⟨by kernel_rfl, by kernel_rfl, by kernel_rfl, by kernel_rfl, trivial⟩), (by omega), h, e283, hst⟩

end Go.Proofs.YtfnaahkgegfbnaaGreatDoor
