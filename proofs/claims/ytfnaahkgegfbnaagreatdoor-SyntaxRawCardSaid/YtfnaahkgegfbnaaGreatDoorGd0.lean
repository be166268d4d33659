/- Contracts of Go functions. Written by a program of this session. -/
import Derived.Test.YtfnaahkgegfbnaaGreatDoorPK
import Derived.Test.YtfnaahkgegfbnaaGreatDoorShelf
import Derived.Test.YtfnaahkgegfbnaaGreatDoorDd
set_option linter.unusedVariables false
set_option linter.unusedSimpArgs false
set_option maxRecDepth 10000
namespace Go.Proofs.YtfnaahkgegfbnaaGreatDoor

def R_l36_samePred (g : World) (m : Mem) (F : List Asr) (r : Bool) (v : Value) (w' : World) : Prop := ∃ (m' : Mem), v = vb r ∧ m.le m' ∧ St g m' (F) w'
structure I_l36_samePred (k : Nat) : Prop where
  c_l36_samePred : ∀ {a0 : GPred} {a1 : GPred} {r : Bool} {g : World} {m : Mem} {F : List Asr} {w : World} {u0 : Value} {u1 : Value} (h : l36_samePred k a0 a1 = some r) (hst : St g m (F) w) (hu0 : RS (TGPred) m u0 a0.Args) (hu1 : RS (TGPred) m u1 a1.Args),
    Calls Tryz.prog 24 ⟨[va (cGPred a0 u0), va (cGPred a1 u1)]⟩ w (OPost (R_l36_samePred g m F) r)
theorem s_l36_samePred {k : Nat} (ih : ∀ j, j < k → I_l36_samePred j) {a0 : GPred} {a1 : GPred} {r : Bool} {g : World} {m : Mem} {F : List Asr} {w : World} {u0 : Value} {u1 : Value} (h : l36_samePred k a0 a1 = some r) (hst : St g m (F) w) (hu0 : RS (TGPred) m u0 a0.Args) (hu1 : RS (TGPred) m u1 a1.Args) :
    Calls Tryz.prog 24 ⟨[va (cGPred a0 u0), va (cGPred a1 u1)]⟩ w (OPost (R_l36_samePred g m F) r) := by
 refine calls_enter Tryz.func24 rfl rfl ?_
 obtain _ | k1 := k
 ·simp [l36_samePred] at h
 rw [l36_samePred] at h
 obtain ⟨A1, c2, rfl⟩ := hu0.shape
 obtain ⟨A3, c4, rfl⟩ := hu1.shape
 refine qr (bo_ (cGPred a0 (vs A1 a0.Args c2)) hst (fun b5 _ hst => ?_))
 refine bo_ (cGPred a1 (vs A3 a1.Args c4)) hst (fun b6 _ hst => ?_)
 refine s0 1 [(4, vb false)] (nl (tn (sq (wc_join (fun a w => ∃ (f0 : Fr) (k17 : Nat) (m19 : Mem) (x15 : Bool), a = act Tryz.f24.ntmps (upds f0 [(2, vp b5 0), (3, vp b6 0), (4, vb false), (40, vb x15)]) ∧ k17 ≤ k1 ∧ l36_samePred_j1 k17 a0 a1 x15 = some r ∧ m.le m19 ∧ St g m19 (oo b6 44 (cGPred a1 (vs A3 a1.Args c4)) :: oo b5 44 (cGPred a0 (vs A1 a0.Args c2)) :: F) w) ?_ ?_))))
 ·rintro _ _ ⟨f0, k17, m19, x15, rfl, hk18, h, hl16, hst⟩
  obtain _ | k20 := k17
  ·simp [l36_samePred_j1] at h
  rw [l36_samePred_j1] at h
  refine cn h (fun h => ?_) (fun h => ?_)
  ·refine qr (s0 1 [(4, vb false)] (nl (tn (wp_ret (tr (wr [vb false] ?_))))))
   have hst := pk2 hst
   have h := Option.some.inj h; subst h
   exact ⟨_, rfl, m19, rfl, hl16, hst⟩
  refine wp_skip (tn (sq (qr (s0 1 [(5, vi 0)] (nl (tn (bk (wc_loop (fun kk a w => ∃ (f0 : Fr) (m140 : Mem) (x78 : Int), a = act Tryz.f24.ntmps (upds f0 [(2, vp b5 0), (3, vp b6 0), (4, vb false), (5, vi x78)]) ∧ kk ≤ k20 ∧ l36_samePred_l2 kk a0 a1 x78 = some r ∧ m19.le m140 ∧ St g m140 (oo b6 44 (cGPred a1 (vs A3 a1.Args c4)) :: oo b5 44 (cGPred a0 (vs A1 a0.Args c2)) :: F) w) k20 ?_ ?_))))))))
  ·exact ⟨_, m19, (0), (act_upds ⟨by kernel_rfl, by kernel_rfl, by kernel_rfl, by kernel_rfl, trivial⟩), (Nat.le_refl _), h, (Mem.le.refl _), hst⟩
  rintro k138 ih139 _ _ ⟨f0, m140, x78, rfl, hk137, h, hl136, hst⟩
  obtain _ | k142 := k138
  ·simp [l36_samePred_l2] at h
  rw [l36_samePred_l2] at h
  refine sq (qr (sg 5 [(41, vi x78), (42, vp b5 6), (43, vs A1 a0.Args c2), (44, vi ((a0.Args).length : Int)), (45, vb (decide (x78 < ((a0.Args).length : Int))))] [(ad b5 6, vs A1 a0.Args c2)] ⟨hst.c 1, trivial⟩ (nl (tn (cn h (fun h => ?_) (fun h => ?_))))))
  ·refine wp_skip (tn (sq (bk (sq (wc_draw false (fun x => Rd m140 (oo b5 44 (cGPred a0 (vs A1 a0.Args c2)) :: oo b6 44 (cGPred a1 (vs A3 a1.Args c4)) :: []) x) (by kernel_rfl) ?_)))))
   have hst := hst.drew
   refine wpG_seg [0, 2, 5, 7, 1, 6] [(48, vp b5 6), (50, vi x78), (53, vp b6 6), (55, vi x78), (49, vs A1 a0.Args c2), (54, vs A3 a1.Args c4)] [(ad b5 6, vs A1 a0.Args c2), (ad b6 6, vs A3 a1.Args c4)] #[true, true, true, false, false, true, true, true, false, false, false, false] (fuel := 6) (PQ.then_ (PQ.block_ (PQ.then_ (PQ.then_ (PQ.block_ (PQ.then_ PQ.body)))))) (by kernel_rfl) (by kernel_rfl) (hst.rd.with_ 1 rfl (hst.rd.with_ 0 rfl (hst.rd.none_))) (fun x hx => ⟨hx.c 0, hx.c 1, trivial⟩) ?_
   obtain ⟨x173, hx174, h⟩ := ix h
   have e181 := hl16.trans hl136
   obtain ⟨b175, o176, cs177, hR178, hA179, hI180⟩ := RS.ix (P := Tryz.prog) (RS.mono e181 hu0) hx174
   obtain ⟨v182, rfl, hv182⟩ := TGPred.open_ hR178
   obtain ⟨A183, c184, rfl⟩ := hv182.shape
   refine wpG_take_val (PQ.then_ (PQ.block_ (PQ.then_ (PQ.then_ (PQ.block_ (PQ.then_ PQ.body)))))) (i := 3) rfl (by kernel_rfl) (by kernel_rfl) (hst.rd.with_ 1 rfl (hst.rd.with_ 0 rfl (hst.rd.none_))) (fun x hx => hI180.r .i64) ?_
   refine wpG_seg [4] [(52, va (cGPred x173 (vs A183 x173.Args c184)))] [(ad b175 o176, vi x173.Op), (ad b175 (o176 + 1), vstr x173.Field), (ad b175 (o176 + 2), vstr x173.Key), (ad b175 (o176 + 3), vi x173.Value.Kind), (ad b175 (o176 + 4), vstr x173.Value.Text), (ad b175 (o176 + 5), vi x173.Value.Int), (ad b175 (o176 + 6), vs A183 x173.Args c184)] #[true, true, true, true, true, true, true, true, false, false, false, false] (fuel := 4) (PQ.then_ (PQ.block_ (PQ.then_ (PQ.then_ (PQ.block_ (PQ.then_ PQ.body)))))) (by kernel_rfl) (by kernel_rfl) (hst.rd.with_ 1 rfl (hst.rd.with_ 0 rfl (hst.rd.none_))) (fun x hx => ⟨hx.e hA179 0, hx.e hA179 1, hx.e hA179 2, hx.e hA179 3, hx.e hA179 4, hx.e hA179 5, hx.e hA179 6, trivial⟩) ?_
   obtain ⟨x186, hx187, h⟩ := ix h
   obtain ⟨b188, o189, cs190, hR191, hA192, hI193⟩ := RS.ix (P := Tryz.prog) (RS.mono e181 hu1) hx187
   obtain ⟨v194, rfl, hv194⟩ := TGPred.open_ hR191
   obtain ⟨A195, c196, rfl⟩ := hv194.shape
   refine wpG_take_val (PQ.then_ (PQ.block_ (PQ.then_ (PQ.then_ (PQ.block_ (PQ.then_ PQ.body)))))) (i := 8) rfl (by kernel_rfl) (by kernel_rfl) (hst.rd.with_ 1 rfl (hst.rd.with_ 0 rfl (hst.rd.none_))) (fun x hx => hI193.r .i64) ?_
   refine wpG_seg [9] [(57, va (cGPred x186 (vs A195 x186.Args c196)))] [(ad b188 o189, vi x186.Op), (ad b188 (o189 + 1), vstr x186.Field), (ad b188 (o189 + 2), vstr x186.Key), (ad b188 (o189 + 3), vi x186.Value.Kind), (ad b188 (o189 + 4), vstr x186.Value.Text), (ad b188 (o189 + 5), vi x186.Value.Int), (ad b188 (o189 + 6), vs A195 x186.Args c196)] #[true, true, true, true, true, true, true, true, true, true, false, false] (fuel := 2) (PQ.then_ (PQ.block_ (PQ.then_ (PQ.then_ (PQ.block_ (PQ.then_ PQ.body)))))) (by kernel_rfl) (by kernel_rfl) (hst.rd.with_ 1 rfl (hst.rd.with_ 0 rfl (hst.rd.none_))) (fun x hx => ⟨hx.e hA192 0, hx.e hA192 1, hx.e hA192 2, hx.e hA192 3, hx.e hA192 4, hx.e hA192 5, hx.e hA192 6, trivial⟩) ?_
   refine wpG_exec 10 (by kernel_rfl) rfl ?_
   obtain ⟨r197, hq198, h⟩ := bs h
   refine cal ((ih k142 (by omega)).c_l36_samePred hq198 hst hv182 hv194) ?_
   rintro _ _ ⟨m199, rfl, hl200, hst⟩
   refine nl (tn (⟨_, fun _ h => h, .inr (Rd.lower hl200 (hst.rd.with_ 1 rfl (hst.rd.with_ 0 rfl (hst.rd.none_)))), ?_⟩))
   refine wpG_exec 11 (by kernel_rfl) rfl (sg 1 [(59, vb (!r197))] [] trivial (nl (tn (⟨_, fun _ h => h, .inl ⟨rfl, allListed_of _ (by kernel_rfl)⟩, ?_⟩))))
   refine wpG_done (by kernel_rfl) (tn (cn h (fun h => ?_) (fun h => ?_)))
   ·refine qr (s0 1 [(4, vb false)] (nl (tn (wp_ret (br (tr (tr (br (tr (wr [vb false] ?_))))))))))
    have hst := pk2 hst
    have e201 := e181.trans hl200
    have h := Option.some.inj h; subst h
    exact ⟨_, rfl, m199, rfl, e201, hst⟩
   refine wp_skip (bn (tn (rg (s0 3 [(46, vi x78), (47, vi (w64 (x78 + 1))), (5, vi (w64 (x78 + 1)))] (nl (tn ?_))))))
   have e202 := hl136.trans hl200
   exact ih139 k142 (by omega) _ _ ⟨_, m199, (w64 (x78 + 1)), (act_upds ⟨by kernel_rfl, by kernel_rfl, by kernel_rfl, by kernel_rfl, trivial⟩), (by omega), h, e202, hst⟩
  refine wp_exit (tx (tx (bx (tn (qr ?_)))))
  have hst := pk2 hst
  refine s0 1 [(4, vb true)] (nl (tn (wp_ret (wr [vb true] ?_))))
  have e203 := hl16.trans hl136
  have h := Option.some.inj h; subst h
  exact ⟨_, rfl, m140, rfl, e203, hst⟩
 refine rg (sg 6 [(6, vp b5 0), (7, vi a0.Op), (8, vp b6 0), (9, vi a1.Op), (10, vb (a0.Op != a1.Op)), (11, vb (a0.Op != a1.Op))] [(ad b5 0, vi a0.Op), (ad b6 0, vi a1.Op)] ⟨hst.c 1, hst.c 0, trivial⟩ ?_)
 rcases sp h with ⟨hc204, h⟩ | ⟨hc204, h⟩
 ·rw [hc204]
  refine s0 29 [(12, undef), (13, undef), (14, undef), (15, undef), (16, undef), (17, vb true), (18, vb true), (19, undef), (20, undef), (21, undef), (22, undef), (23, undef), (24, vb true), (25, vb true), (26, undef), (27, undef), (28, undef), (29, undef), (30, undef), (31, vb true), (32, vb true), (33, undef), (34, undef), (35, undef), (36, undef), (37, undef), (38, undef), (39, undef), (40, vb true)] (nl (tn ?_))
  exact ⟨_, k1, m, (true), (act_upds ⟨by kernel_rfl, by kernel_rfl, by kernel_rfl, by kernel_rfl, trivial⟩), (by omega), h, (Mem.le.refl _), hst⟩
 rw [hc204]
 refine sg 4 [(12, vp b5 1), (13, vstr a0.Field), (14, vp b6 1), (15, vstr a1.Field)] [(ad b5 1, vstr a0.Field), (ad b6 1, vstr a1.Field)] ⟨hst.c 1, hst.c 0, trivial⟩ (vl (rne a0.Field a1.Field) (s0 2 [(17, vb (!(a0.Field == a1.Field))), (18, vb (!(a0.Field == a1.Field)))] ?_))
 rcases sp h with ⟨hc205, h⟩ | ⟨hc205, h⟩
 ·rw [hc205]
  refine s0 22 [(19, undef), (20, undef), (21, undef), (22, undef), (23, undef), (24, vb true), (25, vb true), (26, undef), (27, undef), (28, undef), (29, undef), (30, undef), (31, vb true), (32, vb true), (33, undef), (34, undef), (35, undef), (36, undef), (37, undef), (38, undef), (39, undef), (40, vb true)] (nl (tn ?_))
  exact ⟨_, k1, m, (true), (act_upds ⟨by kernel_rfl, by kernel_rfl, by kernel_rfl, by kernel_rfl, trivial⟩), (by omega), h, (Mem.le.refl _), hst⟩
 rw [hc205]
 refine sg 4 [(19, vp b5 2), (20, vstr a0.Key), (21, vp b6 2), (22, vstr a1.Key)] [(ad b5 2, vstr a0.Key), (ad b6 2, vstr a1.Key)] ⟨hst.c 1, hst.c 0, trivial⟩ (vl (rne a0.Key a1.Key) (s0 2 [(24, vb (!(a0.Key == a1.Key))), (25, vb (!(a0.Key == a1.Key)))] ?_))
 rcases sp h with ⟨hc206, h⟩ | ⟨hc206, h⟩
 ·rw [hc206]
  refine s0 15 [(26, undef), (27, undef), (28, undef), (29, undef), (30, undef), (31, vb true), (32, vb true), (33, undef), (34, undef), (35, undef), (36, undef), (37, undef), (38, undef), (39, undef), (40, vb true)] (nl (tn ?_))
  exact ⟨_, k1, m, (true), (act_upds ⟨by kernel_rfl, by kernel_rfl, by kernel_rfl, by kernel_rfl, trivial⟩), (by omega), h, (Mem.le.refl _), hst⟩
 rw [hc206]
 refine sg 4 [(26, vp b5 3), (27, va (cGValue a0.Value)), (28, vp b6 3), (29, va (cGValue a1.Value))] [(ad b5 3, vi a0.Value.Kind), (ad b5 4, vstr a0.Value.Text), (ad b5 5, vi a0.Value.Int), (ad b6 3, vi a1.Value.Kind), (ad b6 4, vstr a1.Value.Text), (ad b6 5, vi a1.Value.Int)] ⟨hst.c 1, hst.c 1, hst.c 1, hst.c 0, hst.c 0, hst.c 0, trivial⟩ (vl (ran ((a0.Value.Kind == a1.Value.Kind) && ((a0.Value.Text == a1.Value.Text) && ((a0.Value.Int == a1.Value.Int) && true))) (cGValue a0.Value) (cGValue a1.Value)) (s0 2 [(31, vb (!((a0.Value.Kind == a1.Value.Kind) && ((a0.Value.Text == a1.Value.Text) && ((a0.Value.Int == a1.Value.Int) && true))))), (32, vb (!((a0.Value.Kind == a1.Value.Kind) && ((a0.Value.Text == a1.Value.Text) && ((a0.Value.Int == a1.Value.Int) && true)))))] ?_))
 rcases sp h with ⟨hc207, h⟩ | ⟨hc207, h⟩
 ·rw [hc207]
  refine s0 8 [(33, undef), (34, undef), (35, undef), (36, undef), (37, undef), (38, undef), (39, undef), (40, vb true)] (nl (tn ?_))
  exact ⟨_, k1, m, (true), (act_upds ⟨by kernel_rfl, by kernel_rfl, by kernel_rfl, by kernel_rfl, trivial⟩), (by omega), h, (Mem.le.refl _), hst⟩
 rw [hc207]
 refine sg 8 [(33, vp b5 6), (34, vs A1 a0.Args c2), (35, vi ((a0.Args).length : Int)), (36, vp b6 6), (37, vs A3 a1.Args c4), (38, vi ((a1.Args).length : Int)), (39, vb (((a0.Args).length : Int) != ((a1.Args).length : Int))), (40, vb (((a0.Args).length : Int) != ((a1.Args).length : Int)))] [(ad b5 6, vs A1 a0.Args c2), (ad b6 6, vs A3 a1.Args c4)] ⟨hst.c 1, hst.c 0, trivial⟩ (nl (tn ?_))
 exact ⟨_, k1, m, ((((a0.Args).length : Int) != ((a1.Args).length : Int))), (act_upds ⟨by kernel_rfl, by kernel_rfl, by kernel_rfl, by kernel_rfl, trivial⟩), (by omega), h, (Mem.le.refl _), hst⟩
theorem i_l36_samePred (k : Nat) : I_l36_samePred k := by
  induction k using Nat.strongRecOn with
  | ind k ih => exact ⟨s_l36_samePred ih⟩
theorem c_l36_samePred {k : Nat} {a0 : GPred} {a1 : GPred} {r : Bool} {g : World} {m : Mem} {F : List Asr} {w : World} {u0 : Value} {u1 : Value} (h : l36_samePred k a0 a1 = some r) (hst : St g m (F) w) (hu0 : RS (TGPred) m u0 a0.Args) (hu1 : RS (TGPred) m u1 a1.Args) :
    Calls Tryz.prog 24 ⟨[va (cGPred a0 u0), va (cGPred a1 u1)]⟩ w (OPost (R_l36_samePred g m F) r) := (i_l36_samePred k).c_l36_samePred h hst hu0 hu1

end Go.Proofs.YtfnaahkgegfbnaaGreatDoor
