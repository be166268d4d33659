/- Contracts of Go functions. Written by a program of this session. -/
import Derived.Test.YtfnaahkgegfbnaaGreatDoorPK
import Derived.Test.YtfnaahkgegfbnaaGreatDoorShelf
import Derived.Test.YtfnaahkgegfbnaaGreatDoorDn
set_option linter.unusedVariables false
set_option linter.unusedSimpArgs false
set_option maxRecDepth 10000
namespace Go.Proofs.YtfnaahkgegfbnaaGreatDoor

def R_l36_smallPred (g : World) (m : Mem) (F : List Asr) (r : Bool) (v : Value) (w' : World) : Prop := ∃ (m' : Mem), v = vb r ∧ m.le m' ∧ St g m' (F) w'
structure I_l36_smallPred (k : Nat) : Prop where
  c_l36_smallPred : ∀ {a0 : GPred} {a1 : Int} {r : Bool} {g : World} {m : Mem} {F : List Asr} {w : World} {u0 : Value} (h : l36_smallPred k a0 a1 = some r) (hst : St g m (F) w) (hu0 : RS (TGPred) m u0 a0.Args),
    Calls Tryz.prog 37 ⟨[va (cGPred a0 u0), vi a1]⟩ w (OPost (R_l36_smallPred g m F) r)
theorem s_l36_smallPred {k : Nat} (ih : ∀ j, j < k → I_l36_smallPred j) {a0 : GPred} {a1 : Int} {r : Bool} {g : World} {m : Mem} {F : List Asr} {w : World} {u0 : Value} (h : l36_smallPred k a0 a1 = some r) (hst : St g m (F) w) (hu0 : RS (TGPred) m u0 a0.Args) :
    Calls Tryz.prog 37 ⟨[va (cGPred a0 u0), vi a1]⟩ w (OPost (R_l36_smallPred g m F) r) := by
 refine calls_enter Tryz.func37 rfl rfl ?_
 obtain _ | k1 := k
 ·simp [l36_smallPred] at h
 rw [l36_smallPred] at h
 obtain ⟨A1, c2, rfl⟩ := hu0.shape
 refine qr (bo_ (cGPred a0 (vs A1 a0.Args c2)) hst (fun b3 _ hst => ?_))
 refine s0 1 [(4, vb false)] (nl (tn (sq (wc_join (fun a w => ∃ (f0 : Fr) (k10 : Nat) (m12 : Mem) (x8 : Bool), a = act Tryz.f37.ntmps (upds f0 [(1, vi a1), (2, vp b3 0), (4, vb false), (28, vb x8)]) ∧ k10 ≤ k1 ∧ l36_smallPred_j1 k10 a0 a1 x8 = some r ∧ m.le m12 ∧ St g m12 (oo b3 44 (cGPred a0 (vs A1 a0.Args c2)) :: F) w) ?_ ?_))))
 ·rintro _ _ ⟨f0, k10, m12, x8, rfl, hk11, h, hl9, hst⟩
  obtain _ | k13 := k10
  ·simp [l36_smallPred_j1] at h
  rw [l36_smallPred_j1] at h
  refine cn h (fun h => ?_) (fun h => ?_)
  ·refine qr (s0 1 [(4, vb false)] (nl (tn (wp_ret (tr (wr [vb false] ?_))))))
   have hst := pk0 hst
   have h := Option.some.inj h; subst h
   exact ⟨_, rfl, m12, rfl, hl9, hst⟩
  refine wp_skip (tn (sq (qr (s0 1 [(5, vi 0)] (nl (tn (bk (wc_loop (fun kk a w => ∃ (f0 : Fr) (m53 : Mem) (x31 : Int), a = act Tryz.f37.ntmps (upds f0 [(1, vi a1), (2, vp b3 0), (4, vb false), (5, vi x31)]) ∧ kk ≤ k13 ∧ l36_smallPred_l2 kk a0 a1 x31 = some r ∧ m12.le m53 ∧ St g m53 (oo b3 44 (cGPred a0 (vs A1 a0.Args c2)) :: F) w) k13 ?_ ?_))))))))
  ·exact ⟨_, m12, (0), (act_upds ⟨by kernel_rfl, by kernel_rfl, by kernel_rfl, by kernel_rfl, trivial⟩), (Nat.le_refl _), h, (Mem.le.refl _), hst⟩
  rintro k51 ih52 _ _ ⟨f0, m53, x31, rfl, hk50, h, hl49, hst⟩
  obtain _ | k55 := k51
  ·simp [l36_smallPred_l2] at h
  rw [l36_smallPred_l2] at h
  refine sq (qr (sg 5 [(29, vi x31), (30, vp b3 6), (31, vs A1 a0.Args c2), (32, vi ((a0.Args).length : Int)), (33, vb (decide (x31 < ((a0.Args).length : Int))))] [(ad b3 6, vs A1 a0.Args c2)] ⟨hst.c 0, trivial⟩ (nl (tn (cn h (fun h => ?_) (fun h => ?_))))))
  ·refine wp_skip (tn (sq (bk (qr (sg 3 [(36, vp b3 6), (37, vs A1 a0.Args c2), (38, vi x31)] [(ad b3 6, vs A1 a0.Args c2)] ⟨hst.c 0, trivial⟩ ?_)))))
   obtain ⟨x57, hx58, h⟩ := ix h
   have e65 := hl9.trans hl49
   obtain ⟨b59, o60, cs61, hR62, hA63, hI64⟩ := RS.ix (P := Tryz.prog) (RS.mono e65 hu0) hx58
   obtain ⟨v66, rfl, hv66⟩ := TGPred.open_ hR62
   obtain ⟨A67, c68, rfl⟩ := hv66.shape
   refine vl (hI64.r .i64) (sg 3 [(40, va (cGPred x57 (vs A67 x57.Args c68))), (41, vi a1), (42, vi (w64 (a1 - 1)))] [(ad b59 o60, vi x57.Op), (ad b59 (o60 + 1), vstr x57.Field), (ad b59 (o60 + 2), vstr x57.Key), (ad b59 (o60 + 3), vi x57.Value.Kind), (ad b59 (o60 + 4), vstr x57.Value.Text), (ad b59 (o60 + 5), vi x57.Value.Int), (ad b59 (o60 + 6), vs A67 x57.Args c68)] ⟨hst.e hA63 0, hst.e hA63 1, hst.e hA63 2, hst.e hA63 3, hst.e hA63 4, hst.e hA63 5, hst.e hA63 6, trivial⟩ ?_)
   obtain ⟨r69, hq70, h⟩ := bs h
   refine cal ((ih k55 (by omega)).c_l36_smallPred hq70 hst hv66) ?_
   rintro _ _ ⟨m71, rfl, hl72, hst⟩
   refine s0 1 [(44, vb (!r69))] (nl (tn (cn h (fun h => ?_) (fun h => ?_))))
   ·refine qr (s0 1 [(4, vb false)] (nl (tn (wp_ret (br (tr (tr (br (tr (wr [vb false] ?_))))))))))
    have hst := pk0 hst
    have e73 := e65.trans hl72
    have h := Option.some.inj h; subst h
    exact ⟨_, rfl, m71, rfl, e73, hst⟩
   refine wp_skip (bn (tn (rg (s0 3 [(34, vi x31), (35, vi (w64 (x31 + 1))), (5, vi (w64 (x31 + 1)))] (nl (tn ?_))))))
   have e74 := hl49.trans hl72
   exact ih52 k55 (by omega) _ _ ⟨_, m71, (w64 (x31 + 1)), (act_upds ⟨by kernel_rfl, by kernel_rfl, by kernel_rfl, by kernel_rfl, trivial⟩), (by omega), h, e74, hst⟩
  refine wp_exit (tx (tx (bx (tn (qr (s0 1 [(4, vb true)] (nl (tn (wp_ret (wr [vb true] ?_))))))))))
  have hst := pk0 hst
  have e75 := hl9.trans hl49
  have h := Option.some.inj h; subst h
  exact ⟨_, rfl, m53, rfl, e75, hst⟩
 refine rg (s0 3 [(6, vi a1), (7, vb (a1 == 0)), (8, vb (a1 == 0))] ?_)
 rcases sp h with ⟨hc76, h⟩ | ⟨hc76, h⟩
 ·rw [hc76]
  refine s0 20 [(9, undef), (10, undef), (11, undef), (12, undef), (13, vb true), (14, vb true), (15, undef), (16, undef), (17, undef), (18, undef), (19, undef), (20, undef), (21, undef), (22, undef), (23, undef), (24, undef), (25, undef), (26, undef), (27, undef), (28, vb true)] (nl (tn ?_))
  exact ⟨_, k1, m, (true), (act_upds ⟨by kernel_rfl, by kernel_rfl, by kernel_rfl, by kernel_rfl, trivial⟩), (by omega), h, (Mem.le.refl _), hst⟩
 rw [hc76]
 refine sg 6 [(9, vp b3 6), (10, vs A1 a0.Args c2), (11, vi ((a0.Args).length : Int)), (12, vb (decide (((a0.Args).length : Int) > 4))), (13, vb (decide (((a0.Args).length : Int) > 4))), (14, vb (decide (((a0.Args).length : Int) > 4)))] [(ad b3 6, vs A1 a0.Args c2)] ⟨hst.c 0, trivial⟩ ?_
 rcases sp h with ⟨hc77, h⟩ | ⟨hc77, h⟩
 ·rw [hc77]
  refine s0 14 [(15, undef), (16, undef), (17, undef), (18, undef), (19, undef), (20, undef), (21, undef), (22, undef), (23, undef), (24, undef), (25, undef), (26, undef), (27, undef), (28, vb true)] (nl (tn ?_))
  exact ⟨_, k1, m, (true), (act_upds ⟨by kernel_rfl, by kernel_rfl, by kernel_rfl, by kernel_rfl, trivial⟩), (by omega), h, (Mem.le.refl _), hst⟩
 rw [hc77]
 refine sg 14 [(15, vp b3 1), (16, vstr a0.Field), (17, vi ((a0.Field).length : Int)), (18, vp b3 2), (19, vstr a0.Key), (20, vi ((a0.Key).length : Int)), (21, vi (w64 (((a0.Field).length : Int) + ((a0.Key).length : Int)))), (22, vp b3 3), (23, vp b3 4), (24, vstr a0.Value.Text), (25, vi ((a0.Value.Text).length : Int)), (26, vi (w64 ((w64 (((a0.Field).length : Int) + ((a0.Key).length : Int))) + ((a0.Value.Text).length : Int)))), (27, vb (decide ((w64 ((w64 (((a0.Field).length : Int) + ((a0.Key).length : Int))) + ((a0.Value.Text).length : Int))) > 80))), (28, vb (decide ((w64 ((w64 (((a0.Field).length : Int) + ((a0.Key).length : Int))) + ((a0.Value.Text).length : Int))) > 80)))] [(ad b3 1, vstr a0.Field), (ad b3 2, vstr a0.Key), (ad b3 4, vstr a0.Value.Text)] ⟨hst.c 0, hst.c 0, hst.c 0, trivial⟩ (nl (tn ?_))
 exact ⟨_, k1, m, (decide ((w64 ((w64 (((a0.Field).length : Int) + ((a0.Key).length : Int))) + ((a0.Value.Text).length : Int))) > 80)), (act_upds ⟨by kernel_rfl, by kernel_rfl, by kernel_rfl, by kernel_rfl, trivial⟩), (by omega), h, (Mem.le.refl _), hst⟩
theorem i_l36_smallPred (k : Nat) : I_l36_smallPred k := by
  induction k using Nat.strongRecOn with
  | ind k ih => exact ⟨s_l36_smallPred ih⟩
theorem c_l36_smallPred {k : Nat} {a0 : GPred} {a1 : Int} {r : Bool} {g : World} {m : Mem} {F : List Asr} {w : World} {u0 : Value} (h : l36_smallPred k a0 a1 = some r) (hst : St g m (F) w) (hu0 : RS (TGPred) m u0 a0.Args) :
    Calls Tryz.prog 37 ⟨[va (cGPred a0 u0), vi a1]⟩ w (OPost (R_l36_smallPred g m F) r) := (i_l36_smallPred k).c_l36_smallPred h hst hu0

end Go.Proofs.YtfnaahkgegfbnaaGreatDoor
