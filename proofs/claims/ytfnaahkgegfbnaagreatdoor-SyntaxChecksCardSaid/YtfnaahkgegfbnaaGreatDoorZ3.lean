/- Texts joined by a program of this session: Ga1, Gd0. -/
import Derived.Test.YtfnaahkgegfbnaaGreatDoorZ0
import Derived.Test.YtfnaahkgegfbnaaGreatDoorZ1
import Derived.Test.YtfnaahkgegfbnaaGreatDoorZ2
set_option linter.unusedVariables false
set_option linter.unusedSimpArgs false
set_option maxRecDepth 10000
namespace Go.Proofs.YtfnaahkgegfbnaaGreatDoor
variable {k cu0 cu1 cu2 cu3 cu4 cu5 cu6 cu7 cu8 cu9 cu10 cu11 cu12 cu13 cu14 cu15 cu16 cu17 cu18 cu19 cu20 cu21 cu22 cu23 cu24 cu25 cu26 cu27 cu28 cu29 cu30 cu31 cu32 cu33 cu34 cu35 cu36 cu37 cu38 cu39 ob0 ob1 ob2 ob3 ob4 ob5 ob6 ob7 ob8 ob9 ob10 ob11 : Nat} {g w : World} {m : Mem} {F : List Asr} {Au0 Au1 Au2 Au3 Au4 Au5 Au6 Au7 Au8 Au9 Au10 Au11 Au12 Au13 Au14 Au15 Au16 Au17 Au18 Au19 Au20 Au21 Au22 Au23 Au24 Au25 Au26 Au27 Au28 Au29 Au30 Au31 Au32 Au33 Au34 Au35 Au36 Au37 Au38 Au39 : Option Addr}
abbrev R_attribute_checkNode := RInt
theorem c_attribute_checkNode {a0 : GPred} {r : Int} (h : attribute_checkNode k a0 = some r) (hst : St g m (F) w) (hu0 : RS (TGPred) m (vs Au0 a0.Args cu0) a0.Args) :
    Calls Tryz.prog 79 ⟨[va (cGPred a0 (vs Au0 a0.Args cu0))]⟩ w (OPost (R_attribute_checkNode g m F) r) := by
 refine calls_enter Tryz.func79 rfl rfl ?_
 unfold attribute_checkNode at h
 refine qr (bo_ (cGPred a0 (vs Au0 a0.Args cu0)) hst (fun b1 _ hst => ?_))
 refine s0 1 [vi 0] (nl (tn (qr (sg 5 [vp b1 6, vs Au0 a0.Args cu0, vi ((a0.Args).length : Int), vb false] _ (hst.q 0 6 1) (nl (tn (wc_join (fun a w => ∃ f0 k9 m11 x7, a = act Tryz.f79.ntmps (upds f0 [(1, vp b1 0), (2, vi 0), (4, vb x7)]) ∧ k9 ≤ k ∧ attribute_checkNode_j2 k9 a0 x7 = some r ∧ m.le m11 ∧ St g m11 (oo b1 44 (cGPred a0 (vs Au0 a0.Args cu0)) :: F) w) ?_ ?_)))))))
 ·rintro _ _ ⟨f0, k9, m11, x7, rfl, hk10, h, hl8, hst⟩
  unfold attribute_checkNode_j2 at h
  refine sq (dr false (fun x => Rd m11 (oo b1 44 (cGPred a0 (vs Au0 a0.Args cu0)) :: []) x) ?_)
  have hst := hst.drew
  refine gs [0, 2, 3, 4] [va (cGPred a0 (vs Au0 a0.Args cu0)), vp b1 0, vi a0.Op, vb (a0.Op == 4)] _ 3 (pqt pqb) (hst.rd.with_ 0 rfl (hst.rd.none_)) (fun x hx => (AllC.app (hx.q 0 0 7) (hx.q 0 0 1))) ?_
  refine ge 1 rfl ?_
  obtain ⟨r16, hq17, h⟩ := bs h
  refine cal (c_attribute_isTest hq17 hst (RS.mono hl8 hu0)) ?_
  rintro _ _ ⟨m18, rfl, hl19, hst⟩
  refine gn (Rd.lower hl19 (hst.rd.with_ 0 rfl (hst.rd.none_))) (wpG_strong (S2 := fun x => Rd m18 (oo b1 44 (cGPred a0 (vs Au0 a0.Args cu0)) :: []) x) (fun x hx => Rd.lower hl19 hx) ?_)
  refine gs [5] [] [] 1 (pqt pqb) (hst.rd.with_ 0 rfl (hst.rd.none_)) (fun x hx => trivial) ?_
  refine ge 6 rfl (sg 1 [] [] trivial (nl (tn (⟨_, fun _ h => h, .inl ⟨rfl, allListed_of _ (by kernel_rfl)⟩, ?_⟩))))
  refine gd (tn (wc_join (fun a w => ∃ f0 k70 m72, a = act Tryz.f79.ntmps (upds f0 [(1, vp b1 0), (2, vi 0)]) ∧ k70 ≤ k9 ∧ attribute_checkNode_j5 k70 a0 = some r ∧ m18.le m72 ∧ St g m72 (oo b1 44 (cGPred a0 (vs Au0 a0.Args cu0)) :: F) w) ?_ ?_))
  ·rintro _ _ ⟨f0, k70, m72, rfl, hk71, h, hl69, hst⟩
   unfold attribute_checkNode_j5 at h
   refine sq (qr (sg 2 [vp b1 3, va (cGValue a0.Value)] _ (hst.q 0 3 3) ?_))
   obtain ⟨r77, hq78, h⟩ := bs h
   refine cal (c_attribute_CheckValue hq78 hst) ?_
   rintro _ _ ⟨m79, rfl, hl80, hst⟩
   refine s0 1 [] (nl (tn (qr (s0 2 [vb (r77 != 0)] (nl (tn (cn h (fun h => ?_) (fun h => ?_))))))))
   ·refine qr (s0 2 [] (nl (tn (wp_ret (tr (wr [vi r77] ?_))))))
    have hst := pk0 hst
    have e81 := hl8.trans (hl19.trans (hl69.trans hl80))
    have h := Option.some.inj h; subst h
    exact ⟨_, rfl, m79, rfl, e81, hst⟩
   refine wp_skip (tn (sq (qr (sg 4 [vp b1 0, vi a0.Op, vb (a0.Op == 6)] _ (hst.q 0 0 1) ?_))))
   rcases sp h with ⟨hc82, h⟩ | ⟨hc82, h⟩
   ·rw [hc82]
    refine sg 6 [vp b1 3, vp b1 3, vi a0.Value.Kind, vb (a0.Value.Kind == 3), vb (a0.Value.Kind == 3)] _ (hst.q 0 3 1) ?_
    rcases sp h with ⟨hc83, h⟩ | ⟨hc83, h⟩
    ·rw [hc83]
     refine sk 9 (s0 1 [vb true] (nl (tn (ct (qr (s0 1 [vi 13] (nl (tn (wp_ret (tr (wr [vi 13] ?_)))))))))))
     have hst := pk0 hst
     have e84 := hl8.trans (hl19.trans (hl69.trans hl80))
     have h := Option.some.inj h; subst h
     exact ⟨_, rfl, m79, rfl, e84, hst⟩
    rw [hc83]
    refine sg 4 [vp b1 0, vi a0.Op, vb (a0.Op == 7)] _ (hst.q 0 0 1) ?_
    rcases sp h with ⟨hc85, h⟩ | ⟨hc85, h⟩
    ·rw [hc85]
     refine sg 6 [vp b1 3, vp b1 3, vi a0.Value.Kind, vb (a0.Value.Kind != 1), vb (a0.Value.Kind != 1), vb (a0.Value.Kind != 1)] _ (hst.q 0 3 1) (nl (tn (cn h (fun h => ?_) (fun h => ?_))))
     ·refine qr (s0 1 [vi 13] (nl (tn (wp_ret (tr (wr [vi 13] ?_))))))
      have hst := pk0 hst
      have e86 := hl8.trans (hl19.trans (hl69.trans hl80))
      have h := Option.some.inj h; subst h
      exact ⟨_, rfl, m79, rfl, e86, hst⟩
     refine wp_skip (tn (qr (s0 1 [vi 0] (nl (tn (wp_ret (wr [vi 0] ?_)))))))
     have hst := pk0 hst
     have e87 := hl8.trans (hl19.trans (hl69.trans hl80))
     have h := Option.some.inj h; subst h
     exact ⟨_, rfl, m79, rfl, e87, hst⟩
    rw [hc85]
    refine sk 4 (s0 2 [vb false, vb false] (nl (tn (cf (wp_skip (tn (qr (s0 1 [vi 0] (nl (tn (wp_ret (wr [vi 0] ?_))))))))))))
    have hst := pk0 hst
    have e88 := hl8.trans (hl19.trans (hl69.trans hl80))
    have h := Option.some.inj h; subst h
    exact ⟨_, rfl, m79, rfl, e88, hst⟩
   rw [hc82]
   refine sk 4 (sg 6 [vb false, vp b1 0, vi a0.Op, vb (a0.Op == 7)] _ (hst.q 0 0 1) ?_)
   rcases sp h with ⟨hc89, h⟩ | ⟨hc89, h⟩
   ·rw [hc89]
    refine sg 6 [vp b1 3, vp b1 3, vi a0.Value.Kind, vb (a0.Value.Kind != 1), vb (a0.Value.Kind != 1), vb (a0.Value.Kind != 1)] _ (hst.q 0 3 1) (nl (tn (cn h (fun h => ?_) (fun h => ?_))))
    ·refine qr (s0 1 [vi 13] (nl (tn (wp_ret (tr (wr [vi 13] ?_))))))
     have hst := pk0 hst
     have e90 := hl8.trans (hl19.trans (hl69.trans hl80))
     have h := Option.some.inj h; subst h
     exact ⟨_, rfl, m79, rfl, e90, hst⟩
    refine wp_skip (tn (qr (s0 1 [vi 0] (nl (tn (wp_ret (wr [vi 0] ?_)))))))
    have hst := pk0 hst
    have e91 := hl8.trans (hl19.trans (hl69.trans hl80))
    have h := Option.some.inj h; subst h
    exact ⟨_, rfl, m79, rfl, e91, hst⟩
   rw [hc89]
   refine sk 4 (s0 2 [vb false, vb false] (nl (tn (cf (wp_skip (tn (qr (s0 1 [vi 0] (nl (tn (wp_ret (wr [vi 0] ?_))))))))))))
   have hst := pk0 hst
   have e92 := hl8.trans (hl19.trans (hl69.trans hl80))
   have h := Option.some.inj h; subst h
   exact ⟨_, rfl, m79, rfl, e92, hst⟩
  refine bk (wc_join (fun a w => ∃ f0 k103 m105 x101, a = act Tryz.f79.ntmps (upds f0 [(1, vp b1 0), (2, vi 0), (5, vb r16), (6, vb (a0.Op == 4)), (35, vb x101)]) ∧ k103 ≤ k9 ∧ attribute_checkNode_j6 k103 a0 r16 x101 = some r ∧ m18.le m105 ∧ St g m105 (oo b1 44 (cGPred a0 (vs Au0 a0.Args cu0)) :: F) w) ?_ ?_)
  ·rintro _ _ ⟨f0, k103, m105, x101, rfl, hk104, h, hl102, hst⟩
   unfold attribute_checkNode_j6 at h
   refine cn h (fun h => ?_) (fun h => ?_)
   ·refine qr (s0 1 [vi 3] (nl (tn (wp_ret (br (tr (wr [vi 3] ?_)))))))
    have hst := pk0 hst
    have e106 := hl8.trans (hl19.trans hl102)
    have h := Option.some.inj h; subst h
    exact ⟨_, rfl, m105, rfl, e106, hst⟩
   refine wc_join (fun a w => ∃ f0 k114 m116 x112, a = act Tryz.f79.ntmps (upds f0 [(1, vp b1 0), (2, vi 0), (5, vb r16), (66, vb x112)]) ∧ k114 ≤ k103 ∧ attribute_checkNode_j7 k114 a0 r16 x112 = some r ∧ m105.le m116 ∧ St g m116 (oo b1 44 (cGPred a0 (vs Au0 a0.Args cu0)) :: F) w) ?_ ?_
   ·rintro _ _ ⟨f0, k114, m116, x112, rfl, hk115, h, hl113, hst⟩
    unfold attribute_checkNode_j7 at h
    refine cn h (fun h => ?_) (fun h => ?_)
    ·refine qr (s0 1 [vi 11] (nl (tn (wp_ret (br (tr (wr [vi 11] ?_)))))))
     have hst := pk0 hst
     have e117 := hl8.trans (hl19.trans (hl102.trans hl113))
     have h := Option.some.inj h; subst h
     exact ⟨_, rfl, m116, rfl, e117, hst⟩
    refine qr (s0 3 [vb (!r16)] (nl (tn (cn h (fun h => ?_) (fun h => ?_)))))
    ·refine qr (s0 1 [vi 0] (nl (tn (wp_ret (br (tr (wr [vi 0] ?_)))))))
     have hst := pk0 hst
     have e118 := hl8.trans (hl19.trans (hl102.trans hl113))
     have h := Option.some.inj h; subst h
     exact ⟨_, rfl, m116, rfl, e118, hst⟩
    refine qr (sg 2 [vp b1 1, vstr a0.Field] _ (hst.q 0 1 1) ?_)
    obtain ⟨r119, hq120, h⟩ := bs h
    refine cal (c_attribute_IsName hq120 hst) ?_
    rintro _ _ ⟨m121, rfl, hl122, hst⟩
    refine s0 2 [vb (!r119)] ?_
    rcases sp h with ⟨hc123, h⟩ | ⟨hc123, h⟩
    ·rw [hc123]
     refine sk 9 (s0 2 [vb true] (sk 8 (s0 2 [vb true] (nl (tn (ct (qr (s0 1 [vi 11] (nl (tn (wp_ret (br (tr (wr [vi 11] ?_))))))))))))))
     have hst := pk0 hst
     have e124 := hl8.trans (hl19.trans (hl102.trans (hl113.trans hl122)))
     have h := Option.some.inj h; subst h
     exact ⟨_, rfl, m121, rfl, e124, hst⟩
    rw [hc123]
    refine sg 2 [vp b1 1, vstr a0.Field] _ (hst.q 0 1 1) (vl (re a0.Field w_attr) (s0 1 [] ?_))
    rcases sp h with ⟨hc125, h⟩ | ⟨hc125, h⟩
    ·rw [hc125]
     refine sg 2 [vp b1 2, vstr a0.Key] _ (hst.q 0 2 1) ?_
     obtain ⟨r126, hq127, h⟩ := bs h
     refine cal (c_attribute_IsName hq127 hst) ?_
     rintro _ _ ⟨m128, rfl, hl129, hst⟩
     refine s0 4 [vb (!r126), vb (!r126), vb (!r126)] ?_
     rcases sp h with ⟨hc130, h⟩ | ⟨hc130, h⟩
     ·rw [hc130]
      refine sk 8 (s0 2 [vb true] (nl (tn (ct (qr (s0 1 [vi 11] (nl (tn (wp_ret (br (tr (wr [vi 11] ?_))))))))))))
      have hst := pk0 hst
      have e131 := hl8.trans (hl19.trans (hl102.trans (hl113.trans (hl122.trans hl129))))
      have h := Option.some.inj h; subst h
      exact ⟨_, rfl, m128, rfl, e131, hst⟩
     rw [hc130]
     refine sg 2 [vp b1 1, vstr a0.Field] _ (hst.q 0 1 1) (vl (rne a0.Field w_attr) (s0 1 [] ?_))
     rcases sp h with ⟨hc132, h⟩ | ⟨hc132, h⟩
     ·rw [hc132]
      refine sg 2 [vp b1 2, vstr a0.Key] _ (hst.q 0 2 1) (vl (rne a0.Key w_0) (s0 3 [vb (!(a0.Key == w_0)), vb (!(a0.Key == w_0))] (nl (tn (cn h (fun h => ?_) (fun h => ?_))))))
      ·refine qr (s0 1 [vi 11] (nl (tn (wp_ret (br (tr (wr [vi 11] ?_)))))))
       have hst := pk0 hst
       have e133 := hl8.trans (hl19.trans (hl102.trans (hl113.trans (hl122.trans hl129))))
       have h := Option.some.inj h; subst h
       exact ⟨_, rfl, m128, rfl, e133, hst⟩
      refine wp_skip (bn (tn ?_))
      have e134 := hl102.trans (hl113.trans (hl122.trans hl129))
      exact ⟨_, k114, m128, au, (by omega), h, e134, hst⟩
     rw [hc132]
     refine sk 3 (s0 3 [vb false, vb false] (nl (tn (cf (wp_skip (bn (tn ?_)))))))
     have e135 := hl102.trans (hl113.trans (hl122.trans hl129))
     exact ⟨_, k114, m128, au, (by omega), h, e135, hst⟩
    rw [hc125]
    refine sk 4 (sg 5 [vb false, vb false, vp b1 1, vstr a0.Field] _ (hst.q 0 1 1) (vl (rne a0.Field w_attr) (s0 1 [] ?_)))
    rcases sp h with ⟨hc136, h⟩ | ⟨hc136, h⟩
    ·rw [hc136]
     refine sg 2 [vp b1 2, vstr a0.Key] _ (hst.q 0 2 1) (vl (rne a0.Key w_0) (s0 3 [vb (!(a0.Key == w_0)), vb (!(a0.Key == w_0))] (nl (tn (cn h (fun h => ?_) (fun h => ?_))))))
     ·refine qr (s0 1 [vi 11] (nl (tn (wp_ret (br (tr (wr [vi 11] ?_)))))))
      have hst := pk0 hst
      have e137 := hl8.trans (hl19.trans (hl102.trans (hl113.trans hl122)))
      have h := Option.some.inj h; subst h
      exact ⟨_, rfl, m121, rfl, e137, hst⟩
     refine wp_skip (bn (tn ?_))
     have e138 := hl102.trans (hl113.trans hl122)
     exact ⟨_, k114, m121, au, (by omega), h, e138, hst⟩
    rw [hc136]
    refine sk 3 (s0 3 [vb false, vb false] (nl (tn (cf (wp_skip (bn (tn ?_)))))))
    have e139 := hl102.trans (hl113.trans hl122)
    exact ⟨_, k114, m121, au, (by omega), h, e139, hst⟩
   refine rg (s0 2 [] ?_)
   rcases sp h with ⟨hc140, h⟩ | ⟨hc140, h⟩
   ·rw [hc140]
    refine sg 2 [vp b1 2, vstr a0.Key] _ (hst.q 0 2 1) ?_
    obtain ⟨r141, hq142, h⟩ := bs h
    refine cal (c_attribute_IsName hq142 hst) ?_
    rintro _ _ ⟨m143, rfl, hl144, hst⟩
    refine s0 3 [vb (!r141), vb (!r141)] (nl (tn ?_))
    exact ⟨_, k103, m143, (!r141), au, (by omega), h, hl144, hst⟩
   rw [hc140]
   refine sk 4 (s0 2 [vb false] (nl (tn ?_)))
   exact ⟨_, k103, m105, (false), au, (by omega), h, (Mem.le.refl _), hst⟩
  refine rg (s0 3 [vb (!x7)] ?_)
  rcases sp h with ⟨hc145, h⟩ | ⟨hc145, h⟩
  ·rw [hc145]
   refine sk 13 (s0 2 [vb true] (sk 11 (s0 2 [vb true] (nl (tn ?_)))))
   exact ⟨_, k9, m18, (true), au, (by omega), h, (Mem.le.refl _), hst⟩
  rw [hc145]
  refine s0 3 [vb (!r16)] ?_
  rcases sp h with ⟨hc146, h⟩ | ⟨hc146, h⟩
  ·rw [hc146]
   refine sg 2 [vp b1 1, vstr a0.Field] _ (hst.q 0 1 1) (vl (rne a0.Field w_0) (s0 1 [] ?_))
   rcases sp h with ⟨hc147, h⟩ | ⟨hc147, h⟩
   ·rw [hc147]
    refine sk 4 (s0 4 [vb true, vb true, vb true] (sk 11 (s0 2 [vb true] (nl (tn ?_)))))
    exact ⟨_, k9, m18, (true), au, (by omega), h, (Mem.le.refl _), hst⟩
   rw [hc147]
   refine sg 3 [vp b1 3, va (cGValue a0.Value), va [vi 0, vstr w_0, vi 0]] _ (hst.q 0 3 3) (vl (ran ((a0.Value.Kind == 0) && ((a0.Value.Text == w_0) && ((a0.Value.Int == 0) && true))) (cGValue a0.Value) [vi 0, vstr w_0, vi 0]) (s0 4 [vb (!((a0.Value.Kind == 0) && ((a0.Value.Text == w_0) && ((a0.Value.Int == 0) && true)))), vb (!((a0.Value.Kind == 0) && ((a0.Value.Text == w_0) && ((a0.Value.Int == 0) && true)))), vb (!((a0.Value.Kind == 0) && ((a0.Value.Text == w_0) && ((a0.Value.Int == 0) && true))))] ?_))
   rcases sp h with ⟨hc148, h⟩ | ⟨hc148, h⟩
   ·rw [hc148]
    refine sk 11 (s0 2 [vb true] (nl (tn ?_)))
    exact ⟨_, k9, m18, (true), au, (by omega), h, (Mem.le.refl _), hst⟩
   rw [hc148]
   refine s0 3 [vb (!r16)] ?_
   rcases sp h with ⟨hc149, h⟩ | ⟨hc149, h⟩
   ·rw [hc149]
    refine s0 4 [vb (!(a0.Op == 4)), vb (!(a0.Op == 4))] ?_
    rcases sp h with ⟨hc150, h⟩ | ⟨hc150, h⟩
    ·rw [hc150]
     refine sg 2 [vp b1 2, vstr a0.Key] _ (hst.q 0 2 1) (vl (rne a0.Key w_0) (s0 3 [vb (!(a0.Key == w_0)), vb (!(a0.Key == w_0))] (nl (tn ?_))))
     exact ⟨_, k9, m18, (!(a0.Key == w_0)), au, (by omega), h, (Mem.le.refl _), hst⟩
    rw [hc150]
    refine sk 3 (s0 3 [vb false, vb false] (nl (tn ?_)))
    exact ⟨_, k9, m18, (false), au, (by omega), h, (Mem.le.refl _), hst⟩
   rw [hc149]
   refine sk 2 (s0 2 [vb false] (sk 3 (s0 3 [vb false, vb false] (nl (tn ?_)))))
   exact ⟨_, k9, m18, (false), au, (by omega), h, (Mem.le.refl _), hst⟩
  rw [hc146]
  refine sk 9 (s0 6 [vb false, vb false, vb (!r16)] ?_)
  rcases sp h with ⟨hc151, h⟩ | ⟨hc151, h⟩
  ·rw [hc151]
   refine s0 4 [vb (!(a0.Op == 4)), vb (!(a0.Op == 4))] ?_
   rcases sp h with ⟨hc152, h⟩ | ⟨hc152, h⟩
   ·rw [hc152]
    refine sg 2 [vp b1 2, vstr a0.Key] _ (hst.q 0 2 1) (vl (rne a0.Key w_0) (s0 3 [vb (!(a0.Key == w_0)), vb (!(a0.Key == w_0))] (nl (tn ?_))))
    exact ⟨_, k9, m18, (!(a0.Key == w_0)), au, (by omega), h, (Mem.le.refl _), hst⟩
   rw [hc152]
   refine sk 3 (s0 3 [vb false, vb false] (nl (tn ?_)))
   exact ⟨_, k9, m18, (false), au, (by omega), h, (Mem.le.refl _), hst⟩
  rw [hc151]
  refine sk 2 (s0 2 [vb false] (sk 3 (s0 3 [vb false, vb false] (nl (tn ?_)))))
  exact ⟨_, k9, m18, (false), au, (by omega), h, (Mem.le.refl _), hst⟩
 refine qr (sg 2 [vp b1 0, vi a0.Op] _ (hst.q 0 0 1) (nl (tn (bk (wc_join (fun a w => ∃ f0 k155 m157 x153, a = act Tryz.f79.ntmps (upds f0 [(1, vp b1 0), (2, vi 0), (3, vi ((a0.Args).length : Int)), (4, vb false), (12, vi a0.Op), (13, vb x153)]) ∧ k155 ≤ k ∧ attribute_checkNode_j8 k155 a0 x153 = some r ∧ m.le m157 ∧ St g m157 (oo b1 44 (cGPred a0 (vs Au0 a0.Args cu0)) :: F) w) ?_ ?_)))))
 ·rintro _ _ ⟨f0, k155, m157, x153, rfl, hk156, h, hl154, hst⟩
  unfold attribute_checkNode_j8 at h
  refine cn h (fun h => ?_) (fun h => ?_)
  ·refine rg (s0 3 [vb (decide (((a0.Args).length : Int) ≥ 1))] (nl (bn (tn ?_))))
   exact ⟨_, k155, m157, (decide (((a0.Args).length : Int) ≥ 1)), au, (by omega), h, hl154, hst⟩
  refine qr (s0 2 [vb (a0.Op == 3)] (nl (tn (cn h (fun h => ?_) (fun h => ?_)))))
  ·refine rg (s0 3 [vb (((a0.Args).length : Int) == 1)] (nl (bn (tn ?_))))
   exact ⟨_, k155, m157, ((((a0.Args).length : Int) == 1)), au, (by omega), h, hl154, hst⟩
  refine sq (qr (s0 2 [vb (a0.Op == 0)] (nl (tn (cn h (fun h => ?_) (fun h => ?_))))))
  ·refine wp_skip (tn (cn h (fun h => ?_) (fun h => ?_)))
   ·refine rg (s0 3 [vb (((a0.Args).length : Int) == 0)] (nl (bn (tn ?_))))
    exact ⟨_, k155, m157, ((((a0.Args).length : Int) == 0)), au, (by omega), h, hl154, hst⟩
   refine qr (s0 1 [vi 12] (nl (tn (wp_ret (br (tr (wr [vi 12] ?_)))))))
   have hst := pk0 hst
   have h := Option.some.inj h; subst h
   exact ⟨_, rfl, m157, rfl, hl154, hst⟩
  refine qr (s0 2 [vb (a0.Op == 4)] (nl (tn (cn h (fun h => ?_) (fun h => ?_)))))
  ·refine wp_skip (tn (cn h (fun h => ?_) (fun h => ?_)))
   ·refine rg (s0 3 [vb (((a0.Args).length : Int) == 0)] (nl (bn (tn ?_))))
    exact ⟨_, k155, m157, ((((a0.Args).length : Int) == 0)), au, (by omega), h, hl154, hst⟩
   refine qr (s0 1 [vi 12] (nl (tn (wp_ret (br (tr (wr [vi 12] ?_)))))))
   have hst := pk0 hst
   have h := Option.some.inj h; subst h
   exact ⟨_, rfl, m157, rfl, hl154, hst⟩
  refine qr (s0 2 [vb (a0.Op == 5)] (nl (tn (cn h (fun h => ?_) (fun h => ?_)))))
  ·refine wp_skip (tn (cn h (fun h => ?_) (fun h => ?_)))
   ·refine rg (s0 3 [vb (((a0.Args).length : Int) == 0)] (nl (bn (tn ?_))))
    exact ⟨_, k155, m157, ((((a0.Args).length : Int) == 0)), au, (by omega), h, hl154, hst⟩
   refine qr (s0 1 [vi 12] (nl (tn (wp_ret (br (tr (wr [vi 12] ?_)))))))
   have hst := pk0 hst
   have h := Option.some.inj h; subst h
   exact ⟨_, rfl, m157, rfl, hl154, hst⟩
  refine qr (s0 2 [vb (a0.Op == 6)] (nl (tn (cn h (fun h => ?_) (fun h => ?_)))))
  ·refine wp_skip (tn (cn h (fun h => ?_) (fun h => ?_)))
   ·refine rg (s0 3 [vb (((a0.Args).length : Int) == 0)] (nl (bn (tn ?_))))
    exact ⟨_, k155, m157, ((((a0.Args).length : Int) == 0)), au, (by omega), h, hl154, hst⟩
   refine qr (s0 1 [vi 12] (nl (tn (wp_ret (br (tr (wr [vi 12] ?_)))))))
   have hst := pk0 hst
   have h := Option.some.inj h; subst h
   exact ⟨_, rfl, m157, rfl, hl154, hst⟩
  refine rg (s0 2 [vb (a0.Op == 7)] (nl (tn (cn h (fun h => ?_) (fun h => ?_)))))
  ·refine rg (s0 3 [vb (((a0.Args).length : Int) == 0)] (nl (bn (tn ?_))))
   exact ⟨_, k155, m157, ((((a0.Args).length : Int) == 0)), au, (by omega), h, hl154, hst⟩
  refine qr (s0 1 [vi 12] (nl (tn (wp_ret (br (tr (wr [vi 12] ?_)))))))
  have hst := pk0 hst
  have h := Option.some.inj h; subst h
  exact ⟨_, rfl, m157, rfl, hl154, hst⟩
 refine qr (s0 2 [vb (a0.Op == 1)] (nl (tn (cn h (fun h => ?_) (fun h => ?_)))))
 ·refine wp_skip (tn ?_)
  exact ⟨_, k, m, ((a0.Op == 1)), au, (by omega), h, (Mem.le.refl _), hst⟩
 refine rg (s0 2 [vb (a0.Op == 2)] (nl (tn ?_)))
 exact ⟨_, k, m, ((a0.Op == 2)), au, (by omega), h, (Mem.le.refl _), hst⟩
def R_attribute_Check_c1 (g : World) (m : Mem) (F : List Asr) (ob2 : Nat) (ob3 : Nat) (r : Int × Int) (v : Value) (w' : World) : Prop := ∃ m', v = vi r.2 ∧ m.le m' ∧ St g m' (oo ob2 3 [vi r.1] :: oo ob3 136 [vf 78 [] [vp ob2 0, vp ob3 0]] :: F) w'
structure I_attribute_Check_c1 (k : Nat) : Prop where
  c_attribute_Check_c1 : ∀ {a0 : GPred} {a1 : Int} {a2 : Int} {r : Int × Int} {g : World} {m : Mem} {F : List Asr} {w : World} {ob2 : Nat} {ob3 : Nat} {Au0 : Option Addr} {cu0 : Nat} (h : attribute_Check_c1 k a0 a1 a2 = some r) (hst : St g m (oo ob2 3 [vi a2] :: oo ob3 136 [vf 78 [] [vp ob2 0, vp ob3 0]] :: F) w) (hu0 : RS (TGPred) m (vs Au0 a0.Args cu0) a0.Args),
    Calls Tryz.prog 78 ⟨[va (cGPred a0 (vs Au0 a0.Args cu0)), vi a1, vp ob2 0, vp ob3 0]⟩ w (OPost (R_attribute_Check_c1 g m F ob2 ob3) r)
theorem s_attribute_Check_c1 (ih : ∀ j, j < k → I_attribute_Check_c1 j) {a0 : GPred} {a1 : Int} {a2 : Int} {r : Int × Int} (h : attribute_Check_c1 k a0 a1 a2 = some r) (hst : St g m (oo ob2 3 [vi a2] :: oo ob3 136 [vf 78 [] [vp ob2 0, vp ob3 0]] :: F) w) (hu0 : RS (TGPred) m (vs Au0 a0.Args cu0) a0.Args) :
    Calls Tryz.prog 78 ⟨[va (cGPred a0 (vs Au0 a0.Args cu0)), vi a1, vp ob2 0, vp ob3 0]⟩ w (OPost (R_attribute_Check_c1 g m F ob2 ob3) r) := by
 refine calls_enter Tryz.func78 rfl rfl ?_
 obtain _ | k1 := k
 ·simp [attribute_Check_c1] at h
 rw [attribute_Check_c1] at h
 refine qr (bo_ (cGPred a0 (vs Au0 a0.Args cu0)) hst (fun b1 _ hst => ?_))
 refine s0 1 [vi 0] (nl (tn (sq (bk (qr (sg 3 [vi a2, vb (decide (a2 ≥ 64))] _ (hst.q 1 0 1) (nl (tn (cn h (fun h => ?_) (fun h => ?_))))))))))
 ·refine qr (s0 1 [vi 6] (nl (tn (wp_ret (br (tr (wr [vi 6] ?_)))))))
  have hst := pk0 hst
  cases h
  exact ⟨_, rfl, m, rfl, (Mem.le.refl _), hst⟩
 refine qr (s0 3 [vb (decide (a1 > 16))] (nl (tn (cn h (fun h => ?_) (fun h => ?_)))))
 ·refine qr (s0 1 [vi 15] (nl (tn (wp_ret (br (tr (wr [vi 15] ?_)))))))
  have hst := pk0 hst
  cases h
  exact ⟨_, rfl, m, rfl, (Mem.le.refl _), hst⟩
 refine wp_skip (bn (tn (qr (sg 2 [vi a2, vi (w64 (a2 + 1))] _ (hst.q 1 0 1) (so1 0 [vi (w64 (a2 + 1))] hst (fun _ hst => ?_))))))
 refine nl (tn (sq (qr (sg 1 [va (cGPred a0 (vs Au0 a0.Args cu0))] _ (hst.q 0 0 7) ?_))))
 obtain ⟨r6, hq7, h⟩ := bs h
 refine cal (c_attribute_checkNode hq7 hst hu0) ?_
 rintro _ _ ⟨m8, rfl, hl9, hst⟩
 refine s0 1 [] (nl (tn (qr (s0 2 [vb (r6 != 0)] (nl (tn (cn h (fun h => ?_) (fun h => ?_))))))))
 ·refine qr (s0 2 [] (nl (tn (wp_ret (tr (wr [vi r6] ?_))))))
  have hst := pk0 hst
  cases h
  exact ⟨_, rfl, m8, rfl, hl9, hst⟩
 refine wp_skip (tn (sq (qr (sg 4 [vp b1 6, vs Au0 a0.Args cu0, vi ((a0.Args).length : Int), vi 0] _ (hst.q 0 6 1) (nl (tn (bk ?_)))))))
 have hst := pk0 hst
 refine wc_loop (fun kk a w => ∃ f0 m54 x29 x30, a = act Tryz.f78.ntmps (upds f0 [(1, vi a1), (3, vp ob3 0), (6, vi 0), (25, vs Au0 a0.Args cu0), (26, vi ((a0.Args).length : Int)), (27, vi x30)]) ∧ kk ≤ k1 ∧ attribute_Check_c1_l1 kk a0 a1 x29 x30 = some r ∧ m8.le m54 ∧ St g m54 (oo ob2 3 [vi x29] :: oo ob3 136 [vf 78 [] [vp ob2 0, vp ob3 0]] :: F) w) k1 ?_ ?_
 ·exact ⟨_, m8, (w64 (a2 + 1)), (0), au, (Nat.le_refl _), h, (Mem.le.refl _), hst⟩
 rintro k52 ih53 _ _ ⟨f0, m54, x29, x30, rfl, hk51, h, hl50, hst⟩
 obtain _ | k56 := k52
 ·simp [attribute_Check_c1_l1] at h
 rw [attribute_Check_c1_l1] at h
 refine qr (s0 1 [vb (decide (x30 < ((a0.Args).length : Int)))] (nl (tn (sq (cn h (fun h => ?_) (fun h => ?_))))))
 ·refine wp_skip (tn (sq (bk (qr ?_))))
  obtain ⟨x58, hx59, h⟩ := ix h
  have e66 := hl9.trans hl50
  obtain ⟨b60, o61, cs62, hR63, hA64, hI65⟩ := RS.ix (P := Tryz.prog) (RS.mono e66 hu0) hx59
  obtain ⟨Aq67, cq67, rfl, hq67⟩ := TGPred.opn hR63
  refine vl (hI65.r .i64) (sg 1 [va (cGPred x58 (vs Aq67 x58.Args cq67))] _ (hst.f hA64 0 7) (al [vi 0, vstr w_0, vstr w_0, vi 0, vstr w_0, vi 0, vn] hst (fun b68 _ hst => ?_)))
  have hrc70 := RC.nil (TGPred) m54
  have hst := hst.nil_row 44 7
  refine so1 0 (cGPred x58 (vs Aq67 x58.Args cq67)) hst (fun _ hst => ?_)
  refine nl (tn (qr (sg 4 [vf 78 [] [vp ob2 0, vp ob3 0], va (cGPred x58 (vs Aq67 x58.Args cq67)), vi (w64 (a1 + 1))] _ (AllC.app (hst.q 3 0 1) (hst.q 1 0 7)) ?_)))
  have hst := pk25 hst
  obtain ⟨r71, hq72, h⟩ := bs h
  refine cal ((ih k56 (by omega)).c_attribute_Check_c1 hq72 hst hq67) ?_
  rintro _ _ ⟨m73, rfl, hl74, hst⟩
  refine s0 1 [] (nl (tn (qr (s0 2 [vb (r71.2 != 0)] (nl (tn (cn h (fun h => ?_) (fun h => ?_))))))))
  ·refine qr (s0 2 [] (nl (tn (wp_ret (br (tr (tr (br (tr (wr [vi r71.2] ?_))))))))))
   have hst := pk26 hst
   have e75 := e66.trans hl74
   cases h
   exact ⟨_, rfl, m73, rfl, e75, hst⟩
  refine wp_skip (bn (tn (rg (s0 2 [vi (w64 (x30 + 1))] (nl (tn ?_))))))
  have e76 := hl50.trans hl74
  have hst := pk26 hst
  exact ih53 k56 (by omega) _ _ ⟨_, m73, (r71.1), (w64 (x30 + 1)), au, (by omega), h, e76, hst⟩
 refine wp_exit (tx (tx (bx (tn (qr (s0 1 [vi 0] (nl (tn (wp_ret (wr [vi 0] ?_))))))))))
 have e77 := hl9.trans hl50
 cases h
 exact ⟨_, rfl, m54, rfl, e77, hst⟩
theorem i_attribute_Check_c1 (k : Nat) : I_attribute_Check_c1 k := by
  induction k using Nat.strongRecOn with
  | ind k ih => exact ⟨s_attribute_Check_c1 ih⟩
theorem c_attribute_Check_c1 {a0 : GPred} {a1 : Int} {a2 : Int} {r : Int × Int} (h : attribute_Check_c1 k a0 a1 a2 = some r) (hst : St g m (oo ob2 3 [vi a2] :: oo ob3 136 [vf 78 [] [vp ob2 0, vp ob3 0]] :: F) w) (hu0 : RS (TGPred) m (vs Au0 a0.Args cu0) a0.Args) :
    Calls Tryz.prog 78 ⟨[va (cGPred a0 (vs Au0 a0.Args cu0)), vi a1, vp ob2 0, vp ob3 0]⟩ w (OPost (R_attribute_Check_c1 g m F ob2 ob3) r) := (i_attribute_Check_c1 k).c_attribute_Check_c1 h hst hu0
abbrev R_attribute_Check := RInt
theorem c_attribute_Check {a0 : GPred} {r : Int} (h : attribute_Check k a0 = some r) (hst : St g m (F) w) (hu0 : RS (TGPred) m (vs Au0 a0.Args cu0) a0.Args) :
    Calls Tryz.prog 38 ⟨[va (cGPred a0 (vs Au0 a0.Args cu0))]⟩ w (OPost (R_attribute_Check g m F) r) := by
 refine calls_enter Tryz.func38 rfl rfl ?_
 unfold attribute_Check at h
 refine qr (bo_ (cGPred a0 (vs Au0 a0.Args cu0)) hst (fun b1 _ hst => ?_))
 refine s0 1 [vi 0] (nl (tn (qr (al [vi 0] hst (fun b2 _ hst => ?_)))))
 refine so0 0 [vi 0] hst (fun _ hst => ?_)
 refine nl (tn (qr (al [.nilFunc] hst (fun b3 _ hst => ?_))))
 refine nl (tn (qr (s0 1 [vf 78 [] [vp b2 0, vp b3 0]] (so0 0 [vf 78 [] [vp b2 0, vp b3 0]] hst (fun _ hst => ?_)))))
 refine nl (tn (qr (sg 2 [vf 78 [] [vp b2 0, vp b3 0], va (cGPred a0 (vs Au0 a0.Args cu0))] _ (AllC.app (hst.q 0 0 1) (hst.q 2 0 7)) ?_)))
 have hst := pk1 hst
 obtain ⟨r4, hq5, h⟩ := bs h
 refine cal (c_attribute_Check_c1 hq5 hst hu0) ?_
 rintro _ _ ⟨m6, rfl, hl7, hst⟩
 refine s0 1 [] (nl (tn (wp_ret (wr [vi r4.2] ?_))))
 have hst := pk27 hst
 cases h
 exact ⟨_, rfl, m6, rfl, hl7, hst⟩
abbrev R_syntax_CheckPred_c1 := RBool
theorem c_syntax_CheckPred_c1 {a0 : GPred} {r : Bool} (h : syntax_CheckPred_c1 a0 = some r) (hst : St g m (F) w) (hu0 : RS (TGPred) m (vs Au0 a0.Args cu0) a0.Args) :
    Calls Tryz.prog 72 ⟨[va (cGPred a0 (vs Au0 a0.Args cu0))]⟩ w (OPost (R_syntax_CheckPred_c1 g m F) r) := by
 refine calls_enter Tryz.func72 rfl rfl ?_
 unfold syntax_CheckPred_c1 at h
 refine qr (bo_ (cGPred a0 (vs Au0 a0.Args cu0)) hst (fun b1 _ hst => ?_))
 refine s0 1 [vb false] (nl (tn (qr (sg 4 [vp b1 0, vi a0.Op, vb (a0.Op == 1)] _ (hst.q 0 0 1) ?_))))
 rcases sp h with ⟨hc2, h⟩ | ⟨hc2, h⟩
 ·rw [hc2]
  refine sk 3 (sg 8 [vb true, vp b1 6, vs Au0 a0.Args cu0, vi ((a0.Args).length : Int), vb (decide (((a0.Args).length : Int) < 2)), vb (decide (((a0.Args).length : Int) < 2))] _ (hst.q 0 6 1) (nl (tn (wp_ret (wr [vb (decide (((a0.Args).length : Int) < 2))] ?_)))))
  have hst := pk0 hst
  cases h
  exact ⟨_, rfl, m, rfl, (Mem.le.refl _), hst⟩
 rw [hc2]
 refine sg 5 [vp b1 0, vi a0.Op, vb (a0.Op == 2), vb (a0.Op == 2)] _ (hst.q 0 0 1) ?_
 rcases sp h with ⟨hc3, h⟩ | ⟨hc3, h⟩
 ·rw [hc3]
  refine sg 6 [vp b1 6, vs Au0 a0.Args cu0, vi ((a0.Args).length : Int), vb (decide (((a0.Args).length : Int) < 2)), vb (decide (((a0.Args).length : Int) < 2))] _ (hst.q 0 6 1) (nl (tn (wp_ret (wr [vb (decide (((a0.Args).length : Int) < 2))] ?_))))
  have hst := pk0 hst
  cases h
  exact ⟨_, rfl, m, rfl, (Mem.le.refl _), hst⟩
 rw [hc3]
 refine sk 4 (s0 2 [vb false] (nl (tn (wp_ret (wr [vb false] ?_)))))
 have hst := pk0 hst
 have h := Option.some.inj h; subst h
 exact ⟨_, rfl, m, rfl, (Mem.le.refl _), hst⟩
abbrev R_syntax_inTree := RBool
def R_slices_ContainsFunc_api_Pred (g : World) (m : Mem) (F : List Asr) (ob1 : Nat) (r : Bool) (v : Value) (w' : World) : Prop := ∃ m', v = vb r ∧ m.le m' ∧ St g m' (oo ob1 132 [vf 72 [] []] :: F) w'
def R_slices_IndexFunc_api_Pred (g : World) (m : Mem) (F : List Asr) (ob1 : Nat) (r : Int) (v : Value) (w' : World) : Prop := ∃ m', v = vi r ∧ m.le m' ∧ St g m' (oo ob1 132 [vf 72 [] []] :: F) w'
def R_syntax_inTree_c1 (g : World) (m : Mem) (F : List Asr) (ob1 : Nat) (r : Bool) (v : Value) (w' : World) : Prop := ∃ m', v = vb r ∧ m.le m' ∧ St g m' (oo ob1 132 [vf 72 [] []] :: F) w'
structure I_syntax_inTree (k : Nat) : Prop where
  c_syntax_inTree : ∀ {a0 : GPred} {r : Bool} {g : World} {m : Mem} {F : List Asr} {w : World} {Au0 : Option Addr} {cu0 : Nat} (h : syntax_inTree k a0 = some r) (hst : St g m (F) w) (hu0 : RS (TGPred) m (vs Au0 a0.Args cu0) a0.Args),
    Calls Tryz.prog 71 ⟨[va (cGPred a0 (vs Au0 a0.Args cu0)), vf 72 [] []]⟩ w (OPost (R_syntax_inTree g m F) r)
  c_slices_ContainsFunc_api_Pred : ∀ {a0 : List GPred} {r : Bool} {g : World} {m : Mem} {F : List Asr} {w : World} {ob1 : Nat} {Au0 : Option Addr} {cu0 : Nat} (h : slices_ContainsFunc_api_Pred k a0 = some r) (hst : St g m (oo ob1 132 [vf 72 [] []] :: F) w) (hu0 : RS (TGPred) m (vs Au0 a0 cu0) a0),
    Calls Tryz.prog 146 ⟨[vs Au0 a0 cu0, vf 147 [] [vp ob1 0]]⟩ w (OPost (R_slices_ContainsFunc_api_Pred g m F ob1) r)
  c_slices_IndexFunc_api_Pred : ∀ {a0 : List GPred} {r : Int} {g : World} {m : Mem} {F : List Asr} {w : World} {ob1 : Nat} {Au0 : Option Addr} {cu0 : Nat} (h : slices_IndexFunc_api_Pred k a0 = some r) (hst : St g m (oo ob1 132 [vf 72 [] []] :: F) w) (hu0 : RS (TGPred) m (vs Au0 a0 cu0) a0),
    Calls Tryz.prog 169 ⟨[vs Au0 a0 cu0, vf 147 [] [vp ob1 0]]⟩ w (OPost (R_slices_IndexFunc_api_Pred g m F ob1) r)
  c_syntax_inTree_c1 : ∀ {a0 : GPred} {r : Bool} {g : World} {m : Mem} {F : List Asr} {w : World} {ob1 : Nat} {Au0 : Option Addr} {cu0 : Nat} (h : syntax_inTree_c1 k a0 = some r) (hst : St g m (oo ob1 132 [vf 72 [] []] :: F) w) (hu0 : RS (TGPred) m (vs Au0 a0.Args cu0) a0.Args),
    Calls Tryz.prog 147 ⟨[va (cGPred a0 (vs Au0 a0.Args cu0)), vp ob1 0]⟩ w (OPost (R_syntax_inTree_c1 g m F ob1) r)
theorem s_syntax_inTree (ih : ∀ j, j < k → I_syntax_inTree j) {a0 : GPred} {r : Bool} (h : syntax_inTree k a0 = some r) (hst : St g m (F) w) (hu0 : RS (TGPred) m (vs Au0 a0.Args cu0) a0.Args) :
    Calls Tryz.prog 71 ⟨[va (cGPred a0 (vs Au0 a0.Args cu0)), vf 72 [] []]⟩ w (OPost (R_syntax_inTree g m F) r) := by
 refine calls_enter Tryz.func71 rfl rfl ?_
 obtain _ | k1 := k
 ·simp [syntax_inTree] at h
 rw [syntax_inTree] at h
 refine qr (bo_ (cGPred a0 (vs Au0 a0.Args cu0)) hst (fun b1 _ hst => ?_))
 refine bo_ [vf 72 [] []] hst (fun b2 _ hst => ?_)
 refine s0 1 [vb false] (nl (tn (qr (sg 2 [vf 72 [] [], va (cGPred a0 (vs Au0 a0.Args cu0))] _ (AllC.app (hst.q 0 0 1) (hst.q 1 0 7)) ?_))))
 obtain ⟨r3, hq4, h⟩ := bs h
 refine cal (c_syntax_CheckPred_c1 hq4 hst hu0) ?_
 rintro _ _ ⟨m5, rfl, hl6, hst⟩
 refine s0 1 [] ?_
 rcases sp h with ⟨hc7, h⟩ | ⟨hc7, h⟩
 ·rw [hc7]
  refine sk 4 (s0 2 [vb true] (nl (tn (wp_ret (wr [vb true] ?_)))))
  have hst := pk2 hst
  have h := Option.some.inj h; subst h
  exact ⟨_, rfl, m5, rfl, hl6, hst⟩
 rw [hc7]
 refine sg 3 [vp b1 6, vs Au0 a0.Args cu0, vf 147 [] [vp b2 0]] _ (hst.q 1 6 1) ?_
 obtain ⟨r8, hq9, h⟩ := bs h
 refine cal ((ih k1 (by omega)).c_slices_ContainsFunc_api_Pred hq9 hst (RS.mono hl6 hu0)) ?_
 rintro _ _ ⟨m10, rfl, hl11, hst⟩
 refine s0 2 [vb r8] (nl (tn (wp_ret (wr [vb r8] ?_))))
 have hst := pk2 hst
 have e12 := hl6.trans hl11
 have h := Option.some.inj h; subst h
 exact ⟨_, rfl, m10, rfl, e12, hst⟩
theorem s_slices_ContainsFunc_api_Pred (ih : ∀ j, j < k → I_syntax_inTree j) {a0 : List GPred} {r : Bool} (h : slices_ContainsFunc_api_Pred k a0 = some r) (hst : St g m (oo ob1 132 [vf 72 [] []] :: F) w) (hu0 : RS (TGPred) m (vs Au0 a0 cu0) a0) :
    Calls Tryz.prog 146 ⟨[vs Au0 a0 cu0, vf 147 [] [vp ob1 0]]⟩ w (OPost (R_slices_ContainsFunc_api_Pred g m F ob1) r) := by
 refine calls_enter Tryz.func146 rfl rfl ?_
 obtain _ | k1 := k
 ·simp [slices_ContainsFunc_api_Pred] at h
 rw [slices_ContainsFunc_api_Pred] at h
 refine qr (s0 1 [vb false] (nl (tn (qr (s0 2 [] ?_)))))
 obtain ⟨r1, hq2, h⟩ := bs h
 refine cal ((ih k1 (by omega)).c_slices_IndexFunc_api_Pred hq2 hst hu0) ?_
 rintro _ _ ⟨m3, rfl, hl4, hst⟩
 refine s0 2 [vb (decide (r1 ≥ 0))] (nl (tn (wp_ret (wr [vb (decide (r1 ≥ 0))] ?_))))
 cases h
 exact ⟨_, rfl, m3, rfl, hl4, hst⟩
theorem s_slices_IndexFunc_api_Pred (ih : ∀ j, j < k → I_syntax_inTree j) {a0 : List GPred} {r : Int} (h : slices_IndexFunc_api_Pred k a0 = some r) (hst : St g m (oo ob1 132 [vf 72 [] []] :: F) w) (hu0 : RS (TGPred) m (vs Au0 a0 cu0) a0) :
    Calls Tryz.prog 169 ⟨[vs Au0 a0 cu0, vf 147 [] [vp ob1 0]]⟩ w (OPost (R_slices_IndexFunc_api_Pred g m F ob1) r) := by
 refine calls_enter Tryz.func169 rfl rfl ?_
 obtain _ | k1 := k
 ·simp [slices_IndexFunc_api_Pred] at h
 rw [slices_IndexFunc_api_Pred] at h
 refine qr (s0 1 [vi 0] (nl (tn (sq (qr (s0 3 [vi ((a0).length : Int), vi 0] (nl (tn (bk (wc_loop (fun kk a w => ∃ f0 m36 x16, a = act Tryz.f169.ntmps (upds f0 [(0, vs Au0 a0 cu0), (1, vf 147 [] [vp ob1 0]), (4, vi 0), (7, vi ((a0).length : Int)), (8, vi x16)]) ∧ kk ≤ k1 ∧ slices_IndexFunc_api_Pred_l1 kk a0 x16 = some r ∧ m.le m36 ∧ St g m36 (oo ob1 132 [vf 72 [] []] :: F) w) k1 ?_ ?_))))))))))
 ·exact ⟨_, m, (0), au, (Nat.le_refl _), h, (Mem.le.refl _), hst⟩
 rintro k34 ih35 _ _ ⟨f0, m36, x16, rfl, hk33, h, hl32, hst⟩
 obtain _ | k38 := k34
 ·simp [slices_IndexFunc_api_Pred_l1] at h
 rw [slices_IndexFunc_api_Pred_l1] at h
 refine qr (s0 1 [vb (decide (x16 < ((a0).length : Int)))] (nl (tn (sq (cn h (fun h => ?_) (fun h => ?_))))))
 ·refine wp_skip (tn (sq (bk (qr (s0 2 [] (nl (tn (qr (s0 3 [] ?_)))))))))
  obtain ⟨x40, hx41, h⟩ := ix h
  obtain ⟨b42, o43, cs44, hR45, hA46, hI47⟩ := RS.ix (P := Tryz.prog) (RS.mono hl32 hu0) hx41
  obtain ⟨Aq48, cq48, rfl, hq48⟩ := TGPred.opn hR45
  refine vl (hI47.r .i64) (sg 1 [va (cGPred x40 (vs Aq48 x40.Args cq48))] _ (hst.f hA46 0 7) ?_)
  obtain ⟨r49, hq50, h⟩ := bs h
  refine cal ((ih k38 (by omega)).c_syntax_inTree_c1 hq50 hst hq48) ?_
  rintro _ _ ⟨m51, rfl, hl52, hst⟩
  refine nl (tn (cn h (fun h => ?_) (fun h => ?_)))
  ·refine qr (s0 2 [] (nl (tn (wp_ret (br (tr (tr (br (tr (wr [vi x16] ?_))))))))))
   have e53 := hl32.trans hl52
   have h := Option.some.inj h; subst h
   exact ⟨_, rfl, m51, rfl, e53, hst⟩
  refine wp_skip (bn (tn (rg (s0 2 [vi (w64 (x16 + 1))] (nl (tn ?_))))))
  have e54 := hl32.trans hl52
  exact ih35 k38 (by omega) _ _ ⟨_, m51, (w64 (x16 + 1)), au, (by omega), h, e54, hst⟩
 refine wp_exit (tx (tx (bx (tn (qr (s0 1 [vi (-1)] (nl (tn (wp_ret (wr [vi (-1)] ?_))))))))))
 cases h
 exact ⟨_, rfl, m36, rfl, hl32, hst⟩
theorem s_syntax_inTree_c1 (ih : ∀ j, j < k → I_syntax_inTree j) {a0 : GPred} {r : Bool} (h : syntax_inTree_c1 k a0 = some r) (hst : St g m (oo ob1 132 [vf 72 [] []] :: F) w) (hu0 : RS (TGPred) m (vs Au0 a0.Args cu0) a0.Args) :
    Calls Tryz.prog 147 ⟨[va (cGPred a0 (vs Au0 a0.Args cu0)), vp ob1 0]⟩ w (OPost (R_syntax_inTree_c1 g m F ob1) r) := by
 refine calls_enter Tryz.func147 rfl rfl ?_
 obtain _ | k1 := k
 ·simp [syntax_inTree_c1] at h
 rw [syntax_inTree_c1] at h
 refine qr (bo_ (cGPred a0 (vs Au0 a0.Args cu0)) hst (fun b1 _ hst => ?_))
 refine s0 1 [vb false] (nl (tn (qr (sg 2 [va (cGPred a0 (vs Au0 a0.Args cu0)), vf 72 [] []] _ (AllC.app (hst.q 0 0 7) (hst.q 1 0 1)) ?_))))
 obtain ⟨r2, hq3, h⟩ := bs h
 refine cal ((ih k1 (by omega)).c_syntax_inTree hq3 hst hu0) ?_
 rintro _ _ ⟨m4, rfl, hl5, hst⟩
 refine s0 1 [] (nl (tn (wp_ret (wr [vb r2] ?_))))
 have hst := pk0 hst
 have h := Option.some.inj h; subst h
 exact ⟨_, rfl, m4, rfl, hl5, hst⟩
theorem i_syntax_inTree (k : Nat) : I_syntax_inTree k := by
  induction k using Nat.strongRecOn with
  | ind k ih => exact ⟨s_syntax_inTree ih, s_slices_ContainsFunc_api_Pred ih, s_slices_IndexFunc_api_Pred ih, s_syntax_inTree_c1 ih⟩
theorem c_syntax_inTree {a0 : GPred} {r : Bool} (h : syntax_inTree k a0 = some r) (hst : St g m (F) w) (hu0 : RS (TGPred) m (vs Au0 a0.Args cu0) a0.Args) :
    Calls Tryz.prog 71 ⟨[va (cGPred a0 (vs Au0 a0.Args cu0)), vf 72 [] []]⟩ w (OPost (R_syntax_inTree g m F) r) := (i_syntax_inTree k).c_syntax_inTree h hst hu0
theorem c_slices_ContainsFunc_api_Pred {a0 : List GPred} {r : Bool} (h : slices_ContainsFunc_api_Pred k a0 = some r) (hst : St g m (oo ob1 132 [vf 72 [] []] :: F) w) (hu0 : RS (TGPred) m (vs Au0 a0 cu0) a0) :
    Calls Tryz.prog 146 ⟨[vs Au0 a0 cu0, vf 147 [] [vp ob1 0]]⟩ w (OPost (R_slices_ContainsFunc_api_Pred g m F ob1) r) := (i_syntax_inTree k).c_slices_ContainsFunc_api_Pred h hst hu0
theorem c_slices_IndexFunc_api_Pred {a0 : List GPred} {r : Int} (h : slices_IndexFunc_api_Pred k a0 = some r) (hst : St g m (oo ob1 132 [vf 72 [] []] :: F) w) (hu0 : RS (TGPred) m (vs Au0 a0 cu0) a0) :
    Calls Tryz.prog 169 ⟨[vs Au0 a0 cu0, vf 147 [] [vp ob1 0]]⟩ w (OPost (R_slices_IndexFunc_api_Pred g m F ob1) r) := (i_syntax_inTree k).c_slices_IndexFunc_api_Pred h hst hu0
theorem c_syntax_inTree_c1 {a0 : GPred} {r : Bool} (h : syntax_inTree_c1 k a0 = some r) (hst : St g m (oo ob1 132 [vf 72 [] []] :: F) w) (hu0 : RS (TGPred) m (vs Au0 a0.Args cu0) a0.Args) :
    Calls Tryz.prog 147 ⟨[va (cGPred a0 (vs Au0 a0.Args cu0)), vp ob1 0]⟩ w (OPost (R_syntax_inTree_c1 g m F ob1) r) := (i_syntax_inTree k).c_syntax_inTree_c1 h hst hu0
abbrev R_syntax_CheckPred_c2 := RBool
theorem c_syntax_CheckPred_c2 {a0 : GPred} {r : Bool} (h : syntax_CheckPred_c2 k a0 = some r) (hst : St g m (F) w) (hu0 : RS (TGPred) m (vs Au0 a0.Args cu0) a0.Args) :
    Calls Tryz.prog 73 ⟨[va (cGPred a0 (vs Au0 a0.Args cu0))]⟩ w (OPost (R_syntax_CheckPred_c2 g m F) r) := by
 refine calls_enter Tryz.func73 rfl rfl ?_
 unfold syntax_CheckPred_c2 at h
 refine qr (bo_ (cGPred a0 (vs Au0 a0.Args cu0)) hst (fun b1 _ hst => ?_))
 refine s0 1 [vb false] (nl (tn (qr (sg 4 [vp b1 0, vi a0.Op, vb (decide (a0.Op ≥ 5))] _ (hst.q 0 0 1) ?_))))
 rcases sp h with ⟨hc2, h⟩ | ⟨hc2, h⟩
 ·rw [hc2]
  refine sg 2 [vp b1 1, vstr a0.Field] _ (hst.q 0 1 1) (vl (rne a0.Field w_attr) (s0 2 [vb (!(a0.Field == w_attr))] ?_))
  rcases sp h with ⟨hc3, h⟩ | ⟨hc3, h⟩
  ·rw [hc3]
   refine sg 2 [vp b1 1, vstr a0.Field] _ (hst.q 0 1 1) ?_
   obtain ⟨r4, hq5, h⟩ := bs h
   refine cal (c_syntax_IsField hq5 hst) ?_
   rintro _ _ ⟨m6, rfl, hl7, hst⟩
   refine s0 3 [vb (!r4), vb (!r4)] (nl (tn (wp_ret (wr [vb (!r4)] ?_))))
   have hst := pk0 hst
   cases h
   exact ⟨_, rfl, m6, rfl, hl7, hst⟩
  rw [hc3]
  refine sk 4 (s0 2 [vb false] (nl (tn (wp_ret (wr [vb false] ?_)))))
  have hst := pk0 hst
  have h := Option.some.inj h; subst h
  exact ⟨_, rfl, m, rfl, (Mem.le.refl _), hst⟩
 rw [hc2]
 refine sk 3 (s0 2 [vb false] (sk 4 (s0 2 [vb false] (nl (tn (wp_ret (wr [vb false] ?_)))))))
 have hst := pk0 hst
 have h := Option.some.inj h; subst h
 exact ⟨_, rfl, m, rfl, (Mem.le.refl _), hst⟩
abbrev R_syntax_inTree_i1 := RBool
def R_slices_ContainsFunc_api_Pred_i1 (g : World) (m : Mem) (F : List Asr) (ob1 : Nat) (r : Bool) (v : Value) (w' : World) : Prop := ∃ m', v = vb r ∧ m.le m' ∧ St g m' (oo ob1 132 [vf 73 [] []] :: F) w'
def R_slices_IndexFunc_api_Pred_i1 (g : World) (m : Mem) (F : List Asr) (ob1 : Nat) (r : Int) (v : Value) (w' : World) : Prop := ∃ m', v = vi r ∧ m.le m' ∧ St g m' (oo ob1 132 [vf 73 [] []] :: F) w'
def R_syntax_inTree_c1_i1 (g : World) (m : Mem) (F : List Asr) (ob1 : Nat) (r : Bool) (v : Value) (w' : World) : Prop := ∃ m', v = vb r ∧ m.le m' ∧ St g m' (oo ob1 132 [vf 73 [] []] :: F) w'
structure I_syntax_inTree_i1 (k : Nat) : Prop where
  c_syntax_inTree_i1 : ∀ {a0 : GPred} {r : Bool} {g : World} {m : Mem} {F : List Asr} {w : World} {Au0 : Option Addr} {cu0 : Nat} (h : syntax_inTree_i1 k a0 = some r) (hst : St g m (F) w) (hu0 : RS (TGPred) m (vs Au0 a0.Args cu0) a0.Args),
    Calls Tryz.prog 71 ⟨[va (cGPred a0 (vs Au0 a0.Args cu0)), vf 73 [] []]⟩ w (OPost (R_syntax_inTree_i1 g m F) r)
  c_slices_ContainsFunc_api_Pred_i1 : ∀ {a0 : List GPred} {r : Bool} {g : World} {m : Mem} {F : List Asr} {w : World} {ob1 : Nat} {Au0 : Option Addr} {cu0 : Nat} (h : slices_ContainsFunc_api_Pred_i1 k a0 = some r) (hst : St g m (oo ob1 132 [vf 73 [] []] :: F) w) (hu0 : RS (TGPred) m (vs Au0 a0 cu0) a0),
    Calls Tryz.prog 146 ⟨[vs Au0 a0 cu0, vf 147 [] [vp ob1 0]]⟩ w (OPost (R_slices_ContainsFunc_api_Pred_i1 g m F ob1) r)
  c_slices_IndexFunc_api_Pred_i1 : ∀ {a0 : List GPred} {r : Int} {g : World} {m : Mem} {F : List Asr} {w : World} {ob1 : Nat} {Au0 : Option Addr} {cu0 : Nat} (h : slices_IndexFunc_api_Pred_i1 k a0 = some r) (hst : St g m (oo ob1 132 [vf 73 [] []] :: F) w) (hu0 : RS (TGPred) m (vs Au0 a0 cu0) a0),
    Calls Tryz.prog 169 ⟨[vs Au0 a0 cu0, vf 147 [] [vp ob1 0]]⟩ w (OPost (R_slices_IndexFunc_api_Pred_i1 g m F ob1) r)
  c_syntax_inTree_c1_i1 : ∀ {a0 : GPred} {r : Bool} {g : World} {m : Mem} {F : List Asr} {w : World} {ob1 : Nat} {Au0 : Option Addr} {cu0 : Nat} (h : syntax_inTree_c1_i1 k a0 = some r) (hst : St g m (oo ob1 132 [vf 73 [] []] :: F) w) (hu0 : RS (TGPred) m (vs Au0 a0.Args cu0) a0.Args),
    Calls Tryz.prog 147 ⟨[va (cGPred a0 (vs Au0 a0.Args cu0)), vp ob1 0]⟩ w (OPost (R_syntax_inTree_c1_i1 g m F ob1) r)
theorem s_syntax_inTree_i1 (ih : ∀ j, j < k → I_syntax_inTree_i1 j) {a0 : GPred} {r : Bool} (h : syntax_inTree_i1 k a0 = some r) (hst : St g m (F) w) (hu0 : RS (TGPred) m (vs Au0 a0.Args cu0) a0.Args) :
    Calls Tryz.prog 71 ⟨[va (cGPred a0 (vs Au0 a0.Args cu0)), vf 73 [] []]⟩ w (OPost (R_syntax_inTree_i1 g m F) r) := by
 refine calls_enter Tryz.func71 rfl rfl ?_
 obtain _ | k1 := k
 ·simp [syntax_inTree_i1] at h
 rw [syntax_inTree_i1] at h
 refine qr (bo_ (cGPred a0 (vs Au0 a0.Args cu0)) hst (fun b1 _ hst => ?_))
 refine bo_ [vf 73 [] []] hst (fun b2 _ hst => ?_)
 refine s0 1 [vb false] (nl (tn (qr (sg 2 [vf 73 [] [], va (cGPred a0 (vs Au0 a0.Args cu0))] _ (AllC.app (hst.q 0 0 1) (hst.q 1 0 7)) ?_))))
 obtain ⟨r3, hq4, h⟩ := bs h
 refine cal (c_syntax_CheckPred_c2 hq4 hst hu0) ?_
 rintro _ _ ⟨m5, rfl, hl6, hst⟩
 refine s0 1 [] ?_
 rcases sp h with ⟨hc7, h⟩ | ⟨hc7, h⟩
 ·rw [hc7]
  refine sk 4 (s0 2 [vb true] (nl (tn (wp_ret (wr [vb true] ?_)))))
  have hst := pk2 hst
  have h := Option.some.inj h; subst h
  exact ⟨_, rfl, m5, rfl, hl6, hst⟩
 rw [hc7]
 refine sg 3 [vp b1 6, vs Au0 a0.Args cu0, vf 147 [] [vp b2 0]] _ (hst.q 1 6 1) ?_
 obtain ⟨r8, hq9, h⟩ := bs h
 refine cal ((ih k1 (by omega)).c_slices_ContainsFunc_api_Pred_i1 hq9 hst (RS.mono hl6 hu0)) ?_
 rintro _ _ ⟨m10, rfl, hl11, hst⟩
 refine s0 2 [vb r8] (nl (tn (wp_ret (wr [vb r8] ?_))))
 have hst := pk2 hst
 have e12 := hl6.trans hl11
 have h := Option.some.inj h; subst h
 exact ⟨_, rfl, m10, rfl, e12, hst⟩
theorem s_slices_ContainsFunc_api_Pred_i1 (ih : ∀ j, j < k → I_syntax_inTree_i1 j) {a0 : List GPred} {r : Bool} (h : slices_ContainsFunc_api_Pred_i1 k a0 = some r) (hst : St g m (oo ob1 132 [vf 73 [] []] :: F) w) (hu0 : RS (TGPred) m (vs Au0 a0 cu0) a0) :
    Calls Tryz.prog 146 ⟨[vs Au0 a0 cu0, vf 147 [] [vp ob1 0]]⟩ w (OPost (R_slices_ContainsFunc_api_Pred_i1 g m F ob1) r) := by
 refine calls_enter Tryz.func146 rfl rfl ?_
 obtain _ | k1 := k
 ·simp [slices_ContainsFunc_api_Pred_i1] at h
 rw [slices_ContainsFunc_api_Pred_i1] at h
 refine qr (s0 1 [vb false] (nl (tn (qr (s0 2 [] ?_)))))
 obtain ⟨r1, hq2, h⟩ := bs h
 refine cal ((ih k1 (by omega)).c_slices_IndexFunc_api_Pred_i1 hq2 hst hu0) ?_
 rintro _ _ ⟨m3, rfl, hl4, hst⟩
 refine s0 2 [vb (decide (r1 ≥ 0))] (nl (tn (wp_ret (wr [vb (decide (r1 ≥ 0))] ?_))))
 cases h
 exact ⟨_, rfl, m3, rfl, hl4, hst⟩
theorem s_slices_IndexFunc_api_Pred_i1 (ih : ∀ j, j < k → I_syntax_inTree_i1 j) {a0 : List GPred} {r : Int} (h : slices_IndexFunc_api_Pred_i1 k a0 = some r) (hst : St g m (oo ob1 132 [vf 73 [] []] :: F) w) (hu0 : RS (TGPred) m (vs Au0 a0 cu0) a0) :
    Calls Tryz.prog 169 ⟨[vs Au0 a0 cu0, vf 147 [] [vp ob1 0]]⟩ w (OPost (R_slices_IndexFunc_api_Pred_i1 g m F ob1) r) := by
 refine calls_enter Tryz.func169 rfl rfl ?_
 obtain _ | k1 := k
 ·simp [slices_IndexFunc_api_Pred_i1] at h
 rw [slices_IndexFunc_api_Pred_i1] at h
 refine qr (s0 1 [vi 0] (nl (tn (sq (qr (s0 3 [vi ((a0).length : Int), vi 0] (nl (tn (bk (wc_loop (fun kk a w => ∃ f0 m36 x16, a = act Tryz.f169.ntmps (upds f0 [(0, vs Au0 a0 cu0), (1, vf 147 [] [vp ob1 0]), (4, vi 0), (7, vi ((a0).length : Int)), (8, vi x16)]) ∧ kk ≤ k1 ∧ slices_IndexFunc_api_Pred_i1_l1 kk a0 x16 = some r ∧ m.le m36 ∧ St g m36 (oo ob1 132 [vf 73 [] []] :: F) w) k1 ?_ ?_))))))))))
 ·exact ⟨_, m, (0), au, (Nat.le_refl _), h, (Mem.le.refl _), hst⟩
 rintro k34 ih35 _ _ ⟨f0, m36, x16, rfl, hk33, h, hl32, hst⟩
 obtain _ | k38 := k34
 ·simp [slices_IndexFunc_api_Pred_i1_l1] at h
 rw [slices_IndexFunc_api_Pred_i1_l1] at h
 refine qr (s0 1 [vb (decide (x16 < ((a0).length : Int)))] (nl (tn (sq (cn h (fun h => ?_) (fun h => ?_))))))
 ·refine wp_skip (tn (sq (bk (qr (s0 2 [] (nl (tn (qr (s0 3 [] ?_)))))))))
  obtain ⟨x40, hx41, h⟩ := ix h
  obtain ⟨b42, o43, cs44, hR45, hA46, hI47⟩ := RS.ix (P := Tryz.prog) (RS.mono hl32 hu0) hx41
  obtain ⟨Aq48, cq48, rfl, hq48⟩ := TGPred.opn hR45
  refine vl (hI47.r .i64) (sg 1 [va (cGPred x40 (vs Aq48 x40.Args cq48))] _ (hst.f hA46 0 7) ?_)
  obtain ⟨r49, hq50, h⟩ := bs h
  refine cal ((ih k38 (by omega)).c_syntax_inTree_c1_i1 hq50 hst hq48) ?_
  rintro _ _ ⟨m51, rfl, hl52, hst⟩
  refine nl (tn (cn h (fun h => ?_) (fun h => ?_)))
  ·refine qr (s0 2 [] (nl (tn (wp_ret (br (tr (tr (br (tr (wr [vi x16] ?_))))))))))
   have e53 := hl32.trans hl52
   have h := Option.some.inj h; subst h
   exact ⟨_, rfl, m51, rfl, e53, hst⟩
  refine wp_skip (bn (tn (rg (s0 2 [vi (w64 (x16 + 1))] (nl (tn ?_))))))
  have e54 := hl32.trans hl52
  exact ih35 k38 (by omega) _ _ ⟨_, m51, (w64 (x16 + 1)), au, (by omega), h, e54, hst⟩
 refine wp_exit (tx (tx (bx (tn (qr (s0 1 [vi (-1)] (nl (tn (wp_ret (wr [vi (-1)] ?_))))))))))
 cases h
 exact ⟨_, rfl, m36, rfl, hl32, hst⟩
theorem s_syntax_inTree_c1_i1 (ih : ∀ j, j < k → I_syntax_inTree_i1 j) {a0 : GPred} {r : Bool} (h : syntax_inTree_c1_i1 k a0 = some r) (hst : St g m (oo ob1 132 [vf 73 [] []] :: F) w) (hu0 : RS (TGPred) m (vs Au0 a0.Args cu0) a0.Args) :
    Calls Tryz.prog 147 ⟨[va (cGPred a0 (vs Au0 a0.Args cu0)), vp ob1 0]⟩ w (OPost (R_syntax_inTree_c1_i1 g m F ob1) r) := by
 refine calls_enter Tryz.func147 rfl rfl ?_
 obtain _ | k1 := k
 ·simp [syntax_inTree_c1_i1] at h
 rw [syntax_inTree_c1_i1] at h
 refine qr (bo_ (cGPred a0 (vs Au0 a0.Args cu0)) hst (fun b1 _ hst => ?_))
 refine s0 1 [vb false] (nl (tn (qr (sg 2 [va (cGPred a0 (vs Au0 a0.Args cu0)), vf 73 [] []] _ (AllC.app (hst.q 0 0 7) (hst.q 1 0 1)) ?_))))
 obtain ⟨r2, hq3, h⟩ := bs h
 refine cal ((ih k1 (by omega)).c_syntax_inTree_i1 hq3 hst hu0) ?_
 rintro _ _ ⟨m4, rfl, hl5, hst⟩
 refine s0 1 [] (nl (tn (wp_ret (wr [vb r2] ?_))))
 have hst := pk0 hst
 have h := Option.some.inj h; subst h
 exact ⟨_, rfl, m4, rfl, hl5, hst⟩
theorem i_syntax_inTree_i1 (k : Nat) : I_syntax_inTree_i1 k := by
  induction k using Nat.strongRecOn with
  | ind k ih => exact ⟨s_syntax_inTree_i1 ih, s_slices_ContainsFunc_api_Pred_i1 ih, s_slices_IndexFunc_api_Pred_i1 ih, s_syntax_inTree_c1_i1 ih⟩
theorem c_syntax_inTree_i1 {a0 : GPred} {r : Bool} (h : syntax_inTree_i1 k a0 = some r) (hst : St g m (F) w) (hu0 : RS (TGPred) m (vs Au0 a0.Args cu0) a0.Args) :
    Calls Tryz.prog 71 ⟨[va (cGPred a0 (vs Au0 a0.Args cu0)), vf 73 [] []]⟩ w (OPost (R_syntax_inTree_i1 g m F) r) := (i_syntax_inTree_i1 k).c_syntax_inTree_i1 h hst hu0
theorem c_slices_ContainsFunc_api_Pred_i1 {a0 : List GPred} {r : Bool} (h : slices_ContainsFunc_api_Pred_i1 k a0 = some r) (hst : St g m (oo ob1 132 [vf 73 [] []] :: F) w) (hu0 : RS (TGPred) m (vs Au0 a0 cu0) a0) :
    Calls Tryz.prog 146 ⟨[vs Au0 a0 cu0, vf 147 [] [vp ob1 0]]⟩ w (OPost (R_slices_ContainsFunc_api_Pred_i1 g m F ob1) r) := (i_syntax_inTree_i1 k).c_slices_ContainsFunc_api_Pred_i1 h hst hu0
theorem c_slices_IndexFunc_api_Pred_i1 {a0 : List GPred} {r : Int} (h : slices_IndexFunc_api_Pred_i1 k a0 = some r) (hst : St g m (oo ob1 132 [vf 73 [] []] :: F) w) (hu0 : RS (TGPred) m (vs Au0 a0 cu0) a0) :
    Calls Tryz.prog 169 ⟨[vs Au0 a0 cu0, vf 147 [] [vp ob1 0]]⟩ w (OPost (R_slices_IndexFunc_api_Pred_i1 g m F ob1) r) := (i_syntax_inTree_i1 k).c_slices_IndexFunc_api_Pred_i1 h hst hu0
theorem c_syntax_inTree_c1_i1 {a0 : GPred} {r : Bool} (h : syntax_inTree_c1_i1 k a0 = some r) (hst : St g m (oo ob1 132 [vf 73 [] []] :: F) w) (hu0 : RS (TGPred) m (vs Au0 a0.Args cu0) a0.Args) :
    Calls Tryz.prog 147 ⟨[va (cGPred a0 (vs Au0 a0.Args cu0)), vp ob1 0]⟩ w (OPost (R_syntax_inTree_c1_i1 g m F ob1) r) := (i_syntax_inTree_i1 k).c_syntax_inTree_c1_i1 h hst hu0
abbrev R_syntax_CheckPred := RInt
theorem c_syntax_CheckPred {a0 : GPred} {r : Int} (h : syntax_CheckPred k a0 = some r) (hst : St g m (F) w) (hu0 : RS (TGPred) m (vs Au0 a0.Args cu0) a0.Args) :
    Calls Tryz.prog 34 ⟨[va (cGPred a0 (vs Au0 a0.Args cu0))]⟩ w (OPost (R_syntax_CheckPred g m F) r) := by
 refine calls_enter Tryz.func34 rfl rfl ?_
 unfold syntax_CheckPred at h
 refine qr (bo_ (cGPred a0 (vs Au0 a0.Args cu0)) hst (fun b1 _ hst => ?_))
 refine s0 1 [vi 0] (nl (tn (sq (qr (sg 1 [va (cGPred a0 (vs Au0 a0.Args cu0))] _ (hst.q 0 0 7) ?_)))))
 obtain ⟨r2, hq3, h⟩ := bs h
 refine cal (c_attribute_Check hq3 hst hu0) ?_
 rintro _ _ ⟨m4, rfl, hl5, hst⟩
 refine s0 1 [] (nl (tn (qr (s0 2 [vb (r2 != 0)] (nl (tn (cn h (fun h => ?_) (fun h => ?_))))))))
 ·refine qr (s0 2 [] (nl (tn (wp_ret (tr (wr [vi r2] ?_))))))
  have hst := pk0 hst
  have h := Option.some.inj h; subst h
  exact ⟨_, rfl, m4, rfl, hl5, hst⟩
 refine wp_skip (tn (sq (qr (sg 1 [va (cGPred a0 (vs Au0 a0.Args cu0))] _ (hst.q 0 0 7) ?_))))
 obtain ⟨r6, hq7, h⟩ := bs h
 refine cal (c_syntax_inTree hq7 hst (RS.mono hl5 hu0)) ?_
 rintro _ _ ⟨m8, rfl, hl9, hst⟩
 refine nl (tn (cn h (fun h => ?_) (fun h => ?_)))
 ·refine qr (s0 1 [vi 3] (nl (tn (wp_ret (tr (wr [vi 3] ?_))))))
  have hst := pk0 hst
  have e10 := hl5.trans hl9
  have h := Option.some.inj h; subst h
  exact ⟨_, rfl, m8, rfl, e10, hst⟩
 refine wp_skip (tn (sq (qr (sg 1 [va (cGPred a0 (vs Au0 a0.Args cu0))] _ (hst.q 0 0 7) ?_))))
 have e11 := hl5.trans hl9
 obtain ⟨r12, hq13, h⟩ := bs h
 refine cal (c_syntax_inTree_i1 hq13 hst (RS.mono e11 hu0)) ?_
 rintro _ _ ⟨m14, rfl, hl15, hst⟩
 refine nl (tn (cn h (fun h => ?_) (fun h => ?_)))
 ·refine qr (s0 1 [vi 11] (nl (tn (wp_ret (tr (wr [vi 11] ?_))))))
  have hst := pk0 hst
  have e16 := e11.trans hl15
  have h := Option.some.inj h; subst h
  exact ⟨_, rfl, m14, rfl, e16, hst⟩
 refine wp_skip (tn (qr (s0 1 [vi 0] (nl (tn (wp_ret (wr [vi 0] ?_)))))))
 have hst := pk0 hst
 have e17 := e11.trans hl15
 have h := Option.some.inj h; subst h
 exact ⟨_, rfl, m14, rfl, e17, hst⟩
abbrev R_syntax_isRelation := RBool
theorem c_syntax_isRelation {a0 : Int} {r : Bool} (h : syntax_isRelation a0 = some r) (hst : St g m (F) w) (hG : Glob m) :
    Calls Tryz.prog 139 ⟨[vi a0]⟩ w (OPost (R_syntax_isRelation g m F) r) := by
 refine calls_enter Tryz.func139 rfl rfl ?_
 unfold syntax_isRelation at h
 refine qr (s0 1 [vb false] (nl (tn (qr (s0 3 [vb (decide (a0 ≥ 1))] ?_)))))
 rcases sp h with ⟨hc1, h⟩ | ⟨hc1, h⟩
 ·rw [hc1]
  obtain ⟨v2, hA3, hv4⟩ := hG.r
  obtain ⟨A5, c6, rfl⟩ := hv4.shape
  refine sg 6 [vs A5 namesR c6, vi ((namesR).length : Int), vb (decide (a0 < ((namesR).length : Int))), vb (decide (a0 < ((namesR).length : Int)))] _ (hst.f hA3 0 1) (nl (tn (wp_ret (wr [vb (decide (a0 < ((namesR).length : Int)))] ?_))))
  cases h
  exact ⟨_, rfl, m, rfl, (Mem.le.refl _), hst⟩
 rw [hc1]
 refine sk 4 (s0 2 [vb false] (nl (tn (wp_ret (wr [vb false] ?_)))))
 have h := Option.some.inj h; subst h
 exact ⟨_, rfl, m, rfl, (Mem.le.refl _), hst⟩
abbrev R_syntax_checkPattern := RInt
theorem c_syntax_checkPattern {a0 : GQuery} {r : Int} (h : syntax_checkPattern k a0 = some r) (hst : St g m (F) w) (hu0 : RS (TGVariable) m (vs Au0 a0.Variables cu0) a0.Variables) (hu1 : RS (TGRelation) m (vs Au1 a0.Relations cu1) a0.Relations) (hu2 : RS (TGAbsence) m (vs Au2 a0.Absences cu2) a0.Absences) (hu3 : RS (TGColumn) m (vs Au3 a0.Group cu3) a0.Group) (hu4 : RS (TGAggregate) m (vs Au4 a0.Compute cu4) a0.Compute) (hu5 : RS (TGOrderKey) m (vs Au5 a0.Order cu5) a0.Order) (hG : Glob m) :
    Calls Tryz.prog 66 ⟨[va (cGQuery a0 (vs Au0 a0.Variables cu0) (vs Au1 a0.Relations cu1) (vs Au2 a0.Absences cu2) (vs Au3 a0.Group cu3) (vs Au4 a0.Compute cu4) (vs Au5 a0.Order cu5))]⟩ w (OPost (R_syntax_checkPattern g m F) r) := by
 refine calls_enter Tryz.func66 rfl rfl ?_
 unfold syntax_checkPattern at h
 refine qr (bo_ (cGQuery a0 (vs Au0 a0.Variables cu0) (vs Au1 a0.Relations cu1) (vs Au2 a0.Absences cu2) (vs Au3 a0.Group cu3) (vs Au4 a0.Compute cu4) (vs Au5 a0.Order cu5)) hst (fun b1 _ hst => ?_))
 refine s0 1 [vi 0] (nl (tn (sq (qr (sg 4 [vp b1 0, vs Au0 a0.Variables cu0, vi ((a0.Variables).length : Int), vb (((a0.Variables).length : Int) == 0)] _ (hst.q 0 0 1) (nl (tn (cn h (fun h => ?_) (fun h => ?_)))))))))
 ·refine qr (s0 1 [vi 7] (nl (tn (wp_ret (tr (wr [vi 7] ?_))))))
  have hst := pk0 hst
  have h := Option.some.inj h; subst h
  exact ⟨_, rfl, m, rfl, (Mem.le.refl _), hst⟩
 refine wp_skip (tn (sq (qr (sg 4 [vp b1 0, vs Au0 a0.Variables cu0, vi ((a0.Variables).length : Int), vi 0] _ (hst.q 0 0 1) (nl (tn (bk (wc_loop (fun kk a w => ∃ f0 m127 x98, a = act Tryz.f66.ntmps (upds f0 [(1, vp b1 0), (2, vi 0), (16, vs Au0 a0.Variables cu0), (17, vi ((a0.Variables).length : Int)), (18, vi x98)]) ∧ kk ≤ k ∧ syntax_checkPattern_l1 kk a0 x98 = some r ∧ m.le m127 ∧ St g m127 (oo b1 36 (cGQuery a0 (vs Au0 a0.Variables cu0) (vs Au1 a0.Relations cu1) (vs Au2 a0.Absences cu2) (vs Au3 a0.Group cu3) (vs Au4 a0.Compute cu4) (vs Au5 a0.Order cu5)) :: F) w) k ?_ ?_))))))))
 ·exact ⟨_, m, (0), au, (Nat.le_refl _), h, (Mem.le.refl _), hst⟩
 rintro k125 ih126 _ _ ⟨f0, m127, x98, rfl, hk124, h, hl123, hst⟩
 obtain _ | k129 := k125
 ·simp [syntax_checkPattern_l1] at h
 rw [syntax_checkPattern_l1] at h
 refine qr (s0 1 [vb (decide (x98 < ((a0.Variables).length : Int)))] (nl (tn (sq (cn h (fun h => ?_) (fun h => ?_))))))
 ·refine wp_skip (tn (sq (bk (qr ?_))))
  obtain ⟨x131, hx132, h⟩ := ix h
  obtain ⟨b133, o134, cs135, hR136, hA137, hI138⟩ := RS.ix (P := Tryz.prog) (RS.mono hl123 hu0) hx132
  obtain ⟨Aq139, cq139, rfl, hq139⟩ := TGVariable.opn hR136
  refine vl (hI138.r .i64) (sg 1 [va (cGVariable x131 (vs Aq139 x131.Where.Args cq139))] _ (hst.f hA137 0 8) (al [vstr w_0, vi 0, vstr w_0, vstr w_0, vi 0, vstr w_0, vi 0, vn] hst (fun b140 _ hst => ?_)))
  refine so0 0 (cGVariable x131 (vs Aq139 x131.Where.Args cq139)) hst (fun _ hst => ?_)
  refine nl (tn (sq (qr (sg 2 [vp b140 0, vstr x131.Name] _ (hst.q 0 0 1) ?_))))
  obtain ⟨r145, hq146, h⟩ := bs h
  refine cal (c_syntax_IsVariable hq146 hst (Glob.mono hl123 hG)) ?_
  rintro _ _ ⟨m147, rfl, hl148, hst⟩
  refine s0 1 [vb (!r145)] (nl (tn (cn h (fun h => ?_) (fun h => ?_))))
  ·refine qr (s0 1 [vi 11] (nl (tn (wp_ret (tr (br (tr (tr (br (tr (wr [vi 11] ?_)))))))))))
   have hst := pk2 hst
   have e149 := hl123.trans hl148
   have h := Option.some.inj h; subst h
   exact ⟨_, rfl, m147, rfl, e149, hst⟩
  refine wp_skip (tn (qr (sg 2 [vp b140 1, va (cGPred x131.Where (vs Aq139 x131.Where.Args cq139))] _ (hst.q 0 1 7) ?_)))
  obtain ⟨r150, hq151, h⟩ := bs h
  refine cal (c_syntax_CheckPred hq151 hst (RS.mono hl148 hq139)) ?_
  rintro _ _ ⟨m152, rfl, hl153, hst⟩
  refine s0 1 [] (nl (tn (qr (s0 2 [vb (r150 != 0)] (nl (tn (cn h (fun h => ?_) (fun h => ?_))))))))
  ·refine qr (s0 2 [] (nl (tn (wp_ret (br (tr (tr (br (tr (wr [vi r150] ?_))))))))))
   have hst := pk2 hst
   have e154 := hl123.trans (hl148.trans hl153)
   have h := Option.some.inj h; subst h
   exact ⟨_, rfl, m152, rfl, e154, hst⟩
  refine wp_skip (bn (tn (rg (s0 2 [vi (w64 (x98 + 1))] (nl (tn ?_))))))
  have e155 := hl123.trans (hl148.trans hl153)
  have hst := pk0 hst
  exact ih126 k129 (by omega) _ _ ⟨_, m152, (w64 (x98 + 1)), au, (by omega), h, e155, hst⟩
 refine wp_exit (tx (tx (bx (tn (sq (qr (sg 4 [vp b1 1, vs Au1 a0.Relations cu1, vi ((a0.Relations).length : Int), vi 0] _ (hst.q 0 1 1) (nl (tn (bk (wc_loop (fun kk a w => ∃ f0 m291 x260, a = act Tryz.f66.ntmps (upds f0 [(1, vp b1 0), (2, vi 0), (34, vs Au1 a0.Relations cu1), (35, vi ((a0.Relations).length : Int)), (36, vi x260)]) ∧ kk ≤ k129 ∧ syntax_checkPattern_l2 kk a0 x260 = some r ∧ m127.le m291 ∧ St g m291 (oo b1 36 (cGQuery a0 (vs Au0 a0.Variables cu0) (vs Au1 a0.Relations cu1) (vs Au2 a0.Absences cu2) (vs Au3 a0.Group cu3) (vs Au4 a0.Compute cu4) (vs Au5 a0.Order cu5)) :: F) w) k129 ?_ ?_)))))))))))
 ·exact ⟨_, m127, (0), au, (Nat.le_refl _), h, (Mem.le.refl _), hst⟩
 rintro k289 ih290 _ _ ⟨f0, m291, x260, rfl, hk288, h, hl287, hst⟩
 obtain _ | k293 := k289
 ·simp [syntax_checkPattern_l2] at h
 rw [syntax_checkPattern_l2] at h
 refine qr (s0 1 [vb (decide (x260 < ((a0.Relations).length : Int)))] (nl (tn (sq (cn h (fun h => ?_) (fun h => ?_))))))
 ·refine wp_skip (tn (sq (bk (qr ?_))))
  obtain ⟨x295, hx296, h⟩ := ix h
  have e303 := hl123.trans hl287
  obtain ⟨b297, o298, cs299, hR300, hA301, hI302⟩ := RS.ix (P := Tryz.prog) (RS.mono e303 hu1) hx296
  obtain rfl := TGRelation.open_ hR300
  refine vl (hI302.r .i64) (sg 1 [va (cGRelation x295)] _ (hst.f hA301 0 3) (al [vi 0, vstr w_0, vstr w_0] hst (fun b304 _ hst => ?_)))
  refine so0 0 (cGRelation x295) hst (fun _ hst => ?_)
  refine nl (tn (bk (qr (sg 2 [vp b304 0, vi x295.Kind] _ (hst.q 0 0 1) ?_))))
  obtain ⟨r305, hq306, h⟩ := bs h
  refine cal (c_syntax_isRelation hq306 hst (Glob.mono e303 hG)) ?_
  rintro _ _ ⟨m307, rfl, hl308, hst⟩
  refine s0 2 [vb (!r305)] (nl (tn (cn h (fun h => ?_) (fun h => ?_))))
  ·refine qr (s0 1 [vi 12] (nl (tn (wp_ret (br (br (tr (tr (br (tr (wr [vi 12] ?_)))))))))))
   have hst := pk2 hst
   have e309 := e303.trans hl308
   have h := Option.some.inj h; subst h
   exact ⟨_, rfl, m307, rfl, e309, hst⟩
  refine qr (sg 2 [vp b304 1, vstr x295.A] _ (hst.q 0 1 1) ?_)
  have e314 := e303.trans hl308
  obtain ⟨r310, hq311, h⟩ := bs h
  refine cal (c_syntax_IsVariable hq311 hst (Glob.mono e314 hG)) ?_
  rintro _ _ ⟨m312, rfl, hl313, hst⟩
  refine s0 2 [vb (!r310)] ?_
  rcases sp h with ⟨hc315, h⟩ | ⟨hc315, h⟩
  ·rw [hc315]
   refine sk 4 (s0 2 [vb true] (nl (tn (ct (qr (s0 1 [vi 11] (nl (tn (wp_ret (br (br (tr (tr (br (tr (wr [vi 11] ?_))))))))))))))))
   have hst := pk2 hst
   have e316 := e314.trans hl313
   have h := Option.some.inj h; subst h
   exact ⟨_, rfl, m312, rfl, e316, hst⟩
  rw [hc315]
  refine sg 2 [vp b304 2, vstr x295.B] _ (hst.q 0 2 1) ?_
  have e321 := e314.trans hl313
  obtain ⟨r317, hq318, h⟩ := bs h
  refine cal (c_syntax_IsVariable hq318 hst (Glob.mono e321 hG)) ?_
  rintro _ _ ⟨m319, rfl, hl320, hst⟩
  refine s0 3 [vb (!r317), vb (!r317)] (nl (tn (cn h (fun h => ?_) (fun h => ?_))))
  ·refine qr (s0 1 [vi 11] (nl (tn (wp_ret (br (br (tr (tr (br (tr (wr [vi 11] ?_)))))))))))
   have hst := pk2 hst
   have e322 := e321.trans hl320
   have h := Option.some.inj h; subst h
   exact ⟨_, rfl, m319, rfl, e322, hst⟩
  refine wp_skip (bn (bn (tn (rg (s0 2 [vi (w64 (x260 + 1))] (nl (tn ?_)))))))
  have e323 := hl287.trans (hl308.trans (hl313.trans hl320))
  have hst := pk0 hst
  exact ih290 k293 (by omega) _ _ ⟨_, m319, (w64 (x260 + 1)), au, (by omega), h, e323, hst⟩
 refine wp_exit (tx (tx (bx (tn (sq (qr (sg 4 [vp b1 2, vs Au2 a0.Absences cu2, vi ((a0.Absences).length : Int), vi 0] _ (hst.q 0 2 1) (nl (tn (bk ?_))))))))))
 have hst := pk0 hst
 refine wc_loop (fun kk a w => ∃ f0 m407 x363, a = act Tryz.f66.ntmps (upds f0 [(2, vi 0), (58, vs Au2 a0.Absences cu2), (59, vi ((a0.Absences).length : Int)), (60, vi x363)]) ∧ kk ≤ k293 ∧ syntax_checkPattern_l3 kk a0 x363 = some r ∧ m291.le m407 ∧ St g m407 (F) w) k293 ?_ ?_
 ·exact ⟨_, m291, (0), au, (Nat.le_refl _), h, (Mem.le.refl _), hst⟩
 rintro k405 ih406 _ _ ⟨f0, m407, x363, rfl, hk404, h, hl403, hst⟩
 obtain _ | k409 := k405
 ·simp [syntax_checkPattern_l3] at h
 rw [syntax_checkPattern_l3] at h
 refine qr (s0 1 [vb (decide (x363 < ((a0.Absences).length : Int)))] (nl (tn (sq (cn h (fun h => ?_) (fun h => ?_))))))
 ·refine wp_skip (tn (sq (bk (qr ?_))))
  obtain ⟨x411, hx412, h⟩ := ix h
  have e419 := hl123.trans (hl287.trans hl403)
  obtain ⟨b413, o414, cs415, hR416, hA417, hI418⟩ := RS.ix (P := Tryz.prog) (RS.mono e419 hu2) hx412
  obtain ⟨Aq420, cq420, rfl, hq420⟩ := TGAbsence.opn hR416
  refine vl (hI418.r .i64) (sg 1 [va (cGAbsence x411 (vs Aq420 x411.Variable.Where.Args cq420))] _ (hst.f hA417 0 11) (al [vstr w_0, vi 0, vstr w_0, vstr w_0, vi 0, vstr w_0, vi 0, vn, vi 0, vstr w_0, vb false] hst (fun b421 _ hst => ?_)))
  refine so0 0 (cGAbsence x411 (vs Aq420 x411.Variable.Where.Args cq420)) hst (fun _ hst => ?_)
  refine nl (tn (sq (qr (sg 3 [vp b421 0, vp b421 0, vstr x411.Variable.Name] _ (hst.q 0 0 1) ?_))))
  obtain ⟨r426, hq427, h⟩ := bs h
  refine cal (c_syntax_IsVariable hq427 hst (Glob.mono e419 hG)) ?_
  rintro _ _ ⟨m428, rfl, hl429, hst⟩
  refine s0 1 [vb (!r426)] (nl (tn (cn h (fun h => ?_) (fun h => ?_))))
  ·refine qr (s0 1 [vi 11] (nl (tn (wp_ret (tr (br (tr (tr (br (tr (wr [vi 11] ?_)))))))))))
   have hst := pk0 hst
   have e430 := e419.trans hl429
   have h := Option.some.inj h; subst h
   exact ⟨_, rfl, m428, rfl, e430, hst⟩
  refine wp_skip (tn (sq (qr (sg 3 [vp b421 0, vp b421 1, va (cGPred x411.Variable.Where (vs Aq420 x411.Variable.Where.Args cq420))] _ (hst.q 0 1 7) ?_))))
  obtain ⟨r435, hq436, h⟩ := bs h
  refine cal (c_syntax_CheckPred hq436 hst (RS.mono hl429 hq420)) ?_
  rintro _ _ ⟨m437, rfl, hl438, hst⟩
  refine s0 1 [] (nl (tn (qr (s0 2 [vb (r435 != 0)] (nl (tn (cn h (fun h => ?_) (fun h => ?_))))))))
  ·refine qr (s0 2 [] (nl (tn (wp_ret (tr (br (tr (tr (br (tr (wr [vi r435] ?_)))))))))))
   have hst := pk0 hst
   have e439 := e419.trans (hl429.trans hl438)
   have h := Option.some.inj h; subst h
   exact ⟨_, rfl, m437, rfl, e439, hst⟩
  refine wp_skip (tn (bk (qr (sg 2 [vp b421 8, vi x411.Kind] _ (hst.q 0 8 1) ?_))))
  have e444 := e419.trans (hl429.trans hl438)
  obtain ⟨r440, hq441, h⟩ := bs h
  refine cal (c_syntax_isRelation hq441 hst (Glob.mono e444 hG)) ?_
  rintro _ _ ⟨m442, rfl, hl443, hst⟩
  refine s0 2 [vb (!r440)] (nl (tn (cn h (fun h => ?_) (fun h => ?_))))
  ·refine qr (s0 1 [vi 12] (nl (tn (wp_ret (br (br (tr (tr (br (tr (wr [vi 12] ?_)))))))))))
   have hst := pk0 hst
   have e445 := e444.trans hl443
   have h := Option.some.inj h; subst h
   exact ⟨_, rfl, m442, rfl, e445, hst⟩
  refine qr (sg 2 [vp b421 9, vstr x411.Other] _ (hst.q 0 9 1) ?_)
  have e450 := e444.trans hl443
  obtain ⟨r446, hq447, h⟩ := bs h
  refine cal (c_syntax_IsVariable hq447 hst (Glob.mono e450 hG)) ?_
  rintro _ _ ⟨m448, rfl, hl449, hst⟩
  refine s0 2 [vb (!r446)] (nl (tn (cn h (fun h => ?_) (fun h => ?_))))
  ·refine qr (s0 1 [vi 11] (nl (tn (wp_ret (br (br (tr (tr (br (tr (wr [vi 11] ?_)))))))))))
   have hst := pk0 hst
   have e451 := e450.trans hl449
   have h := Option.some.inj h; subst h
   exact ⟨_, rfl, m448, rfl, e451, hst⟩
  refine wp_skip (bn (bn (tn (rg (s0 2 [vi (w64 (x363 + 1))] (nl (tn ?_)))))))
  have e452 := hl403.trans (hl429.trans (hl438.trans (hl443.trans hl449)))
  have hst := pk0 hst
  exact ih406 k409 (by omega) _ _ ⟨_, m448, (w64 (x363 + 1)), au, (by omega), h, e452, hst⟩
 refine wp_exit (tx (tx (bx (tn (qr (s0 1 [vi 0] (nl (tn (wp_ret (wr [vi 0] ?_))))))))))
 have e453 := hl123.trans (hl287.trans hl403)
 have h := Option.some.inj h; subst h
 exact ⟨_, rfl, m407, rfl, e453, hst⟩
abbrev R_syntax_isColumn := RBool
theorem c_syntax_isColumn {a0 : GColumn} {r : Bool} (h : syntax_isColumn k a0 = some r) (hst : St g m (F) w) (hG : Glob m) :
    Calls Tryz.prog 140 ⟨[va (cGColumn a0)]⟩ w (OPost (R_syntax_isColumn g m F) r) := by
 refine calls_enter Tryz.func140 rfl rfl ?_
 unfold syntax_isColumn at h
 refine qr (bo_ (cGColumn a0) hst (fun b1 _ hst => ?_))
 refine s0 1 [vb false] (nl (tn (sq (qr (sg 2 [vp b1 0, vstr a0.Var] _ (hst.q 0 0 1) ?_)))))
 obtain ⟨r6, hq7, h⟩ := bs h
 refine cal (c_syntax_IsVariable hq7 hst hG) ?_
 rintro _ _ ⟨m8, rfl, hl9, hst⟩
 refine s0 1 [vb (!r6)] (nl (tn (cn h (fun h => ?_) (fun h => ?_))))
 ·refine qr (s0 1 [vb false] (nl (tn (wp_ret (tr (wr [vb false] ?_))))))
  have hst := pk0 hst
  have h := Option.some.inj h; subst h
  exact ⟨_, rfl, m8, rfl, hl9, hst⟩
 refine wp_skip (tn (sq (qr (sg 2 [vp b1 1, vstr a0.Field] _ (hst.q 0 1 1) (vl (re a0.Field w_attr) (nl (tn (cn h (fun h => ?_) (fun h => ?_)))))))))
 ·refine qr (sg 2 [vp b1 2, vstr a0.Key] _ (hst.q 0 2 1) ?_)
  obtain ⟨r14, hq15, h⟩ := bs h
  refine cal (c_attribute_IsName hq15 hst) ?_
  rintro _ _ ⟨m16, rfl, hl17, hst⟩
  refine s0 1 [] (nl (tn (wp_ret (tr (wr [vb r14] ?_)))))
  have hst := pk0 hst
  have e18 := hl9.trans hl17
  have h := Option.some.inj h; subst h
  exact ⟨_, rfl, m16, rfl, e18, hst⟩
 refine wp_skip (tn (qr (sg 2 [vp b1 1, vstr a0.Field] _ (hst.q 0 1 1) ?_)))
 obtain ⟨r19, hq20, h⟩ := bs h
 refine cal (c_syntax_IsField hq20 hst) ?_
 rintro _ _ ⟨m21, rfl, hl22, hst⟩
 refine s0 1 [] ?_
 rcases sp h with ⟨hc23, h⟩ | ⟨hc23, h⟩
 ·rw [hc23]
  refine sg 2 [vp b1 2, vstr a0.Key] _ (hst.q 0 2 1) (vl (re a0.Key w_0) (s0 2 [vb (a0.Key == w_0)] (nl (tn (wp_ret (wr [vb (a0.Key == w_0)] ?_))))))
  have hst := pk0 hst
  have e24 := hl9.trans hl22
  cases h
  exact ⟨_, rfl, m21, rfl, e24, hst⟩
 rw [hc23]
 refine sk 3 (s0 2 [vb false] (nl (tn (wp_ret (wr [vb false] ?_)))))
 have hst := pk0 hst
 have e25 := hl9.trans hl22
 have h := Option.some.inj h; subst h
 exact ⟨_, rfl, m21, rfl, e25, hst⟩
abbrev R_syntax_checkAggregate := RInt
theorem c_syntax_checkAggregate {a0 : GAggregate} {r : Int} (h : syntax_checkAggregate k a0 = some r) (hst : St g m (F) w) (hG : Glob m) :
    Calls Tryz.prog 141 ⟨[va (cGAggregate a0)]⟩ w (OPost (R_syntax_checkAggregate g m F) r) := by
 refine calls_enter Tryz.func141 rfl rfl ?_
 unfold syntax_checkAggregate at h
 refine qr (bo_ (cGAggregate a0) hst (fun b1 _ hst => ?_))
 refine s0 1 [vi 0] (nl (tn (sq (dr false (fun x => Rd m (oo b1 110 (cGAggregate a0) :: []) x) ?_))))
 have hst := hst.drew
 refine gs [0, 3, 1, 4, 2, 5, 6] [vp b1 0, vp b1 0, vi a0.Kind, vi a0.Kind, vb (decide (a0.Kind ≤ 3)), vb (a0.Kind == 7)] _ 1 (pqt pqb) (hst.rd.with_ 0 rfl (hst.rd.none_)) (fun x hx => (AllC.app (hx.q 0 0 1) (hx.q 0 0 1))) ?_
 refine ge 7 rfl (sg 1 [] [] trivial (nl (tn (⟨_, fun _ h => h, .inl ⟨rfl, allListed_of _ (by kernel_rfl)⟩, ?_⟩))))
 refine gd (tn (sq (bk (wc_join (fun a w => ∃ f0 k10 m12 x8, a = act Tryz.f141.ntmps (upds f0 [(1, vp b1 0), (2, vi 0), (3, vb (decide (a0.Kind ≤ 3))), (4, vb (a0.Kind == 7)), (11, vb x8)]) ∧ k10 ≤ k ∧ syntax_checkAggregate_j1 k10 a0 x8 = some r ∧ m.le m12 ∧ St g m12 (oo b1 110 (cGAggregate a0) :: F) w) ?_ ?_))))
 ·rintro _ _ ⟨f0, k10, m12, x8, rfl, hk11, h, hl9, hst⟩
  unfold syntax_checkAggregate_j1 at h
  refine cn h (fun h => ?_) (fun h => ?_)
  ·refine qr (s0 1 [vi 12] (nl (tn (wp_ret (br (tr (wr [vi 12] ?_)))))))
   have hst := pk0 hst
   have h := Option.some.inj h; subst h
   exact ⟨_, rfl, m12, rfl, hl9, hst⟩
  refine wc_join (fun a w => ∃ f0 k20 m22 x17 x18, a = act Tryz.f141.ntmps (upds f0 [(1, vp b1 0), (2, vi 0), (3, vb x17), (4, vb (a0.Kind == 7)), (22, vb x18)]) ∧ k20 ≤ k10 ∧ syntax_checkAggregate_j2 k20 a0 x17 x18 = some r ∧ m12.le m22 ∧ St g m22 (oo b1 110 (cGAggregate a0) :: F) w) ?_ ?_
  ·rintro _ _ ⟨f0, k20, m22, x17, x18, rfl, hk21, h, hl19, hst⟩
   unfold syntax_checkAggregate_j2 at h
   refine cn h (fun h => ?_) (fun h => ?_)
   ·refine qr (s0 1 [vi 3] (nl (tn (wp_ret (br (tr (wr [vi 3] ?_)))))))
    have hst := pk0 hst
    have e23 := hl9.trans hl19
    have h := Option.some.inj h; subst h
    exact ⟨_, rfl, m22, rfl, e23, hst⟩
   refine wc_join (fun a w => ∃ f0 m34 x30, a = act Tryz.f141.ntmps (upds f0 [(1, vp b1 0), (2, vi 0), (4, vb (a0.Kind == 7)), (40, vb x30)]) ∧ syntax_checkAggregate_j3 a0 x30 = some r ∧ m22.le m34 ∧ St g m34 (oo b1 110 (cGAggregate a0) :: F) w) ?_ ?_
   ·rintro _ _ ⟨f0, m34, x30, rfl, h, hl31, hst⟩
    unfold syntax_checkAggregate_j3 at h
    refine cn h (fun h => ?_) (fun h => ?_)
    ·refine qr (s0 1 [vi 11] (nl (tn (wp_ret (br (tr (wr [vi 11] ?_)))))))
     have hst := pk0 hst
     have e35 := hl9.trans (hl19.trans hl31)
     have h := Option.some.inj h; subst h
     exact ⟨_, rfl, m34, rfl, e35, hst⟩
    refine qr (s0 2 [] ?_)
    rcases sp h with ⟨hc36, h⟩ | ⟨hc36, h⟩
    ·rw [hc36]
     refine sg 5 [vp b1 4, vp b1 4, vi a0.Q.Num, vb (decide (a0.Q.Num < 0))] _ (hst.q 0 4 1) ?_
     rcases sp h with ⟨hc37, h⟩ | ⟨hc37, h⟩
     ·rw [hc37]
      refine sk 4 (s0 2 [vb true] (sk 4 (s0 2 [vb true] (sk 4 (s0 3 [vb true, vb true] (nl (tn (ct (qr (s0 1 [vi 2] (nl (tn (wp_ret (br (tr (wr [vi 2] ?_))))))))))))))))
      have hst := pk0 hst
      have e38 := hl9.trans (hl19.trans hl31)
      have h := Option.some.inj h; subst h
      exact ⟨_, rfl, m34, rfl, e38, hst⟩
     rw [hc37]
     refine sg 6 [vp b1 4, vp b1 4, vi a0.Q.Num, vb (decide (a0.Q.Num > 1048576)), vb (decide (a0.Q.Num > 1048576))] _ (hst.q 0 4 1) ?_
     rcases sp h with ⟨hc39, h⟩ | ⟨hc39, h⟩
     ·rw [hc39]
      refine sk 4 (s0 2 [vb true] (sk 4 (s0 3 [vb true, vb true] (nl (tn (ct (qr (s0 1 [vi 2] (nl (tn (wp_ret (br (tr (wr [vi 2] ?_))))))))))))))
      have hst := pk0 hst
      have e40 := hl9.trans (hl19.trans hl31)
      have h := Option.some.inj h; subst h
      exact ⟨_, rfl, m34, rfl, e40, hst⟩
     rw [hc39]
     refine sg 6 [vp b1 4, vp b1 5, vi a0.Q.Den, vb (decide (a0.Q.Den < 1)), vb (decide (a0.Q.Den < 1))] _ (hst.q 0 5 1) ?_
     rcases sp h with ⟨hc41, h⟩ | ⟨hc41, h⟩
     ·rw [hc41]
      refine sk 4 (s0 3 [vb true, vb true] (nl (tn (ct (qr (s0 1 [vi 2] (nl (tn (wp_ret (br (tr (wr [vi 2] ?_))))))))))))
      have hst := pk0 hst
      have e42 := hl9.trans (hl19.trans hl31)
      have h := Option.some.inj h; subst h
      exact ⟨_, rfl, m34, rfl, e42, hst⟩
     rw [hc41]
     refine sg 7 [vp b1 4, vp b1 5, vi a0.Q.Den, vb (decide (a0.Q.Den > 1048576)), vb (decide (a0.Q.Den > 1048576)), vb (decide (a0.Q.Den > 1048576))] _ (hst.q 0 5 1) (nl (tn (cn h (fun h => ?_) (fun h => ?_))))
     ·refine qr (s0 1 [vi 2] (nl (tn (wp_ret (br (tr (wr [vi 2] ?_)))))))
      have hst := pk0 hst
      have e43 := hl9.trans (hl19.trans hl31)
      have h := Option.some.inj h; subst h
      exact ⟨_, rfl, m34, rfl, e43, hst⟩
     refine wp_skip (bn (tn (qr (s0 1 [vi 0] (nl (tn (wp_ret (wr [vi 0] ?_))))))))
     have hst := pk0 hst
     have e44 := hl9.trans (hl19.trans hl31)
     have h := Option.some.inj h; subst h
     exact ⟨_, rfl, m34, rfl, e44, hst⟩
    rw [hc36]
    refine sk 22 (s0 2 [vb false] (nl (tn (cf (wp_skip (bn (tn (qr (s0 1 [vi 0] (nl (tn (wp_ret (wr [vi 0] ?_)))))))))))))
    have hst := pk0 hst
    have e45 := hl9.trans (hl19.trans hl31)
    have h := Option.some.inj h; subst h
    exact ⟨_, rfl, m34, rfl, e45, hst⟩
   refine rg (s0 3 [vb (!x17)] ?_)
   rcases sp h with ⟨hc46, h⟩ | ⟨hc46, h⟩
   ·rw [hc46]
    refine sg 2 [vp b1 1, va (cGColumn a0.Column)] _ (hst.q 0 1 3) ?_
    have e51 := hl9.trans hl19
    obtain ⟨r47, hq48, h⟩ := bs h
    refine cal (c_syntax_isColumn hq48 hst (Glob.mono e51 hG)) ?_
    rintro _ _ ⟨m49, rfl, hl50, hst⟩
    refine s0 3 [vb (!r47), vb (!r47)] (nl (tn ?_))
    exact ⟨_, m49, (!r47), au, h, hl50, hst⟩
   rw [hc46]
   refine sk 4 (s0 2 [vb false] (nl (tn ?_)))
   exact ⟨_, m22, (false), au, h, (Mem.le.refl _), hst⟩
  refine rg (s0 2 [] ?_)
  rcases sp h with ⟨hc52, h⟩ | ⟨hc52, h⟩
  ·rw [hc52]
   refine sg 3 [vp b1 1, va (cGColumn a0.Column), va [vstr w_0, vstr w_0, vstr w_0]] _ (hst.q 0 1 3) (vl (ran ((a0.Column.Var == w_0) && ((a0.Column.Field == w_0) && ((a0.Column.Key == w_0) && true))) (cGColumn a0.Column) [vstr w_0, vstr w_0, vstr w_0]) (s0 2 [vb (!((a0.Column.Var == w_0) && ((a0.Column.Field == w_0) && ((a0.Column.Key == w_0) && true))))] ?_))
   rcases sp h with ⟨hc53, h⟩ | ⟨hc53, h⟩
   ·rw [hc53]
    refine sk 8 (s0 2 [vb true] (nl (tn ?_)))
    exact ⟨_, k10, m12, (true), (true), au, (by omega), h, (Mem.le.refl _), hst⟩
   rw [hc53]
   refine s0 3 [vb (!(a0.Kind == 7))] ?_
   rcases sp h with ⟨hc54, h⟩ | ⟨hc54, h⟩
   ·rw [hc54]
    refine sg 3 [vp b1 4, va (cGFraction a0.Q), va [vi 0, vi 0]] _ (hst.q 0 4 2) (vl (ran ((a0.Q.Num == 0) && ((a0.Q.Den == 0) && true)) (cGFraction a0.Q) [vi 0, vi 0]) (s0 3 [vb (!((a0.Q.Num == 0) && ((a0.Q.Den == 0) && true))), vb (!((a0.Q.Num == 0) && ((a0.Q.Den == 0) && true)))] (nl (tn ?_))))
    exact ⟨_, k10, m12, (true), (!((a0.Q.Num == 0) && ((a0.Q.Den == 0) && true))), au, (by omega), h, (Mem.le.refl _), hst⟩
   rw [hc54]
   refine sk 4 (s0 3 [vb false, vb false] (nl (tn ?_)))
   exact ⟨_, k10, m12, (true), (false), au, (by omega), h, (Mem.le.refl _), hst⟩
  rw [hc52]
  refine sk 4 (s0 5 [vb false, vb (!(a0.Kind == 7))] ?_)
  rcases sp h with ⟨hc55, h⟩ | ⟨hc55, h⟩
  ·rw [hc55]
   refine sg 3 [vp b1 4, va (cGFraction a0.Q), va [vi 0, vi 0]] _ (hst.q 0 4 2) (vl (ran ((a0.Q.Num == 0) && ((a0.Q.Den == 0) && true)) (cGFraction a0.Q) [vi 0, vi 0]) (s0 3 [vb (!((a0.Q.Num == 0) && ((a0.Q.Den == 0) && true))), vb (!((a0.Q.Num == 0) && ((a0.Q.Den == 0) && true)))] (nl (tn ?_))))
   exact ⟨_, k10, m12, (false), (!((a0.Q.Num == 0) && ((a0.Q.Den == 0) && true))), au, (by omega), h, (Mem.le.refl _), hst⟩
  rw [hc55]
  refine sk 4 (s0 3 [vb false, vb false] (nl (tn ?_)))
  exact ⟨_, k10, m12, (false), (false), au, (by omega), h, (Mem.le.refl _), hst⟩
 refine rg (sg 4 [vp b1 0, vi a0.Kind, vb (decide (a0.Kind < 1))] _ (hst.q 0 0 1) ?_)
 rcases sp h with ⟨hc56, h⟩ | ⟨hc56, h⟩
 ·rw [hc56]
  refine sk 5 (s0 2 [vb true] (nl (tn ?_)))
  exact ⟨_, k, m, (true), au, (by omega), h, (Mem.le.refl _), hst⟩
 rw [hc56]
 obtain ⟨v57, hA58, hv59⟩ := hG.a
 obtain ⟨A60, c61, rfl⟩ := hv59.shape
 refine sg 7 [vp b1 0, vi a0.Kind, vs A60 namesA c61, vi ((namesA).length : Int), vb (decide (a0.Kind ≥ ((namesA).length : Int))), vb (decide (a0.Kind ≥ ((namesA).length : Int)))] _ (AllC.app (hst.q 0 0 1) (hst.f hA58 0 1)) (nl (tn ?_))
 exact ⟨_, k, m, (decide (a0.Kind ≥ ((namesA).length : Int))), au, (by omega), h, (Mem.le.refl _), hst⟩
abbrev R_syntax_checkResults := RInt
theorem c_syntax_checkResults {a0 : GQuery} {r : Int} (h : syntax_checkResults k a0 = some r) (hst : St g m (F) w) (hu0 : RS (TGVariable) m (vs Au0 a0.Variables cu0) a0.Variables) (hu1 : RS (TGRelation) m (vs Au1 a0.Relations cu1) a0.Relations) (hu2 : RS (TGAbsence) m (vs Au2 a0.Absences cu2) a0.Absences) (hu3 : RS (TGColumn) m (vs Au3 a0.Group cu3) a0.Group) (hu4 : RS (TGAggregate) m (vs Au4 a0.Compute cu4) a0.Compute) (hu5 : RS (TGOrderKey) m (vs Au5 a0.Order cu5) a0.Order) (hG : Glob m) :
    Calls Tryz.prog 67 ⟨[va (cGQuery a0 (vs Au0 a0.Variables cu0) (vs Au1 a0.Relations cu1) (vs Au2 a0.Absences cu2) (vs Au3 a0.Group cu3) (vs Au4 a0.Compute cu4) (vs Au5 a0.Order cu5))]⟩ w (OPost (R_syntax_checkResults g m F) r) := by
 refine calls_enter Tryz.func67 rfl rfl ?_
 unfold syntax_checkResults at h
 refine qr (bo_ (cGQuery a0 (vs Au0 a0.Variables cu0) (vs Au1 a0.Relations cu1) (vs Au2 a0.Absences cu2) (vs Au3 a0.Group cu3) (vs Au4 a0.Compute cu4) (vs Au5 a0.Order cu5)) hst (fun b1 _ hst => ?_))
 refine s0 1 [vi 0] (nl (tn (sq (wc_join (fun a w => ∃ f0 k10 m12 x8, a = act Tryz.f67.ntmps (upds f0 [(1, vp b1 0), (2, vi 0), (31, vb x8)]) ∧ k10 ≤ k ∧ syntax_checkResults_j1 k10 a0 x8 = some r ∧ m.le m12 ∧ St g m12 (oo b1 36 (cGQuery a0 (vs Au0 a0.Variables cu0) (vs Au1 a0.Relations cu1) (vs Au2 a0.Absences cu2) (vs Au3 a0.Group cu3) (vs Au4 a0.Compute cu4) (vs Au5 a0.Order cu5)) :: F) w) ?_ ?_))))
 ·rintro _ _ ⟨f0, k10, m12, x8, rfl, hk11, h, hl9, hst⟩
  unfold syntax_checkResults_j1 at h
  refine cn h (fun h => ?_) (fun h => ?_)
  ·refine qr (s0 1 [vi 2] (nl (tn (wp_ret (tr (wr [vi 2] ?_))))))
   have hst := pk0 hst
   have h := Option.some.inj h; subst h
   exact ⟨_, rfl, m12, rfl, hl9, hst⟩
  refine wp_skip (tn (sq (qr (sg 4 [vp b1 5, vs Au3 a0.Group cu3, vi ((a0.Group).length : Int), vi 0] _ (hst.q 0 5 1) (nl (tn (bk (wc_loop (fun kk a w => ∃ f0 m93 x73, a = act Tryz.f67.ntmps (upds f0 [(1, vp b1 0), (2, vi 0), (33, vs Au3 a0.Group cu3), (34, vi ((a0.Group).length : Int)), (35, vi x73)]) ∧ kk ≤ k10 ∧ syntax_checkResults_l2 kk a0 x73 = some r ∧ m12.le m93 ∧ St g m93 (oo b1 36 (cGQuery a0 (vs Au0 a0.Variables cu0) (vs Au1 a0.Relations cu1) (vs Au2 a0.Absences cu2) (vs Au3 a0.Group cu3) (vs Au4 a0.Compute cu4) (vs Au5 a0.Order cu5)) :: F) w) k10 ?_ ?_))))))))
  ·exact ⟨_, m12, (0), au, (Nat.le_refl _), h, (Mem.le.refl _), hst⟩
  rintro k91 ih92 _ _ ⟨f0, m93, x73, rfl, hk90, h, hl89, hst⟩
  obtain _ | k95 := k91
  ·simp [syntax_checkResults_l2] at h
  rw [syntax_checkResults_l2] at h
  refine qr (s0 1 [vb (decide (x73 < ((a0.Group).length : Int)))] (nl (tn (sq (cn h (fun h => ?_) (fun h => ?_))))))
  ·refine wp_skip (tn (sq (bk (qr ?_))))
   obtain ⟨x97, hx98, h⟩ := ix h
   have e105 := hl9.trans hl89
   obtain ⟨b99, o100, cs101, hR102, hA103, hI104⟩ := RS.ix (P := Tryz.prog) (RS.mono e105 hu3) hx98
   obtain rfl := TGColumn.open_ hR102
   refine vl (hI104.r .i64) (sg 1 [va (cGColumn x97)] _ (hst.f hA103 0 3) (al [vstr w_0, vstr w_0, vstr w_0] hst (fun b106 _ hst => ?_)))
   refine so0 0 (cGColumn x97) hst (fun _ hst => ?_)
   refine nl (tn (qr (sg 1 [va (cGColumn x97)] _ (hst.q 0 0 3) ?_)))
   obtain ⟨r107, hq108, h⟩ := bs h
   refine cal (c_syntax_isColumn hq108 hst (Glob.mono e105 hG)) ?_
   rintro _ _ ⟨m109, rfl, hl110, hst⟩
   refine s0 1 [vb (!r107)] (nl (tn (cn h (fun h => ?_) (fun h => ?_))))
   ·refine qr (s0 1 [vi 11] (nl (tn (wp_ret (br (tr (tr (br (tr (wr [vi 11] ?_))))))))))
    have hst := pk2 hst
    have e111 := e105.trans hl110
    have h := Option.some.inj h; subst h
    exact ⟨_, rfl, m109, rfl, e111, hst⟩
   refine wp_skip (bn (tn (rg (s0 2 [vi (w64 (x73 + 1))] (nl (tn ?_))))))
   have e112 := hl89.trans hl110
   have hst := pk0 hst
   exact ih92 k95 (by omega) _ _ ⟨_, m109, (w64 (x73 + 1)), au, (by omega), h, e112, hst⟩
  refine wp_exit (tx (tx (bx (tn (sq (qr (sg 4 [vp b1 6, vs Au4 a0.Compute cu4, vi ((a0.Compute).length : Int), vi 0] _ (hst.q 0 6 1) (nl (tn (bk (wc_loop (fun kk a w => ∃ f0 m198 x177, a = act Tryz.f67.ntmps (upds f0 [(1, vp b1 0), (2, vi 0), (44, vs Au4 a0.Compute cu4), (45, vi ((a0.Compute).length : Int)), (46, vi x177)]) ∧ kk ≤ k95 ∧ syntax_checkResults_l3 kk a0 x177 = some r ∧ m93.le m198 ∧ St g m198 (oo b1 36 (cGQuery a0 (vs Au0 a0.Variables cu0) (vs Au1 a0.Relations cu1) (vs Au2 a0.Absences cu2) (vs Au3 a0.Group cu3) (vs Au4 a0.Compute cu4) (vs Au5 a0.Order cu5)) :: F) w) k95 ?_ ?_)))))))))))
  ·exact ⟨_, m93, (0), au, (Nat.le_refl _), h, (Mem.le.refl _), hst⟩
  rintro k196 ih197 _ _ ⟨f0, m198, x177, rfl, hk195, h, hl194, hst⟩
  obtain _ | k200 := k196
  ·simp [syntax_checkResults_l3] at h
  rw [syntax_checkResults_l3] at h
  refine qr (s0 1 [vb (decide (x177 < ((a0.Compute).length : Int)))] (nl (tn (sq (cn h (fun h => ?_) (fun h => ?_))))))
  ·refine wp_skip (tn (sq (bk (qr ?_))))
   obtain ⟨x202, hx203, h⟩ := ix h
   have e210 := hl9.trans (hl89.trans hl194)
   obtain ⟨b204, o205, cs206, hR207, hA208, hI209⟩ := RS.ix (P := Tryz.prog) (RS.mono e210 hu4) hx203
   obtain rfl := TGAggregate.open_ hR207
   refine vl (hI209.r .i64) (sg 1 [va (cGAggregate x202)] _ (hst.f hA208 0 6) (al [vi 0, vstr w_0, vstr w_0, vstr w_0, vi 0, vi 0] hst (fun b211 _ hst => ?_)))
   refine so0 0 (cGAggregate x202) hst (fun _ hst => ?_)
   refine nl (tn (qr (sg 1 [va (cGAggregate x202)] _ (hst.q 0 0 6) ?_)))
   obtain ⟨r212, hq213, h⟩ := bs h
   refine cal (c_syntax_checkAggregate hq213 hst (Glob.mono e210 hG)) ?_
   rintro _ _ ⟨m214, rfl, hl215, hst⟩
   refine s0 1 [] (nl (tn (qr (s0 2 [vb (r212 != 0)] (nl (tn (cn h (fun h => ?_) (fun h => ?_))))))))
   ·refine qr (s0 2 [] (nl (tn (wp_ret (br (tr (tr (br (tr (wr [vi r212] ?_))))))))))
    have hst := pk2 hst
    have e216 := e210.trans hl215
    have h := Option.some.inj h; subst h
    exact ⟨_, rfl, m214, rfl, e216, hst⟩
   refine wp_skip (bn (tn (rg (s0 2 [vi (w64 (x177 + 1))] (nl (tn ?_))))))
   have e217 := hl194.trans hl215
   have hst := pk0 hst
   exact ih197 k200 (by omega) _ _ ⟨_, m214, (w64 (x177 + 1)), au, (by omega), h, e217, hst⟩
  refine wp_exit (tx (tx (bx (tn (sq (qr (sg 4 [vp b1 7, vs Au5 a0.Order cu5, vi ((a0.Order).length : Int), vi 0] _ (hst.q 0 7 1) (nl (tn (bk (wc_loop (fun kk a w => ∃ f0 m288 x270, a = act Tryz.f67.ntmps (upds f0 [(1, vp b1 0), (2, vi 0), (57, vs Au5 a0.Order cu5), (58, vi ((a0.Order).length : Int)), (59, vi x270)]) ∧ kk ≤ k200 ∧ syntax_checkResults_l4 kk a0 x270 = some r ∧ m198.le m288 ∧ St g m288 (oo b1 36 (cGQuery a0 (vs Au0 a0.Variables cu0) (vs Au1 a0.Relations cu1) (vs Au2 a0.Absences cu2) (vs Au3 a0.Group cu3) (vs Au4 a0.Compute cu4) (vs Au5 a0.Order cu5)) :: F) w) k200 ?_ ?_)))))))))))
  ·exact ⟨_, m198, (0), au, (Nat.le_refl _), h, (Mem.le.refl _), hst⟩
  rintro k286 ih287 _ _ ⟨f0, m288, x270, rfl, hk285, h, hl284, hst⟩
  obtain _ | k290 := k286
  ·simp [syntax_checkResults_l4] at h
  rw [syntax_checkResults_l4] at h
  refine qr (s0 1 [vb (decide (x270 < ((a0.Order).length : Int)))] (nl (tn (sq (cn h (fun h => ?_) (fun h => ?_))))))
  ·refine wp_skip (tn (sq (bk (qr ?_))))
   obtain ⟨x292, hx293, h⟩ := ix h
   have e300 := hl9.trans (hl89.trans (hl194.trans hl284))
   obtain ⟨b294, o295, cs296, hR297, hA298, hI299⟩ := RS.ix (P := Tryz.prog) (RS.mono e300 hu5) hx293
   obtain rfl := TGOrderKey.open_ hR297
   refine vl (hI299.r .i64) (sg 1 [va (cGOrderKey x292)] _ (hst.f hA298 0 2) (al [vi 0, vb false] hst (fun b301 _ hst => ?_)))
   refine so0 0 (cGOrderKey x292) hst (fun _ hst => ?_)
   refine nl (tn (qr (sg 4 [vp b301 0, vi x292.Index, vb (decide (x292.Index < 0))] _ (hst.q 0 0 1) ?_)))
   rcases sp h with ⟨hc302, h⟩ | ⟨hc302, h⟩
   ·rw [hc302]
    refine sk 3 (s0 1 [vb true] (nl (tn (ct (qr (s0 1 [vi 2] (nl (tn (wp_ret (br (tr (tr (br (tr (wr [vi 2] ?_)))))))))))))))
    have hst := pk2 hst
    have h := Option.some.inj h; subst h
    exact ⟨_, rfl, m288, rfl, e300, hst⟩
   rw [hc302]
   refine sg 4 [vp b301 0, vi x292.Index, vb (decide (x292.Index > 1048576)), vb (decide (x292.Index > 1048576))] _ (hst.q 0 0 1) (nl (tn (cn h (fun h => ?_) (fun h => ?_))))
   ·refine qr (s0 1 [vi 2] (nl (tn (wp_ret (br (tr (tr (br (tr (wr [vi 2] ?_))))))))))
    have hst := pk2 hst
    have h := Option.some.inj h; subst h
    exact ⟨_, rfl, m288, rfl, e300, hst⟩
   refine wp_skip (bn (tn (rg (s0 2 [vi (w64 (x270 + 1))] (nl (tn ?_))))))
   have hst := pk0 hst
   exact ih287 k290 (by omega) _ _ ⟨_, m288, (w64 (x270 + 1)), au, (by omega), h, hl284, hst⟩
  refine wp_exit (tx (tx (bx (tn (sq (qr (sg 4 [vp b1 8, vi a0.Limit, vb (decide (a0.Limit < 0))] _ (hst.q 0 8 1) ?_)))))))
  rcases sp h with ⟨hc303, h⟩ | ⟨hc303, h⟩
  ·rw [hc303]
   refine sk 3 (s0 1 [vb true] (nl (tn (ct (qr (s0 1 [vi 2] (nl (tn (wp_ret (tr (wr [vi 2] ?_)))))))))))
   have hst := pk0 hst
   have e304 := hl9.trans (hl89.trans (hl194.trans hl284))
   have h := Option.some.inj h; subst h
   exact ⟨_, rfl, m288, rfl, e304, hst⟩
  rw [hc303]
  refine sg 4 [vp b1 8, vi a0.Limit, vb (decide (a0.Limit > 1048576)), vb (decide (a0.Limit > 1048576))] _ (hst.q 0 8 1) (nl (tn (cn h (fun h => ?_) (fun h => ?_))))
  ·refine qr (s0 1 [vi 2] (nl (tn (wp_ret (tr (wr [vi 2] ?_))))))
   have hst := pk0 hst
   have e305 := hl9.trans (hl89.trans (hl194.trans hl284))
   have h := Option.some.inj h; subst h
   exact ⟨_, rfl, m288, rfl, e305, hst⟩
  refine wp_skip (tn (qr (s0 1 [vi 0] (nl (tn (wp_ret (wr [vi 0] ?_)))))))
  have hst := pk0 hst
  have e306 := hl9.trans (hl89.trans (hl194.trans hl284))
  have h := Option.some.inj h; subst h
  exact ⟨_, rfl, m288, rfl, e306, hst⟩
 refine rg (sg 5 [vp b1 3, vp b1 3, vi a0.Slots.From, vb (decide (a0.Slots.From < 0))] _ (hst.q 0 3 1) ?_)
 rcases sp h with ⟨hc307, h⟩ | ⟨hc307, h⟩
 ·rw [hc307]
  refine sk 4 (s0 2 [vb true] (sk 4 (s0 2 [vb true] (sk 4 (s0 1 [vb true] (nl (tn ?_)))))))
  exact ⟨_, k, m, (true), au, (by omega), h, (Mem.le.refl _), hst⟩
 rw [hc307]
 refine sg 6 [vp b1 3, vp b1 3, vi a0.Slots.From, vb (decide (a0.Slots.From > 1048576)), vb (decide (a0.Slots.From > 1048576))] _ (hst.q 0 3 1) ?_
 rcases sp h with ⟨hc308, h⟩ | ⟨hc308, h⟩
 ·rw [hc308]
  refine sk 4 (s0 2 [vb true] (sk 4 (s0 1 [vb true] (nl (tn ?_)))))
  exact ⟨_, k, m, (true), au, (by omega), h, (Mem.le.refl _), hst⟩
 rw [hc308]
 refine sg 6 [vp b1 3, vp b1 4, vi a0.Slots.To, vb (decide (a0.Slots.To < 0)), vb (decide (a0.Slots.To < 0))] _ (hst.q 0 4 1) ?_
 rcases sp h with ⟨hc309, h⟩ | ⟨hc309, h⟩
 ·rw [hc309]
  refine sk 4 (s0 1 [vb true] (nl (tn ?_)))
  exact ⟨_, k, m, (true), au, (by omega), h, (Mem.le.refl _), hst⟩
 rw [hc309]
 refine sg 5 [vp b1 3, vp b1 4, vi a0.Slots.To, vb (decide (a0.Slots.To > 1048576)), vb (decide (a0.Slots.To > 1048576))] _ (hst.q 0 4 1) (nl (tn ?_))
 exact ⟨_, k, m, (decide (a0.Slots.To > 1048576)), au, (by omega), h, (Mem.le.refl _), hst⟩
abbrev R_syntax_spaced := RBool
theorem c_syntax_spaced {a0 : SToken} {a1 : SToken} {r : Bool} (h : syntax_spaced k a0 a1 = some r) (hst : St g m (F) w) (hG : Glob m) :
    Calls Tryz.prog 179 ⟨[va (cSToken a0), va (cSToken a1)]⟩ w (OPost (R_syntax_spaced g m F) r) := by
 refine calls_enter Tryz.func179 rfl rfl ?_
 unfold syntax_spaced at h
 refine qr (bo_ (cSToken a0) hst (fun b1 _ hst => ?_))
 refine bo_ (cSToken a1) hst (fun b2 _ hst => ?_)
 refine s0 1 [vb false] (nl (tn (wc_join (fun a w => ∃ f0 k12 m14, a = act Tryz.f179.ntmps (upds f0 [(2, vp b1 0), (3, vp b2 0), (4, vb false)]) ∧ k12 ≤ k ∧ syntax_spaced_j1 k12 a0 a1 = some r ∧ m.le m14 ∧ St g m14 (oo b2 121 (cSToken a1) :: oo b1 121 (cSToken a0) :: F) w) ?_ ?_)))
 ·rintro _ _ ⟨f0, k12, m14, rfl, hk13, h, hl11, hst⟩
  unfold syntax_spaced_j1 at h
  refine wc_join (fun a w => ∃ f0 k27 m29, a = act Tryz.f179.ntmps (upds f0 [(2, vp b1 0), (3, vp b2 0), (4, vb false)]) ∧ k27 ≤ k12 ∧ syntax_spaced_j2 k27 a0 a1 = some r ∧ m14.le m29 ∧ St g m29 (oo b2 121 (cSToken a1) :: oo b1 121 (cSToken a0) :: F) w) ?_ ?_
  ·rintro _ _ ⟨f0, k27, m29, rfl, hk28, h, hl26, hst⟩
   unfold syntax_spaced_j2 at h
   refine qr (sg 4 [vp b1 0, vi a0.kind, vb (a0.kind == 1)] _ (hst.q 1 0 1) ?_)
   rcases sp h with ⟨hc30, h⟩ | ⟨hc30, h⟩
   ·rw [hc30]
    refine sg 4 [vp b2 0, vi a1.kind, vb (a1.kind == 4)] _ (hst.q 0 0 1) ?_
    rcases sp h with ⟨hc31, h⟩ | ⟨hc31, h⟩
    ·rw [hc31]
     refine sg 2 [vp b2 2, vstr a1.s_] _ (hst.q 0 2 1) (vl (re a1.s_ wx2828) (s0 1 [] ?_))
     rcases sp h with ⟨hc32, h⟩ | ⟨hc32, h⟩
     ·rw [hc32]
      refine sk 4 (s0 5 [vb true, vb true, vb false, vb false] (nl (tn (wp_ret (wr [vb false] ?_)))))
      have hst := pk2 hst
      have e33 := hl11.trans hl26
      have h := Option.some.inj h; subst h
      exact ⟨_, rfl, m29, rfl, e33, hst⟩
     rw [hc32]
     have e39 := hl11.trans hl26
     obtain ⟨v34, hA35, hv36⟩ := (Glob.mono e39 hG).c
     obtain ⟨A37, c38, rfl⟩ := hv36.shape
     refine sg 3 [vs A37 namesC c38, vp b2 2, vstr a1.s_] _ (AllC.app (hst.f hA35 0 1) (hst.q 0 2 1)) ?_
     obtain ⟨r40, hq41, h⟩ := bs h
     refine cal (c_slices_Contains_string hq41 hst hv36) ?_
     rintro _ _ ⟨m42, rfl, hl43, hst⟩
     refine s0 5 [vb r40, vb r40, vb (!r40), vb (!r40)] (nl (tn (wp_ret (wr [vb (!r40)] ?_))))
     have hst := pk2 hst
     have e44 := e39.trans hl43
     cases h
     exact ⟨_, rfl, m42, rfl, e44, hst⟩
    rw [hc31]
    refine sk 9 (s0 4 [vb false, vb true, vb true] (nl (tn (wp_ret (wr [vb true] ?_)))))
    have hst := pk2 hst
    have e45 := hl11.trans hl26
    have h := Option.some.inj h; subst h
    exact ⟨_, rfl, m29, rfl, e45, hst⟩
   rw [hc30]
   refine sk 15 (s0 2 [vb false] (nl (tn (wp_ret (wr [vb false] ?_)))))
   have hst := pk2 hst
   have e46 := hl11.trans hl26
   have h := Option.some.inj h; subst h
   exact ⟨_, rfl, m29, rfl, e46, hst⟩
  refine qr (sg 4 [vp b2 0, vi a1.kind, vb (a1.kind == 1)] _ (hst.q 0 0 1) ?_)
  rcases sp h with ⟨hc47, h⟩ | ⟨hc47, h⟩
  ·rw [hc47]
   refine sg 4 [vp b1 0, vi a0.kind, vb (a0.kind == 4)] _ (hst.q 1 0 1) ?_
   rcases sp h with ⟨hc48, h⟩ | ⟨hc48, h⟩
   ·rw [hc48]
    obtain ⟨v49, hA50, hv51⟩ := (Glob.mono hl11 hG).t
    obtain ⟨A52, c53, rfl⟩ := hv51.shape
    refine sg 3 [vs A52 namesT c53, vp b1 2, vstr a0.s_] _ (AllC.app (hst.f hA50 0 1) (hst.q 1 2 1)) ?_
    obtain ⟨r54, hq55, h⟩ := bs h
    refine cal (c_slices_Contains_string hq55 hst hv51) ?_
    rintro _ _ ⟨m56, rfl, hl57, hst⟩
    refine s0 3 [vb r54, vb (!r54), vb (!r54)] (nl (tn (cn h (fun h => ?_) (fun h => ?_))))
    ·refine qr (s0 1 [vb true] (nl (tn (wp_ret (tr (wr [vb true] ?_))))))
     have hst := pk2 hst
     have e58 := hl11.trans hl57
     have h := Option.some.inj h; subst h
     exact ⟨_, rfl, m56, rfl, e58, hst⟩
    refine wp_skip (tn ?_)
    exact ⟨_, k12, m56, au, (by omega), h, hl57, hst⟩
   rw [hc48]
   refine sk 4 (s0 3 [vb false, vb true, vb true] (nl (tn (ct (qr (s0 1 [vb true] (nl (tn (wp_ret (tr (wr [vb true] ?_)))))))))))
   have hst := pk2 hst
   have h := Option.some.inj h; subst h
   exact ⟨_, rfl, m14, rfl, hl11, hst⟩
  rw [hc47]
  refine sk 10 (s0 1 [vb false] (nl (tn (cf (wp_skip (tn ?_))))))
  exact ⟨_, k12, m14, au, (by omega), h, (Mem.le.refl _), hst⟩
 refine qr (sg 4 [vp b1 0, vi a0.kind, vb (a0.kind == 4)] _ (hst.q 1 0 1) ?_)
 rcases sp h with ⟨hc59, h⟩ | ⟨hc59, h⟩
 ·rw [hc59]
  refine sg 2 [vp b1 2, vstr a0.s_] _ (hst.q 1 2 1) (vl (re a0.s_ wx2c) (s0 1 [] ?_))
  rcases sp h with ⟨hc60, h⟩ | ⟨hc60, h⟩
  ·rw [hc60]
   refine sk 3 (s0 2 [vb true] (sk 3 (s0 3 [vb true, vb true] (sk 13 (s0 1 [vb true] (nl (tn (ct (qr (s0 1 [vb true] (nl (tn (wp_ret (tr (wr [vb true] ?_)))))))))))))))
   have hst := pk2 hst
   have h := Option.some.inj h; subst h
   exact ⟨_, rfl, m, rfl, (Mem.le.refl _), hst⟩
  rw [hc60]
  refine sg 2 [vp b1 2, vstr a0.s_] _ (hst.q 1 2 1) (vl (re a0.s_ wx3d) (s0 2 [vb (a0.s_ == wx3d)] ?_))
  rcases sp h with ⟨hc61, h⟩ | ⟨hc61, h⟩
  ·rw [hc61]
   refine sk 3 (s0 3 [vb true, vb true] (sk 13 (s0 1 [vb true] (nl (tn (ct (qr (s0 1 [vb true] (nl (tn (wp_ret (tr (wr [vb true] ?_)))))))))))))
   have hst := pk2 hst
   have h := Option.some.inj h; subst h
   exact ⟨_, rfl, m, rfl, (Mem.le.refl _), hst⟩
  rw [hc61]
  refine sg 2 [vp b1 2, vstr a0.s_] _ (hst.q 1 2 1) (vl (re a0.s_ wx3c) (s0 3 [vb (a0.s_ == wx3c), vb (a0.s_ == wx3c)] ?_))
  rcases sp h with ⟨hc62, h⟩ | ⟨hc62, h⟩
  ·rw [hc62]
   refine sk 13 (s0 1 [vb true] (nl (tn (ct (qr (s0 1 [vb true] (nl (tn (wp_ret (tr (wr [vb true] ?_)))))))))))
   have hst := pk2 hst
   have h := Option.some.inj h; subst h
   exact ⟨_, rfl, m, rfl, (Mem.le.refl _), hst⟩
  rw [hc62]
  refine sg 4 [vp b2 0, vi a1.kind, vb (a1.kind == 4)] _ (hst.q 0 0 1) ?_
  rcases sp h with ⟨hc63, h⟩ | ⟨hc63, h⟩
  ·rw [hc63]
   refine sg 2 [vp b2 2, vstr a1.s_] _ (hst.q 0 2 1) (vl (re a1.s_ wx3d) (s0 1 [] ?_))
   rcases sp h with ⟨hc64, h⟩ | ⟨hc64, h⟩
   ·rw [hc64]
    refine sk 3 (s0 3 [vb true, vb true, vb true] (nl (tn (ct (qr (s0 1 [vb true] (nl (tn (wp_ret (tr (wr [vb true] ?_)))))))))))
    have hst := pk2 hst
    have h := Option.some.inj h; subst h
    exact ⟨_, rfl, m, rfl, (Mem.le.refl _), hst⟩
   rw [hc64]
   refine sg 2 [vp b2 2, vstr a1.s_] _ (hst.q 0 2 1) (vl (re a1.s_ wx3c) (s0 3 [vb (a1.s_ == wx3c), vb (a1.s_ == wx3c), vb (a1.s_ == wx3c)] (nl (tn (cn h (fun h => ?_) (fun h => ?_))))))
   ·refine qr (s0 1 [vb true] (nl (tn (wp_ret (tr (wr [vb true] ?_))))))
    have hst := pk2 hst
    have h := Option.some.inj h; subst h
    exact ⟨_, rfl, m, rfl, (Mem.le.refl _), hst⟩
   refine wp_skip (tn ?_)
   exact ⟨_, k, m, au, (by omega), h, (Mem.le.refl _), hst⟩
  rw [hc63]
  refine sk 8 (s0 2 [vb false, vb false] (nl (tn (cf (wp_skip (tn ?_))))))
  exact ⟨_, k, m, au, (by omega), h, (Mem.le.refl _), hst⟩
 rw [hc59]
 refine sk 13 (sg 6 [vb false, vp b2 0, vi a1.kind, vb (a1.kind == 4)] _ (hst.q 0 0 1) ?_)
 rcases sp h with ⟨hc65, h⟩ | ⟨hc65, h⟩
 ·rw [hc65]
  refine sg 2 [vp b2 2, vstr a1.s_] _ (hst.q 0 2 1) (vl (re a1.s_ wx3d) (s0 1 [] ?_))
  rcases sp h with ⟨hc66, h⟩ | ⟨hc66, h⟩
  ·rw [hc66]
   refine sk 3 (s0 3 [vb true, vb true, vb true] (nl (tn (ct (qr (s0 1 [vb true] (nl (tn (wp_ret (tr (wr [vb true] ?_)))))))))))
   have hst := pk2 hst
   have h := Option.some.inj h; subst h
   exact ⟨_, rfl, m, rfl, (Mem.le.refl _), hst⟩
  rw [hc66]
  refine sg 2 [vp b2 2, vstr a1.s_] _ (hst.q 0 2 1) (vl (re a1.s_ wx3c) (s0 3 [vb (a1.s_ == wx3c), vb (a1.s_ == wx3c), vb (a1.s_ == wx3c)] (nl (tn (cn h (fun h => ?_) (fun h => ?_))))))
  ·refine qr (s0 1 [vb true] (nl (tn (wp_ret (tr (wr [vb true] ?_))))))
   have hst := pk2 hst
   have h := Option.some.inj h; subst h
   exact ⟨_, rfl, m, rfl, (Mem.le.refl _), hst⟩
  refine wp_skip (tn ?_)
  exact ⟨_, k, m, au, (by omega), h, (Mem.le.refl _), hst⟩
 rw [hc65]
 refine sk 8 (s0 2 [vb false, vb false] (nl (tn (cf (wp_skip (tn ?_))))))
 exact ⟨_, k, m, au, (by omega), h, (Mem.le.refl _), hst⟩
def R_writer_put (g : World) (m : Mem) (F : List Asr) (ob0 : Nat) (r : SWriter) (v : Value) (w' : World) : Prop := ∃ m' A1 c1 cs1, v = vt [] ∧ m.le m' ∧ St g m' (oo ob0 123 (cSWriter r (vs A1 r.out c1)) :: rw_ 5 1 A1 r.out c1 cs1 :: F) w' ∧ RC (TInt .u8) m' r.out cs1
theorem c_writer_put {a0 : SWriter} {a1 : SToken} {a2 : Str} {r : SWriter} {A1_ : Option Addr} {c1_ : Nat} {cs1_ : List Value} (h : writer_put k a0 a1 a2 = some r) (hst : St g m (oo ob0 123 (cSWriter a0 (vs A1_ a0.out c1_)) :: rw_ 5 1 A1_ a0.out c1_ cs1_ :: F) w) (hrc1_ : RC (TInt .u8) m a0.out cs1_) (hG : Glob m) :
    Calls Tryz.prog 166 ⟨[vp ob0 0, va (cSToken a1), vstr a2]⟩ w (OPost (R_writer_put g m F ob0) r) := by
 refine calls_enter Tryz.func166 rfl rfl ?_
 unfold writer_put at h
 refine qr (bo_ (cSToken a1) hst (fun b1 _ hst => ?_))
 refine nl (tn (wc_join (fun a w => ∃ f0 m41 x33 A34 c35 cs36, a = act Tryz.f166.ntmps (upds f0 [(0, vp ob0 0), (2, vstr a2), (4, vp b1 0)]) ∧ writer_put_j2 a1 a2 x33 = some r ∧ m.le m41 ∧ St g m41 (oo b1 121 (cSToken a1) :: oo ob0 123 [vs A34 x33 c35, vi a0.last.kind, vi a0.last.at_, vstr a0.last.s_, vi a0.last.n_] :: rw_ 5 1 A34 x33 c35 cs36 :: F) w ∧ RC (TInt .u8) m41 x33 cs36) ?_ ?_))
 ·rintro _ _ ⟨f0, m41, x33, A34, c35, cs36, rfl, h, hl38, hst, hrc37⟩
  unfold writer_put_j2 at h
  refine qr (sg 6 [vp ob0 0, vp ob0 0, vs A34 x33 c35] _ (hst.q 1 0 1) ?_)
  obtain ⟨hb42, h⟩ := chk_some h
  refine as2 (xs := x33) (l := a2) hst hrc37 hb42 (fun A43 c44 cs45 _ hrc46 hst => ?_)
  refine s0 2 [vp ob0 0, vp ob0 0] (so1 0 [vs A43 (x33 ++ List.map (fun b : UInt8 => (b.toNat : Int)) a2) c44] hst (fun _ hst => ?_))
  refine nl (tn (sq (qr (sg 2 [vp b1 2, vstr a1.s_] _ (hst.q 0 2 1) (vl (re a1.s_ wx2828) (nl (tn (cn h (fun h => ?_) (fun h => ?_)))))))))
  ·refine rg (s0 1 [vp b1 2] (so0 2 [vstr wx28] hst (fun _ hst => ?_)))
   refine nl (tn (rg (sg 4 [va [vi a1.kind, vi a1.at_, vstr wx28, vi a1.n_], vp ob0 0, vp ob0 1] _ (hst.q 0 0 4) (so1 1 [vi a1.kind, vi a1.at_, vstr wx28, vi a1.n_] hst (fun _ hst => ?_)))))
   refine nl (we [] ?_)
   have hst := pk0 hst
   cases h
   exact ⟨_, rfl, m41, A43, c44, cs45, rfl, hl38, hst, hrc46⟩
  refine wp_skip (tn (rg (sg 4 [va (cSToken a1), vp ob0 0, vp ob0 1] _ (hst.q 0 0 4) (so1 1 (cSToken a1) hst (fun _ hst => ?_)))))
  refine nl (we [] ?_)
  have hst := pk0 hst
  cases h
  exact ⟨_, rfl, m41, A43, c44, cs45, rfl, hl38, hst, hrc46⟩
 refine wc_join (fun a w => ∃ f0 m61 x57, a = act Tryz.f166.ntmps (upds f0 [(0, vp ob0 0), (2, vstr a2), (4, vp b1 0), (19, vb x57)]) ∧ writer_put_j3 a0 a1 a2 x57 = some r ∧ m.le m61 ∧ St g m61 (oo b1 121 (cSToken a1) :: oo ob0 123 (cSWriter a0 (vs A1_ a0.out c1_)) :: rw_ 5 1 A1_ a0.out c1_ cs1_ :: F) w) ?_ ?_
 ·rintro _ _ ⟨f0, m61, x57, rfl, h, hl58, hst⟩
  unfold writer_put_j3 at h
  refine cn h (fun h => ?_) (fun h => ?_)
  ·refine rg (sg 5 [vp ob0 0, vp ob0 0, vs A1_ a0.out c1_] _ (hst.q 1 0 1) (li 5 1 [vu 32] hst (fun b62 _ hst => ?_)))
   obtain ⟨hb63, h⟩ := chk_some h
   refine ap3 (TInt .u8) (xs := a0.out) (ys := [32]) 1 1 0 hst (RC.mono hl58 hrc1_) (RC.k1 rfl (RC.nil _ _)) hb63 (fun A64 c65 cs66 _ hrc67 hst => ?_)
   have hst := pk0 hst
   refine s0 2 [vp ob0 0, vp ob0 0] (so1 0 [vs A64 (a0.out ++ [32]) c65] hst (fun _ hst => ?_))
   refine nl (tn ?_)
   exact ⟨_, m61, ((a0.out ++ [32])), A64, c65, cs66, au, h, hl58, hst, hrc67⟩
  refine wp_skip (tn ?_)
  exact ⟨_, m61, (a0.out), A1_, c1_, cs1_, au, h, hl58, hst, (RC.mono hl58 hrc1_)⟩
 refine dr false (fun x => Rd m (oo ob0 123 (cSWriter a0 (vs A1_ a0.out c1_)) :: oo b1 121 (cSToken a1) :: []) x) ?_
 have hst := hst.drew
 refine gs [0, 1, 2, 3, 4, 5, 6] [vp ob0 0, vp ob0 0, vs A1_ a0.out c1_, vi ((a0.out).length : Int), vb (decide (((a0.out).length : Int) > 0))] _ 7 (pqt (pqt pqb)) (hst.rd.with_ 1 rfl (hst.rd.with_ 0 rfl (hst.rd.none_))) (fun x hx => (hx.q 0 0 1)) ?_
 rcases sp h with ⟨hc73, h⟩ | ⟨hc73, h⟩
 ·rw [hc73]
  refine gs [7, 11, 8, 9, 10] [vp ob0 0, va (cSToken a1), vp ob0 0, vp ob0 1, va (cSToken a0.last)] _ 2 (pqt (pqt pqb)) (hst.rd.with_ 1 rfl (hst.rd.with_ 0 rfl (hst.rd.none_))) (fun x hx => (AllC.app (hx.q 1 0 4) (hx.q 0 1 4))) ?_
  refine ge 12 rfl ?_
  obtain ⟨r74, hq75, h⟩ := bs h
  refine cal (c_syntax_spaced hq75 hst hG) ?_
  rintro _ _ ⟨m76, rfl, hl77, hst⟩
  refine gn (Rd.lower hl77 (hst.rd.with_ 1 rfl (hst.rd.with_ 0 rfl (hst.rd.none_)))) (ge 13 rfl (sg 1 [vb r74] [] trivial (nl (tn (⟨_, fun _ h => h, .inl ⟨rfl, allListed_of _ (by kernel_rfl)⟩, ?_⟩)))))
  refine gd (tn ?_)
  exact ⟨_, m76, (r74), au, h, hl77, hst⟩
 rw [hc73]
 refine gs [7, 11, 8, 9, 10, 12] [undef, undef, undef, undef, undef, undef] [] 1 (pqt (pqt pqb)) (hst.rd.with_ 1 rfl (hst.rd.with_ 0 rfl (hst.rd.none_))) (fun x hx => trivial) ?_
 refine ge 13 rfl (sg 1 [vb false] [] trivial (nl (tn (⟨_, fun _ h => h, .inl ⟨rfl, allListed_of _ (by kernel_rfl)⟩, ?_⟩))))
 refine gd (tn ?_)
 exact ⟨_, m, (false), au, h, (Mem.le.refl _), hst⟩
def R_writer_words (g : World) (m : Mem) (F : List Asr) (ob0 : Nat) (r : SWriter) (v : Value) (w' : World) : Prop := ∃ m' A1 c1 cs1, v = vt [] ∧ m.le m' ∧ St g m' (oo ob0 123 (cSWriter r (vs A1 r.out c1)) :: rw_ 5 1 A1 r.out c1 cs1 :: F) w' ∧ RC (TInt .u8) m' r.out cs1
theorem c_writer_words {a0 : SWriter} {a1 : List Str} {r : SWriter} {A1_ : Option Addr} {c1_ : Nat} {cs1_ : List Value} (h : writer_words k a0 a1 = some r) (hst : St g m (oo ob0 123 (cSWriter a0 (vs A1_ a0.out c1_)) :: rw_ 5 1 A1_ a0.out c1_ cs1_ :: F) w) (hrc1_ : RC (TInt .u8) m a0.out cs1_) (hu2 : RS (TStr) m (vs Au2 a1 cu2) a1) (hG : Glob m) :
    Calls Tryz.prog 130 ⟨[vp ob0 0, vs Au2 a1 cu2]⟩ w (OPost (R_writer_words g m F ob0) r) := by
 refine calls_enter Tryz.func130 rfl rfl ?_
 unfold writer_words at h
 refine qr (s0 3 [vi ((a1).length : Int), vi 0] (nl (tn (bk (wc_loop (fun kk a w => ∃ f0 m71 x29 A30 c31 cs32 x34 x35 x36 x37 x38, a = act Tryz.f130.ntmps (upds f0 [(0, vp ob0 0), (6, vs Au2 a1 cu2), (7, vi ((a1).length : Int)), (8, vi x38)]) ∧ kk ≤ k ∧ writer_words_l1 kk a1 x29 x34 x35 x36 x37 x38 = some r ∧ m.le m71 ∧ St g m71 (oo ob0 123 [vs A30 x29 c31, vi x34, vi x35, vstr x36, vi x37] :: rw_ 5 1 A30 x29 c31 cs32 :: F) w ∧ RC (TInt .u8) m71 x29 cs32) k ?_ ?_)))))
 ·exact ⟨_, m, (a0.out), A1_, c1_, cs1_, (a0.last.kind), (a0.last.at_), (a0.last.s_), (a0.last.n_), (0), au, (Nat.le_refl _), h, (Mem.le.refl _), hst, hrc1_⟩
 rintro k69 ih70 _ _ ⟨f0, m71, x29, A30, c31, cs32, x34, x35, x36, x37, x38, rfl, hk68, h, hl67, hst, hrc33⟩
 obtain _ | k73 := k69
 ·simp [writer_words_l1] at h
 rw [writer_words_l1] at h
 refine qr (s0 1 [vb (decide (x38 < ((a1).length : Int)))] (nl (tn (sq (cn h (fun h => ?_) (fun h => ?_))))))
 ·refine wp_skip (tn (sq (bk (qr ?_))))
  obtain ⟨x75, hx76, h⟩ := ix h
  obtain ⟨b77, o78, cs79, hR80, hA81, hI82⟩ := RS.ix (P := Tryz.prog) (RS.mono hl67 hu2) hx76
  obtain rfl : cs79 = [vstr x75] := hR80
  refine vl (hI82.r .i64) (sg 2 [vstr x75] _ (hst.f hA81 0 1) (nl (tn (rg (s0 4 [va [vi 1, vi 0, vstr x75, vi 0]] ?_)))))
  obtain ⟨r83, hq84, h⟩ := bs h
  refine cal (c_writer_put hq84 hst hrc33 (Glob.mono hl67 hG)) ?_
  rintro _ _ ⟨m85, A88, c89, cs90, rfl, hl86, hst, hrc91⟩
  refine nl (bn (tn (rg (s0 2 [vi (w64 (x38 + 1))] (nl (tn ?_))))))
  have e92 := hl67.trans hl86
  exact ih70 k73 (by omega) _ _ ⟨_, m85, (r83.out), A88, c89, cs90, (r83.last.kind), (r83.last.at_), (r83.last.s_), (r83.last.n_), (w64 (x38 + 1)), au, (by omega), h, e92, hst, hrc91⟩
 refine wp_exit (tx (tx (bx (we [] ?_))))
 cases h
 exact ⟨_, rfl, m71, A30, c31, cs32, rfl, hl67, hst, hrc33⟩
def R_writer_sign (g : World) (m : Mem) (F : List Asr) (ob0 : Nat) (r : SWriter) (v : Value) (w' : World) : Prop := ∃ m' A1 c1 cs1, v = vt [] ∧ m.le m' ∧ St g m' (oo ob0 123 (cSWriter r (vs A1 r.out c1)) :: rw_ 5 1 A1 r.out c1 cs1 :: F) w' ∧ RC (TInt .u8) m' r.out cs1
theorem c_writer_sign {a0 : SWriter} {a1 : Str} {r : SWriter} {A1_ : Option Addr} {c1_ : Nat} {cs1_ : List Value} (h : writer_sign k a0 a1 = some r) (hst : St g m (oo ob0 123 (cSWriter a0 (vs A1_ a0.out c1_)) :: rw_ 5 1 A1_ a0.out c1_ cs1_ :: F) w) (hrc1_ : RC (TInt .u8) m a0.out cs1_) (hG : Glob m) :
    Calls Tryz.prog 132 ⟨[vp ob0 0, vstr a1]⟩ w (OPost (R_writer_sign g m F ob0) r) := by
 refine calls_enter Tryz.func132 rfl rfl ?_
 unfold writer_sign at h
 refine rg (s0 4 [va [vi 4, vi 0, vstr a1, vi 0]] ?_)
 obtain ⟨r1, hq2, h⟩ := bs h
 refine cal (c_writer_put hq2 hst hrc1_ hG) ?_
 rintro _ _ ⟨m3, A6, c7, cs8, rfl, hl4, hst, hrc9⟩
 refine nl (we [] ?_)
 have h := Option.some.inj h; subst h
 exact ⟨_, rfl, m3, A6, c7, cs8, rfl, hl4, hst, hrc9⟩
def R_writer_text (g : World) (m : Mem) (F : List Asr) (ob0 : Nat) (r : SWriter) (v : Value) (w' : World) : Prop := ∃ m' A1 c1 cs1, v = vt [] ∧ m.le m' ∧ St g m' (oo ob0 123 (cSWriter r (vs A1 r.out c1)) :: rw_ 5 1 A1 r.out c1 cs1 :: F) w' ∧ RC (TInt .u8) m' r.out cs1
theorem c_writer_text {a0 : SWriter} {a1 : Str} {r : SWriter} {A1_ : Option Addr} {c1_ : Nat} {cs1_ : List Value} (h : writer_text k a0 a1 = some r) (hst : St g m (oo ob0 123 (cSWriter a0 (vs A1_ a0.out c1_)) :: rw_ 5 1 A1_ a0.out c1_ cs1_ :: F) w) (hrc1_ : RC (TInt .u8) m a0.out cs1_) (hG : Glob m) :
    Calls Tryz.prog 168 ⟨[vp ob0 0, vstr a1]⟩ w (OPost (R_writer_text g m F ob0) r) := by
 refine calls_enter Tryz.func168 rfl rfl ?_
 unfold writer_text at h
 refine qr (li 5 1 [vu 34] hst (fun b1 _ hst => ?_))
 have hrc3 : RC (TInt .u8) m [34] [vu 34] := (RC.k1 rfl (RC.nil _ _))
 have hst := hst.obj_row (size := 1) (k := 1) rfl (Nat.le_of_ble_eq_true rfl)
 refine s0 1 [] (nl (tn (sq (qr (s0 3 [vi ((a1).length : Int), vi 0] (nl (tn (bk (wc_loop (fun kk a w => ∃ f0 m146 x70 A71 c72 cs73 x75, a = act Tryz.f168.ntmps (upds f0 [(0, vp ob0 0), (1, vstr a1), (4, vs A71 x70 c72), (8, vi ((a1).length : Int)), (9, vi x75)]) ∧ kk ≤ k ∧ writer_text_l3 kk a0 a1 x70 x75 = some r ∧ m.le m146 ∧ St g m146 (rw_ 5 1 A71 x70 c72 cs73 :: oo ob0 123 (cSWriter a0 (vs A1_ a0.out c1_)) :: rw_ 5 1 A1_ a0.out c1_ cs1_ :: F) w ∧ RC (TInt .u8) m146 x70 cs73) k ?_ ?_)))))))))
 ·exact ⟨_, m, ([34]), (some ⟨b1, 0, none⟩), 1, [vu 34], (0), au, (Nat.le_refl _), h, (Mem.le.refl _), hst, hrc3⟩
 rintro k144 ih145 _ _ ⟨f0, m146, x70, A71, c72, cs73, x75, rfl, hk143, h, hl142, hst, hrc74⟩
 obtain _ | k148 := k144
 ·simp [writer_text_l3] at h
 rw [writer_text_l3] at h
 refine qr (s0 1 [vb (decide (x75 < ((a1).length : Int)))] (nl (tn (sq (cn h (fun h => ?_) (fun h => ?_))))))
 ·refine wp_skip (tn (sq (bk (qr (s0 2 [] (nl (tn (wc_join (fun a w => ∃ f0 k178 m180 x168 A169 c170 cs171 x173 x174 x175 x176, a = act Tryz.f168.ntmps (upds f0 [(0, vp ob0 0), (1, vstr a1), (4, vs A169 x168 c170), (5, vi x75), (8, vi ((a1).length : Int)), (9, vi x75), (10, vb (decide (x75 < ((a1).length : Int)))), (11, vi x75), (12, vstr a1), (13, vi x75), (14, vu x173), (15, vb x174), (16, vb x175), (21, vb x176)]) ∧ k178 ≤ k148 ∧ writer_text_j4 k178 a0 a1 x75 x168 = some r ∧ m146.le m180 ∧ St g m180 (rw_ 5 1 A169 x168 c170 cs171 :: oo ob0 123 (cSWriter a0 (vs A1_ a0.out c1_)) :: rw_ 5 1 A1_ a0.out c1_ cs1_ :: F) w ∧ RC (TInt .u8) m180 x168 cs171) ?_ ?_))))))))
  ·rintro _ _ ⟨f0, k178, m180, x168, A169, c170, cs171, x173, x174, x175, x176, rfl, hk179, h, hl177, hst, hrc172⟩
   obtain _ | k181 := k178
   ·simp [writer_text_j4] at h
   rw [writer_text_j4] at h
   refine rg (s0 3 [] ?_)
   obtain ⟨c183, hc184, h⟩ := ix h
   refine vl (ria hc184.1 hc184.2) (li 5 1 [vu (c183.toNat : Int)] hst (fun b185 _ hst => ?_))
   obtain ⟨hb186, h⟩ := chk_some h
   refine ap1 (TInt .u8) (xs := x168) (ys := [(c183.toNat : Int)]) 1 1 0 hst hrc172 (RC.k1 rfl (RC.nil _ _)) hb186 (fun A187 c188 cs189 _ hrc190 hst => ?_)
   have hst := pk0 hst
   refine s0 1 [] (nl (bn (tn (rg (s0 2 [vi (w64 (x75 + 1))] (nl (tn ?_)))))))
   have e191 := hl142.trans hl177
   exact ih145 k181 (by omega) _ _ ⟨_, m180, ((x168 ++ [(c183.toNat : Int)])), A187, c188, cs189, (w64 (x75 + 1)), au, (by omega), h, e191, hst, hrc190⟩
  refine qr (s0 2 [] ?_)
  obtain ⟨c193, hc194, h⟩ := ix h
  refine vl (ria hc194.1 hc194.2) (s0 2 [vb ((c193.toNat : Int) == 34)] ?_)
  rcases sp h with ⟨hc195, h⟩ | ⟨hc195, h⟩
  ·rw [hc195]
   refine sk 4 (s0 1 [vb true] (nl (tn (ct (rg (s0 1 [] (li 5 1 [vu 92] hst (fun b196 _ hst => ?_))))))))
   obtain ⟨hb197, h⟩ := chk_some h
   refine ap1 (TInt .u8) (xs := x70) (ys := [92]) 1 1 0 hst hrc74 (RC.k1 rfl (RC.nil _ _)) hb197 (fun A198 c199 cs200 _ hrc201 hst => ?_)
   have hst := pk0 hst
   refine s0 1 [] (nl (tn ?_))
   exact ⟨_, k148, m146, ((x70 ++ [92])), A198, c199, cs200, ((c193.toNat : Int)), (true), (true), (true), au, (by omega), h, (Mem.le.refl _), hst, hrc201⟩
  rw [hc195]
  refine s0 2 [] ?_
  obtain ⟨c203, hc204, h⟩ := ix h
  refine vl (ria hc204.1 hc204.2) (s0 2 [vb ((c203.toNat : Int) == 92), vb ((c203.toNat : Int) == 92)] (nl (tn (cn h (fun h => ?_) (fun h => ?_)))))
  ·refine rg (s0 1 [] (li 5 1 [vu 92] hst (fun b205 _ hst => ?_)))
   obtain ⟨hb206, h⟩ := chk_some h
   refine ap1 (TInt .u8) (xs := x70) (ys := [92]) 1 1 0 hst hrc74 (RC.k1 rfl (RC.nil _ _)) hb206 (fun A207 c208 cs209 _ hrc210 hst => ?_)
   have hst := pk0 hst
   refine s0 1 [] (nl (tn ?_))
   exact ⟨_, k148, m146, ((x70 ++ [92])), A207, c208, cs209, ((c193.toNat : Int)), (false), (false), (((c203.toNat : Int) == 92)), au, (by omega), h, (Mem.le.refl _), hst, hrc210⟩
  refine wp_skip (tn ?_)
  exact ⟨_, k148, m146, (x70), A71, c72, cs73, ((c193.toNat : Int)), (false), (false), (((c203.toNat : Int) == 92)), au, (by omega), h, (Mem.le.refl _), hst, hrc74⟩
 refine wp_exit (tx (tx (bx (tn (rg (s0 3 [va [vi 3, vi 0, vstr w_0, vi 0]] (li 5 1 [vu 34] hst (fun b211 _ hst => ?_))))))))
 obtain ⟨hb212, h⟩ := chk_some h
 refine ap1 (TInt .u8) (xs := x70) (ys := [34]) 1 1 0 hst hrc74 (RC.k1 rfl (RC.nil _ _)) hb212 (fun A213 c214 cs215 _ hrc216 hst => ?_)
 have hst := pk0 hst
 refine vl (cro hst.rd 0 hrc216) ?_
 have hst := pk10 hst
 obtain ⟨r217, hq218, h⟩ := bs h
 refine cal (c_writer_put hq218 hst (RC.mono hl142 hrc1_) (Glob.mono hl142 hG)) ?_
 rintro _ _ ⟨m219, A222, c223, cs224, rfl, hl220, hst, hrc225⟩
 refine nl (we [] ?_)
 have hst := pk28 hst
 have e226 := hl142.trans hl220
 have h := Option.some.inj h; subst h
 exact ⟨_, rfl, m219, A222, c223, cs224, rfl, e226, hst, hrc225⟩
def R_writer_label (g : World) (m : Mem) (F : List Asr) (ob0 : Nat) (r : SWriter) (v : Value) (w' : World) : Prop := ∃ m' A1 c1 cs1, v = vt [] ∧ m.le m' ∧ St g m' (oo ob0 123 (cSWriter r (vs A1 r.out c1)) :: rw_ 5 1 A1 r.out c1 cs1 :: F) w' ∧ RC (TInt .u8) m' r.out cs1
theorem c_writer_label {a0 : SWriter} {a1 : Str} {r : SWriter} {A1_ : Option Addr} {c1_ : Nat} {cs1_ : List Value} (h : writer_label k a0 a1 = some r) (hst : St g m (oo ob0 123 (cSWriter a0 (vs A1_ a0.out c1_)) :: rw_ 5 1 A1_ a0.out c1_ cs1_ :: F) w) (hrc1_ : RC (TInt .u8) m a0.out cs1_) (hG : Glob m) :
    Calls Tryz.prog 143 ⟨[vp ob0 0, vstr a1]⟩ w (OPost (R_writer_label g m F ob0) r) := by
 refine calls_enter Tryz.func143 rfl rfl ?_
 unfold writer_label at h
 refine sq (qr (s0 1 [] ?_))
 obtain ⟨r1, hq2, h⟩ := bs h
 refine cal (c_syntax_isWord hq2 hst) ?_
 rintro _ _ ⟨m3, rfl, hl4, hst⟩
 refine nl (tn (cn h (fun h => ?_) (fun h => ?_)))
 ·refine qr (s0 2 [] (li 9 1 [vstr a1] hst (fun b5 _ hst => ?_)))
  obtain ⟨m6, hl7, hst, hs8⟩ := hst.obj_slice (T := TStr) (xs := [a1]) (RC.k1 rfl (RC.nil _ _)) rfl
  have e9 := hl4.trans hl7
  obtain ⟨r10, hq11, h⟩ := bs h
  refine cal (c_writer_words hq11 hst (RC.mono e9 hrc1_) hs8 (Glob.mono e9 hG)) ?_
  rintro _ _ ⟨m12, A15, c16, cs17, rfl, hl13, hst, hrc18⟩
  refine nl (tn (wp_ret (tr (wr [] ?_))))
  have e19 := e9.trans hl13
  have h := Option.some.inj h; subst h
  exact ⟨_, rfl, m12, A15, c16, cs17, rfl, e19, hst, hrc18⟩
 refine wp_skip (tn (rg (s0 2 [] ?_)))
 obtain ⟨r20, hq21, h⟩ := bs h
 refine cal (c_writer_text hq21 hst (RC.mono hl4 hrc1_) (Glob.mono hl4 hG)) ?_
 rintro _ _ ⟨m22, A25, c26, cs27, rfl, hl23, hst, hrc28⟩
 refine nl (we [] ?_)
 have e29 := hl4.trans hl23
 have h := Option.some.inj h; subst h
 exact ⟨_, rfl, m22, A25, c26, cs27, rfl, e29, hst, hrc28⟩
def R_writer_path (g : World) (m : Mem) (F : List Asr) (ob0 : Nat) (r : SWriter) (v : Value) (w' : World) : Prop := ∃ m' A1 c1 cs1, v = vt [] ∧ m.le m' ∧ St g m' (oo ob0 123 (cSWriter r (vs A1 r.out c1)) :: rw_ 5 1 A1 r.out c1 cs1 :: F) w' ∧ RC (TInt .u8) m' r.out cs1
theorem c_writer_path {a0 : SWriter} {a1 : Str} {a2 : Str} {r : SWriter} {A1_ : Option Addr} {c1_ : Nat} {cs1_ : List Value} (h : writer_path k a0 a1 a2 = some r) (hst : St g m (oo ob0 123 (cSWriter a0 (vs A1_ a0.out c1_)) :: rw_ 5 1 A1_ a0.out c1_ cs1_ :: F) w) (hrc1_ : RC (TInt .u8) m a0.out cs1_) (hG : Glob m) :
    Calls Tryz.prog 144 ⟨[vp ob0 0, vstr a1, vstr a2]⟩ w (OPost (R_writer_path g m F ob0) r) := by
 refine calls_enter Tryz.func144 rfl rfl ?_
 unfold writer_path at h
 refine qr (s0 2 [] (li 9 1 [vstr a1] hst (fun b1 _ hst => ?_)))
 obtain ⟨m2, hl3, hst, hs4⟩ := hst.obj_slice (T := TStr) (xs := [a1]) (RC.k1 rfl (RC.nil _ _)) rfl
 obtain ⟨r5, hq6, h⟩ := bs h
 refine cal (c_writer_words hq6 hst (RC.mono hl3 hrc1_) hs4 (Glob.mono hl3 hG)) ?_
 rintro _ _ ⟨m7, A10, c11, cs12, rfl, hl8, hst, hrc13⟩
 refine nl (tn (qr (s0 1 [] (vl (re a1 w_attr) (nl (tn (cn h (fun h => ?_) (fun h => ?_))))))))
 ·refine qr (s0 1 [] ?_)
  have e18 := hl3.trans hl8
  obtain ⟨r14, hq15, h⟩ := bs h
  refine cal (c_writer_sign hq15 hst hrc13 (Glob.mono e18 hG)) ?_
  rintro _ _ ⟨m16, A20, c21, cs22, rfl, hl17, hst, hrc23⟩
  refine nl (tn (rg (s0 2 [] ?_)))
  have e28 := e18.trans hl17
  obtain ⟨r24, hq25, h⟩ := bs h
  refine cal (c_writer_label hq25 hst hrc23 (Glob.mono e28 hG)) ?_
  rintro _ _ ⟨m26, A30, c31, cs32, rfl, hl27, hst, hrc33⟩
  refine nl (we [] ?_)
  have e34 := e28.trans hl27
  have h := Option.some.inj h; subst h
  exact ⟨_, rfl, m26, A30, c31, cs32, rfl, e34, hst, hrc33⟩
 refine wp_skip (we [] ?_)
 have e35 := hl3.trans hl8
 have h := Option.some.inj h; subst h
 exact ⟨_, rfl, m7, A10, c11, cs12, rfl, e35, hst, hrc13⟩
abbrev R_strconv_Itoa := RStr
theorem c_strconv_Itoa {a0 : Int} {r : Str} (h : strconv_Itoa a0 = some r) (hst : St g m (F) w) (hG : Glob m) :
    Calls Tryz.prog 167 ⟨[vi a0]⟩ w (OPost (R_strconv_Itoa g m F) r) := by
  unfold strconv_Itoa at h
  obtain ⟨hb, h⟩ := chk_some h
  simp only [Bool.and_eq_true, decide_eq_true_eq] at hb
  have h := Option.some.inj h; subst h
  refine (Tryz.strconv_Itoa a0 hb.1 hb.2 w (hG.p w hst.mem)).mono ?_
  rw [itoaK_eq hb.1 hb.2]
  rintro e w' ⟨rfl, k, os, rfl⟩
  exact ⟨_, rfl, m, rfl, Mem.le.refl m, hst.wider (fun b hb => by simp only [Sort.grow, World.drewN]; exact Array.getElem?_append_left hb) rfl rfl rfl⟩
def R_writer_number (g : World) (m : Mem) (F : List Asr) (ob0 : Nat) (r : SWriter) (v : Value) (w' : World) : Prop := ∃ m' A1 c1 cs1, v = vt [] ∧ m.le m' ∧ St g m' (oo ob0 123 (cSWriter r (vs A1 r.out c1)) :: rw_ 5 1 A1 r.out c1 cs1 :: F) w' ∧ RC (TInt .u8) m' r.out cs1
theorem c_writer_number {a0 : SWriter} {a1 : Int} {r : SWriter} {A1_ : Option Addr} {c1_ : Nat} {cs1_ : List Value} (h : writer_number k a0 a1 = some r) (hst : St g m (oo ob0 123 (cSWriter a0 (vs A1_ a0.out c1_)) :: rw_ 5 1 A1_ a0.out c1_ cs1_ :: F) w) (hrc1_ : RC (TInt .u8) m a0.out cs1_) (hG : Glob m) :
    Calls Tryz.prog 131 ⟨[vp ob0 0, vi a1]⟩ w (OPost (R_writer_number g m F ob0) r) := by
 refine calls_enter Tryz.func131 rfl rfl ?_
 unfold writer_number at h
 refine sq (qr (s0 2 [vb (decide (a1 < 0))] (nl (tn (cn h (fun h => ?_) (fun h => ?_))))))
 ·refine qr (s0 1 [] ?_)
  obtain ⟨r1, hq2, h⟩ := bs h
  refine cal (c_writer_sign hq2 hst hrc1_ hG) ?_
  rintro _ _ ⟨m3, A6, c7, cs8, rfl, hl4, hst, hrc9⟩
  refine nl (tn (rg (s0 3 [vi (w64 (0 - a1))] (nl (tn (rg (s0 3 [va [vi 2, vi 0, vstr w_0, vi 0]] ?_)))))))
  obtain ⟨r10, hq11, h⟩ := bs h
  refine cal (c_strconv_Itoa hq11 hst (Glob.mono hl4 hG)) ?_
  rintro _ _ ⟨m12, rfl, hl13, hst⟩
  have e18 := hl4.trans hl13
  obtain ⟨r14, hq15, h⟩ := bs h
  refine cal (c_writer_put hq15 hst (RC.mono hl13 hrc9) (Glob.mono e18 hG)) ?_
  rintro _ _ ⟨m16, A20, c21, cs22, rfl, hl17, hst, hrc23⟩
  refine nl (we [] ?_)
  have e24 := e18.trans hl17
  have h := Option.some.inj h; subst h
  exact ⟨_, rfl, m16, A20, c21, cs22, rfl, e24, hst, hrc23⟩
 refine wp_skip (tn (rg (s0 3 [va [vi 2, vi 0, vstr w_0, vi 0]] ?_)))
 obtain ⟨r25, hq26, h⟩ := bs h
 refine cal (c_strconv_Itoa hq26 hst hG) ?_
 rintro _ _ ⟨m27, rfl, hl28, hst⟩
 obtain ⟨r29, hq30, h⟩ := bs h
 refine cal (c_writer_put hq30 hst (RC.mono hl28 hrc1_) (Glob.mono hl28 hG)) ?_
 rintro _ _ ⟨m31, A34, c35, cs36, rfl, hl32, hst, hrc37⟩
 refine nl (we [] ?_)
 have e38 := hl28.trans hl32
 have h := Option.some.inj h; subst h
 exact ⟨_, rfl, m31, A34, c35, cs36, rfl, e38, hst, hrc37⟩
def R_writer_value (g : World) (m : Mem) (F : List Asr) (ob0 : Nat) (r : SWriter) (v : Value) (w' : World) : Prop := ∃ m' A1 c1 cs1, v = vt [] ∧ m.le m' ∧ St g m' (oo ob0 123 (cSWriter r (vs A1 r.out c1)) :: rw_ 5 1 A1 r.out c1 cs1 :: F) w' ∧ RC (TInt .u8) m' r.out cs1
theorem c_writer_value {a0 : SWriter} {a1 : GValue} {r : SWriter} {A1_ : Option Addr} {c1_ : Nat} {cs1_ : List Value} (h : writer_value k a0 a1 = some r) (hst : St g m (oo ob0 123 (cSWriter a0 (vs A1_ a0.out c1_)) :: rw_ 5 1 A1_ a0.out c1_ cs1_ :: F) w) (hrc1_ : RC (TInt .u8) m a0.out cs1_) (hG : Glob m) :
    Calls Tryz.prog 145 ⟨[vp ob0 0, va (cGValue a1)]⟩ w (OPost (R_writer_value g m F ob0) r) := by
 refine calls_enter Tryz.func145 rfl rfl ?_
 unfold writer_value at h
 refine qr (bo_ (cGValue a1) hst (fun b1 _ hst => ?_))
 refine nl (tn (qr (sg 2 [vp b1 0, vi a1.Kind] _ (hst.q 0 0 1) (nl (tn (bk (qr (s0 2 [vb (a1.Kind == 1)] (nl (tn (cn h (fun h => ?_) (fun h => ?_))))))))))))
 ·refine rg (sg 3 [vp b1 1, vstr a1.Text] _ (hst.q 0 1 1) ?_)
  have hst := pk10 hst
  obtain ⟨r2, hq3, h⟩ := bs h
  refine cal (c_writer_text hq3 hst hrc1_ hG) ?_
  rintro _ _ ⟨m4, A7, c8, cs9, rfl, hl5, hst, hrc10⟩
  refine nl (bn (we [] ?_))
  have hst := pk28 hst
  have h := Option.some.inj h; subst h
  exact ⟨_, rfl, m4, A7, c8, cs9, rfl, hl5, hst, hrc10⟩
 refine qr (s0 2 [vb (a1.Kind == 2)] (nl (tn (cn h (fun h => ?_) (fun h => ?_)))))
 ·refine rg (sg 3 [vp b1 2, vi a1.Int] _ (hst.q 0 2 1) ?_)
  have hst := pk10 hst
  obtain ⟨r11, hq12, h⟩ := bs h
  refine cal (c_writer_number hq12 hst hrc1_ hG) ?_
  rintro _ _ ⟨m13, A16, c17, cs18, rfl, hl14, hst, hrc19⟩
  refine nl (bn (we [] ?_))
  have hst := pk28 hst
  have h := Option.some.inj h; subst h
  exact ⟨_, rfl, m13, A16, c17, cs18, rfl, hl14, hst, hrc19⟩
 refine rg (sg 4 [va [vstr w_false, vstr w_true], vp b1 2, vi a1.Int] _ (hst.q 0 2 1) ?_)
 obtain ⟨c21, hc22, h⟩ := ix h
 refine vl (ras 9 .i64 ([w_false, w_true] : List Str) hc22.1 hc22.2) (li 9 1 [vstr c21] hst (fun b23 _ hst => ?_))
 obtain ⟨m24, hl25, hst, hs26⟩ := hst.obj_slice (T := TStr) (xs := [c21]) (RC.k1 rfl (RC.nil _ _)) rfl
 have hst := pk10 hst
 obtain ⟨r27, hq28, h⟩ := bs h
 refine cal (c_writer_words hq28 hst (RC.mono hl25 hrc1_) hs26 (Glob.mono hl25 hG)) ?_
 rintro _ _ ⟨m29, A32, c33, cs34, rfl, hl30, hst, hrc35⟩
 refine nl (bn (we [] ?_))
 have hst := pk28 hst
 have e36 := hl25.trans hl30
 have h := Option.some.inj h; subst h
 exact ⟨_, rfl, m29, A32, c33, cs34, rfl, e36, hst, hrc35⟩
def R_writer_pred (g : World) (m : Mem) (F : List Asr) (ob0 : Nat) (r : SWriter) (v : Value) (w' : World) : Prop := ∃ m' A1 c1 cs1, v = vt [] ∧ m.le m' ∧ St g m' (oo ob0 123 (cSWriter r (vs A1 r.out c1)) :: rw_ 5 1 A1 r.out c1 cs1 :: F) w' ∧ RC (TInt .u8) m' r.out cs1
def R_writer_argument (g : World) (m : Mem) (F : List Asr) (ob0 : Nat) (r : SWriter) (v : Value) (w' : World) : Prop := ∃ m' A1 c1 cs1, v = vt [] ∧ m.le m' ∧ St g m' (oo ob0 123 (cSWriter r (vs A1 r.out c1)) :: rw_ 5 1 A1 r.out c1 cs1 :: F) w' ∧ RC (TInt .u8) m' r.out cs1
structure I_writer_pred (k : Nat) : Prop where
  c_writer_pred : ∀ {a0 : SWriter} {a1 : GPred} {r : SWriter} {g : World} {m : Mem} {F : List Asr} {w : World} {ob0 : Nat} {A1_ : Option Addr} {c1_ : Nat} {cs1_ : List Value} {Au2 : Option Addr} {cu2 : Nat} (h : writer_pred k a0 a1 = some r) (hst : St g m (oo ob0 123 (cSWriter a0 (vs A1_ a0.out c1_)) :: rw_ 5 1 A1_ a0.out c1_ cs1_ :: F) w) (hrc1_ : RC (TInt .u8) m a0.out cs1_) (hu2 : RS (TGPred) m (vs Au2 a1.Args cu2) a1.Args) (hG : Glob m),
    Calls Tryz.prog 70 ⟨[vp ob0 0, va (cGPred a1 (vs Au2 a1.Args cu2))]⟩ w (OPost (R_writer_pred g m F ob0) r)
  c_writer_argument : ∀ {a0 : SWriter} {a1 : GPred} {r : SWriter} {g : World} {m : Mem} {F : List Asr} {w : World} {ob0 : Nat} {A1_ : Option Addr} {c1_ : Nat} {cs1_ : List Value} {Au2 : Option Addr} {cu2 : Nat} (h : writer_argument k a0 a1 = some r) (hst : St g m (oo ob0 123 (cSWriter a0 (vs A1_ a0.out c1_)) :: rw_ 5 1 A1_ a0.out c1_ cs1_ :: F) w) (hrc1_ : RC (TInt .u8) m a0.out cs1_) (hu2 : RS (TGPred) m (vs Au2 a1.Args cu2) a1.Args) (hG : Glob m),
    Calls Tryz.prog 142 ⟨[vp ob0 0, va (cGPred a1 (vs Au2 a1.Args cu2))]⟩ w (OPost (R_writer_argument g m F ob0) r)
theorem s_writer_pred (ih : ∀ j, j < k → I_writer_pred j) {a0 : SWriter} {a1 : GPred} {r : SWriter} {A1_ : Option Addr} {c1_ : Nat} {cs1_ : List Value} (h : writer_pred k a0 a1 = some r) (hst : St g m (oo ob0 123 (cSWriter a0 (vs A1_ a0.out c1_)) :: rw_ 5 1 A1_ a0.out c1_ cs1_ :: F) w) (hrc1_ : RC (TInt .u8) m a0.out cs1_) (hu2 : RS (TGPred) m (vs Au2 a1.Args cu2) a1.Args) (hG : Glob m) :
    Calls Tryz.prog 70 ⟨[vp ob0 0, va (cGPred a1 (vs Au2 a1.Args cu2))]⟩ w (OPost (R_writer_pred g m F ob0) r) := by
 refine calls_enter Tryz.func70 rfl rfl ?_
 obtain _ | k1 := k
 ·simp [writer_pred] at h
 rw [writer_pred] at h
 refine qr (bo_ (cGPred a1 (vs Au2 a1.Args cu2)) hst (fun b1 _ hst => ?_))
 refine nl (tn (qr (sg 2 [vp b1 0, vi a1.Op] _ (hst.q 0 0 1) (nl (tn (bk (qr (s0 2 [vb (a1.Op == 0)] (nl (tn (cn h (fun h => ?_) (fun h => ?_))))))))))))
 ·refine rg (s0 1 [] (li 9 1 [vstr w_true] hst (fun b2 _ hst => ?_)))
  obtain ⟨m3, hl4, hst, hs5⟩ := hst.obj_slice (T := TStr) (xs := [w_true]) (RC.k1 rfl (RC.nil _ _)) rfl
  have hst := pk10 hst
  obtain ⟨r6, hq7, h⟩ := bs h
  refine cal (c_writer_words hq7 hst (RC.mono hl4 hrc1_) hs5 (Glob.mono hl4 hG)) ?_
  rintro _ _ ⟨m8, A11, c12, cs13, rfl, hl9, hst, hrc14⟩
  refine nl (bn (we [] ?_))
  have hst := pk28 hst
  have e15 := hl4.trans hl9
  have h := Option.some.inj h; subst h
  exact ⟨_, rfl, m8, A11, c12, cs13, rfl, e15, hst, hrc14⟩
 refine wc_join (fun a w => ∃ f0 k18 m20 x16, a = act Tryz.f70.ntmps (upds f0 [(0, vp ob0 0), (3, vp b1 0), (7, vi a1.Op), (36, vb x16)]) ∧ k18 ≤ k1 ∧ writer_pred_j1 k18 a0 a1 x16 = some r ∧ m.le m20 ∧ St g m20 (oo b1 44 (cGPred a1 (vs Au2 a1.Args cu2)) :: oo ob0 123 (cSWriter a0 (vs A1_ a0.out c1_)) :: rw_ 5 1 A1_ a0.out c1_ cs1_ :: F) w) ?_ ?_
 ·rintro _ _ ⟨f0, k18, m20, x16, rfl, hk19, h, hl17, hst⟩
  obtain _ | k21 := k18
  ·simp [writer_pred_j1] at h
  rw [writer_pred_j1] at h
  refine cn h (fun h => ?_) (fun h => ?_)
  ·refine qr (sg 4 [vp b1 6, vs Au2 a1.Args cu2, vi ((a1.Args).length : Int), vi 0] _ (hst.q 0 6 1) (nl (tn (bk (wc_loop (fun kk a w => ∃ f0 m156 x82 A83 c84 cs85 x87 x88 x89 x90 x91, a = act Tryz.f70.ntmps (upds f0 [(0, vp ob0 0), (3, vp b1 0), (40, vs Au2 a1.Args cu2), (41, vi ((a1.Args).length : Int)), (42, vi x91)]) ∧ kk ≤ k21 ∧ writer_pred_l2 kk a1 x82 x87 x88 x89 x90 x91 = some r ∧ m20.le m156 ∧ St g m156 (oo b1 44 (cGPred a1 (vs Au2 a1.Args cu2)) :: oo ob0 123 [vs A83 x82 c84, vi x87, vi x88, vstr x89, vi x90] :: rw_ 5 1 A83 x82 c84 cs85 :: F) w ∧ RC (TInt .u8) m156 x82 cs85) k21 ?_ ?_)))))
   ·exact ⟨_, m20, (a0.out), A1_, c1_, cs1_, (a0.last.kind), (a0.last.at_), (a0.last.s_), (a0.last.n_), (0), au, (Nat.le_refl _), h, (Mem.le.refl _), hst, (RC.mono hl17 hrc1_)⟩
   rintro k154 ih155 _ _ ⟨f0, m156, x82, A83, c84, cs85, x87, x88, x89, x90, x91, rfl, hk153, h, hl152, hst, hrc86⟩
   obtain _ | k158 := k154
   ·simp [writer_pred_l2] at h
   rw [writer_pred_l2] at h
   refine qr (s0 1 [vb (decide (x91 < ((a1.Args).length : Int)))] (nl (tn (sq (cn h (fun h => ?_) (fun h => ?_))))))
   ·refine wp_skip (tn (sq (bk (qr (s0 1 [] ?_)))))
    obtain ⟨x160, hx161, h⟩ := ix h
    have e168 := hl17.trans hl152
    obtain ⟨b162, o163, cs164, hR165, hA166, hI167⟩ := RS.ix (P := Tryz.prog) (RS.mono e168 hu2) hx161
    obtain ⟨Aq169, cq169, rfl, hq169⟩ := TGPred.opn hR165
    refine vl (hI167.r .i64) (sg 1 [va (cGPred x160 (vs Aq169 x160.Args cq169))] _ (hst.f hA166 0 7) (al [vi 0, vstr w_0, vstr w_0, vi 0, vstr w_0, vi 0, vn] hst (fun b170 _ hst => ?_)))
    have hrc172 := RC.nil (TGPred) m156
    have hst := hst.nil_row 44 7
    refine s0 1 [] (so1 0 (cGPred x160 (vs Aq169 x160.Args cq169)) hst (fun _ hst => ?_))
    refine nl (tn (sq (qr (s0 2 [vb (decide (x91 > 0))] (nl (tn (cn h (fun h => ?_) (fun h => ?_))))))))
    ·refine rg (sg 4 [va [vstr w_0, vstr w_and, vstr w_or], vp b1 0, vi a1.Op] _ (hst.q 2 0 1) ?_)
     obtain ⟨c174, hc175, h⟩ := ix h
     refine vl (ras 9 .i64 ([w_0, w_and, w_or] : List Str) hc175.1 hc175.2) (li 9 1 [vstr c174] hst (fun b176 _ hst => ?_))
     obtain ⟨m177, hl178, hst, hs179⟩ := hst.obj_slice (T := TStr) (xs := [c174]) (RC.k1 rfl (RC.nil _ _)) rfl
     have hst := pk29 hst
     have e184 := e168.trans hl178
     obtain ⟨r180, hq181, h⟩ := bs h
     refine cal (c_writer_words hq181 hst (RC.mono hl178 hrc86) hs179 (Glob.mono e184 hG)) ?_
     rintro _ _ ⟨m182, A186, c187, cs188, rfl, hl183, hst, hrc189⟩
     refine nl (tn (rg (sg 2 [va (cGPred x160 (vs Aq169 x160.Args cq169))] _ (hst.q 3 0 7) ?_)))
     have e190 := hl178.trans hl183
     have e195 := e184.trans hl183
     obtain ⟨r191, hq192, h⟩ := bs h
     refine cal ((ih k158 (by omega)).c_writer_argument hq192 hst hrc189 (RS.mono e190 hq169) (Glob.mono e195 hG)) ?_
     rintro _ _ ⟨m193, A197, c198, cs199, rfl, hl194, hst, hrc200⟩
     refine nl (bn (tn (rg (s0 2 [vi (w64 (x91 + 1))] (nl (tn ?_))))))
     have e201 := hl152.trans (hl178.trans (hl183.trans hl194))
     have hst := pk30 hst
     exact ih155 k158 (by omega) _ _ ⟨_, m193, (r191.out), A197, c198, cs199, (r191.last.kind), (r191.last.at_), (r191.last.s_), (r191.last.n_), (w64 (x91 + 1)), au, (by omega), h, e201, hst, hrc200⟩
    refine wp_skip (tn (rg (sg 2 [va (cGPred x160 (vs Aq169 x160.Args cq169))] _ (hst.q 1 0 7) ?_)))
    have hst := pk29 hst
    obtain ⟨r202, hq203, h⟩ := bs h
    refine cal ((ih k158 (by omega)).c_writer_argument hq203 hst hrc86 hq169 (Glob.mono e168 hG)) ?_
    rintro _ _ ⟨m204, A207, c208, cs209, rfl, hl205, hst, hrc210⟩
    refine nl (bn (tn (rg (s0 2 [vi (w64 (x91 + 1))] (nl (tn ?_))))))
    have e211 := hl152.trans hl205
    have hst := pk30 hst
    exact ih155 k158 (by omega) _ _ ⟨_, m204, (r202.out), A207, c208, cs209, (r202.last.kind), (r202.last.at_), (r202.last.s_), (r202.last.n_), (w64 (x91 + 1)), au, (by omega), h, e211, hst, hrc210⟩
   refine wp_exit (tx (tx (bx (bn (we [] ?_)))))
   have hst := pk0 hst
   have e212 := hl17.trans hl152
   cases h
   exact ⟨_, rfl, m156, A83, c84, cs85, rfl, e212, hst, hrc86⟩
  refine qr (s0 2 [vb (a1.Op == 3)] (nl (tn (cn h (fun h => ?_) (fun h => ?_)))))
  ·refine qr (s0 1 [] (li 9 1 [vstr w_not] hst (fun b213 _ hst => ?_)))
   obtain ⟨m214, hl215, hst, hs216⟩ := hst.obj_slice (T := TStr) (xs := [w_not]) (RC.k1 rfl (RC.nil _ _)) rfl
   have e217 := hl17.trans hl215
   have hst := pk10 hst
   obtain ⟨r218, hq219, h⟩ := bs h
   refine cal (c_writer_words hq219 hst (RC.mono e217 hrc1_) hs216 (Glob.mono e217 hG)) ?_
   rintro _ _ ⟨m220, A223, c224, cs225, rfl, hl221, hst, hrc226⟩
   refine nl (tn (rg (sg 3 [vp b1 6, vs Au2 a1.Args cu2] _ (hst.q 2 6 1) ?_)))
   obtain ⟨x228, hx229, h⟩ := ix h
   have e236 := e217.trans hl221
   obtain ⟨b230, o231, cs232, hR233, hA234, hI235⟩ := RS.ix (P := Tryz.prog) (RS.mono e236 hu2) hx229
   obtain ⟨Aq237, cq237, rfl, hq237⟩ := TGPred.opn hR233
   refine vl (hI235.r .i64) (sg 1 [va (cGPred x228 (vs Aq237 x228.Args cq237))] _ (hst.f hA234 0 7) ?_)
   obtain ⟨r238, hq239, h⟩ := bs h
   refine cal ((ih k21 (by omega)).c_writer_argument hq239 hst hrc226 hq237 (Glob.mono e236 hG)) ?_
   rintro _ _ ⟨m240, A243, c244, cs245, rfl, hl241, hst, hrc246⟩
   refine nl (bn (we [] ?_))
   have hst := pk28 hst
   have e247 := e236.trans hl241
   have h := Option.some.inj h; subst h
   exact ⟨_, rfl, m240, A243, c244, cs245, rfl, e247, hst, hrc246⟩
  refine qr (s0 2 [vb (a1.Op == 4)] (nl (tn (cn h (fun h => ?_) (fun h => ?_)))))
  ·refine qr (s0 1 [] (li 9 1 [vstr w_has] hst (fun b248 _ hst => ?_)))
   obtain ⟨m249, hl250, hst, hs251⟩ := hst.obj_slice (T := TStr) (xs := [w_has]) (RC.k1 rfl (RC.nil _ _)) rfl
   have e252 := hl17.trans hl250
   have hst := pk10 hst
   obtain ⟨r253, hq254, h⟩ := bs h
   refine cal (c_writer_words hq254 hst (RC.mono e252 hrc1_) hs251 (Glob.mono e252 hG)) ?_
   rintro _ _ ⟨m255, A258, c259, cs260, rfl, hl256, hst, hrc261⟩
   refine nl (tn (rg (sg 3 [vp b1 2, vstr a1.Key] _ (hst.q 2 2 1) ?_)))
   have e266 := e252.trans hl256
   obtain ⟨r262, hq263, h⟩ := bs h
   refine cal (c_writer_label hq263 hst hrc261 (Glob.mono e266 hG)) ?_
   rintro _ _ ⟨m264, A268, c269, cs270, rfl, hl265, hst, hrc271⟩
   refine nl (bn (we [] ?_))
   have hst := pk28 hst
   have e272 := e266.trans hl265
   have h := Option.some.inj h; subst h
   exact ⟨_, rfl, m264, A268, c269, cs270, rfl, e272, hst, hrc271⟩
  refine qr (sg 5 [vp b1 1, vstr a1.Field, vp b1 2, vstr a1.Key] _ (hst.q 0 1 2) ?_)
  have hst := pk10 hst
  obtain ⟨r273, hq274, h⟩ := bs h
  refine cal (c_writer_path hq274 hst (RC.mono hl17 hrc1_) (Glob.mono hl17 hG)) ?_
  rintro _ _ ⟨m275, A278, c279, cs280, rfl, hl276, hst, hrc281⟩
  refine nl (tn (sq (qr (sg 2 [vp b1 0, vi a1.Op] _ (hst.q 2 0 1) (nl (tn (bk (qr (s0 2 [vb (a1.Op == 5)] (nl (tn (cn h (fun h => ?_) (fun h => ?_)))))))))))))
  ·refine rg (s0 1 [] ?_)
   have e286 := hl17.trans hl276
   obtain ⟨r282, hq283, h⟩ := bs h
   refine cal (c_writer_sign hq283 hst hrc281 (Glob.mono e286 hG)) ?_
   rintro _ _ ⟨m284, A288, c289, cs290, rfl, hl285, hst, hrc291⟩
   refine nl (bn (tn (rg (sg 3 [vp b1 3, va (cGValue a1.Value)] _ (hst.q 2 3 3) ?_))))
   have e296 := e286.trans hl285
   obtain ⟨r292, hq293, h⟩ := bs h
   refine cal (c_writer_value hq293 hst hrc291 (Glob.mono e296 hG)) ?_
   rintro _ _ ⟨m294, A298, c299, cs300, rfl, hl295, hst, hrc301⟩
   refine nl (bn (we [] ?_))
   have hst := pk28 hst
   have e302 := e296.trans hl295
   have h := Option.some.inj h; subst h
   exact ⟨_, rfl, m294, A298, c299, cs300, rfl, e302, hst, hrc301⟩
  refine qr (s0 2 [vb (a1.Op == 6)] (nl (tn (cn h (fun h => ?_) (fun h => ?_)))))
  ·refine rg (s0 1 [] ?_)
   have e307 := hl17.trans hl276
   obtain ⟨r303, hq304, h⟩ := bs h
   refine cal (c_writer_sign hq304 hst hrc281 (Glob.mono e307 hG)) ?_
   rintro _ _ ⟨m305, A309, c310, cs311, rfl, hl306, hst, hrc312⟩
   refine nl (bn (tn (rg (sg 3 [vp b1 3, va (cGValue a1.Value)] _ (hst.q 2 3 3) ?_))))
   have e317 := e307.trans hl306
   obtain ⟨r313, hq314, h⟩ := bs h
   refine cal (c_writer_value hq314 hst hrc312 (Glob.mono e317 hG)) ?_
   rintro _ _ ⟨m315, A319, c320, cs321, rfl, hl316, hst, hrc322⟩
   refine nl (bn (we [] ?_))
   have hst := pk28 hst
   have e323 := e317.trans hl316
   have h := Option.some.inj h; subst h
   exact ⟨_, rfl, m315, A319, c320, cs321, rfl, e323, hst, hrc322⟩
  refine rg (s0 1 [] (li 9 1 [vstr w_prefix] hst (fun b324 _ hst => ?_)))
  obtain ⟨m325, hl326, hst, hs327⟩ := hst.obj_slice (T := TStr) (xs := [w_prefix]) (RC.k1 rfl (RC.nil _ _)) rfl
  have e332 := hl17.trans (hl276.trans hl326)
  obtain ⟨r328, hq329, h⟩ := bs h
  refine cal (c_writer_words hq329 hst (RC.mono hl326 hrc281) hs327 (Glob.mono e332 hG)) ?_
  rintro _ _ ⟨m330, A334, c335, cs336, rfl, hl331, hst, hrc337⟩
  refine nl (bn (tn (rg (sg 3 [vp b1 3, va (cGValue a1.Value)] _ (hst.q 2 3 3) ?_))))
  have e342 := e332.trans hl331
  obtain ⟨r338, hq339, h⟩ := bs h
  refine cal (c_writer_value hq339 hst hrc337 (Glob.mono e342 hG)) ?_
  rintro _ _ ⟨m340, A344, c345, cs346, rfl, hl341, hst, hrc347⟩
  refine nl (bn (we [] ?_))
  have hst := pk28 hst
  have e348 := e342.trans hl341
  have h := Option.some.inj h; subst h
  exact ⟨_, rfl, m340, A344, c345, cs346, rfl, e348, hst, hrc347⟩
 refine qr (s0 2 [vb (a1.Op == 1)] (nl (tn (cn h (fun h => ?_) (fun h => ?_)))))
 ·refine wp_skip (tn ?_)
  exact ⟨_, k1, m, ((a1.Op == 1)), au, (by omega), h, (Mem.le.refl _), hst⟩
 refine rg (s0 2 [vb (a1.Op == 2)] (nl (tn ?_)))
 exact ⟨_, k1, m, ((a1.Op == 2)), au, (by omega), h, (Mem.le.refl _), hst⟩
theorem s_writer_argument (ih : ∀ j, j < k → I_writer_pred j) {a0 : SWriter} {a1 : GPred} {r : SWriter} {A1_ : Option Addr} {c1_ : Nat} {cs1_ : List Value} (h : writer_argument k a0 a1 = some r) (hst : St g m (oo ob0 123 (cSWriter a0 (vs A1_ a0.out c1_)) :: rw_ 5 1 A1_ a0.out c1_ cs1_ :: F) w) (hrc1_ : RC (TInt .u8) m a0.out cs1_) (hu2 : RS (TGPred) m (vs Au2 a1.Args cu2) a1.Args) (hG : Glob m) :
    Calls Tryz.prog 142 ⟨[vp ob0 0, va (cGPred a1 (vs Au2 a1.Args cu2))]⟩ w (OPost (R_writer_argument g m F ob0) r) := by
 refine calls_enter Tryz.func142 rfl rfl ?_
 obtain _ | k1 := k
 ·simp [writer_argument] at h
 rw [writer_argument] at h
 refine qr (bo_ (cGPred a1 (vs Au2 a1.Args cu2)) hst (fun b1 _ hst => ?_))
 refine nl (tn (sq (wc_join (fun a w => ∃ f0 k5 m7 x3, a = act Tryz.f142.ntmps (upds f0 [(0, vp ob0 0), (3, vp b1 0), (11, vb x3)]) ∧ k5 ≤ k1 ∧ writer_argument_j1 k5 a0 a1 x3 = some r ∧ m.le m7 ∧ St g m7 (oo b1 44 (cGPred a1 (vs Au2 a1.Args cu2)) :: oo ob0 123 (cSWriter a0 (vs A1_ a0.out c1_)) :: rw_ 5 1 A1_ a0.out c1_ cs1_ :: F) w) ?_ ?_)))
 ·rintro _ _ ⟨f0, k5, m7, x3, rfl, hk6, h, hl4, hst⟩
  obtain _ | k8 := k5
  ·simp [writer_argument_j1] at h
  rw [writer_argument_j1] at h
  refine cn h (fun h => ?_) (fun h => ?_)
  ·refine qr (sg 2 [va (cGPred a1 (vs Au2 a1.Args cu2))] _ (hst.q 0 0 7) ?_)
   have hst := pk10 hst
   obtain ⟨r9, hq10, h⟩ := bs h
   refine cal ((ih k8 (by omega)).c_writer_pred hq10 hst (RC.mono hl4 hrc1_) (RS.mono hl4 hu2) (Glob.mono hl4 hG)) ?_
   rintro _ _ ⟨m11, A14, c15, cs16, rfl, hl12, hst, hrc17⟩
   refine nl (tn (wp_ret (tr (wr [] ?_))))
   have hst := pk28 hst
   have e18 := hl4.trans hl12
   have h := Option.some.inj h; subst h
   exact ⟨_, rfl, m11, A14, c15, cs16, rfl, e18, hst, hrc17⟩
  refine wp_skip (tn (qr (s0 1 [] ?_)))
  have hst := pk10 hst
  obtain ⟨r19, hq20, h⟩ := bs h
  refine cal (c_writer_sign hq20 hst (RC.mono hl4 hrc1_) (Glob.mono hl4 hG)) ?_
  rintro _ _ ⟨m21, A24, c25, cs26, rfl, hl22, hst, hrc27⟩
  refine nl (tn (qr (sg 2 [va (cGPred a1 (vs Au2 a1.Args cu2))] _ (hst.q 2 0 7) ?_)))
  have e28 := hl4.trans hl22
  obtain ⟨r29, hq30, h⟩ := bs h
  refine cal ((ih k8 (by omega)).c_writer_pred hq30 hst hrc27 (RS.mono e28 hu2) (Glob.mono e28 hG)) ?_
  rintro _ _ ⟨m31, A34, c35, cs36, rfl, hl32, hst, hrc37⟩
  refine nl (tn (rg (s0 1 [] ?_)))
  have e42 := e28.trans hl32
  obtain ⟨r38, hq39, h⟩ := bs h
  refine cal (c_writer_sign hq39 hst hrc37 (Glob.mono e42 hG)) ?_
  rintro _ _ ⟨m40, A44, c45, cs46, rfl, hl41, hst, hrc47⟩
  refine nl (we [] ?_)
  have hst := pk28 hst
  have e48 := e42.trans hl41
  have h := Option.some.inj h; subst h
  exact ⟨_, rfl, m40, A44, c45, cs46, rfl, e48, hst, hrc47⟩
 refine rg (sg 4 [vp b1 0, vi a1.Op, vb (a1.Op != 1)] _ (hst.q 0 0 1) ?_)
 rcases sp h with ⟨hc49, h⟩ | ⟨hc49, h⟩
 ·rw [hc49]
  refine sg 4 [vp b1 0, vi a1.Op, vb (a1.Op != 2), vb (a1.Op != 2)] _ (hst.q 0 0 1) (nl (tn ?_))
  exact ⟨_, k1, m, ((a1.Op != 2)), au, (by omega), h, (Mem.le.refl _), hst⟩
 rw [hc49]
 refine sk 3 (s0 1 [vb false] (nl (tn ?_)))
 exact ⟨_, k1, m, (false), au, (by omega), h, (Mem.le.refl _), hst⟩
theorem i_writer_pred (k : Nat) : I_writer_pred k := by
  induction k using Nat.strongRecOn with
  | ind k ih => exact ⟨s_writer_pred ih, s_writer_argument ih⟩
theorem c_writer_pred {a0 : SWriter} {a1 : GPred} {r : SWriter} {A1_ : Option Addr} {c1_ : Nat} {cs1_ : List Value} (h : writer_pred k a0 a1 = some r) (hst : St g m (oo ob0 123 (cSWriter a0 (vs A1_ a0.out c1_)) :: rw_ 5 1 A1_ a0.out c1_ cs1_ :: F) w) (hrc1_ : RC (TInt .u8) m a0.out cs1_) (hu2 : RS (TGPred) m (vs Au2 a1.Args cu2) a1.Args) (hG : Glob m) :
    Calls Tryz.prog 70 ⟨[vp ob0 0, va (cGPred a1 (vs Au2 a1.Args cu2))]⟩ w (OPost (R_writer_pred g m F ob0) r) := (i_writer_pred k).c_writer_pred h hst hrc1_ hu2 hG
theorem c_writer_argument {a0 : SWriter} {a1 : GPred} {r : SWriter} {A1_ : Option Addr} {c1_ : Nat} {cs1_ : List Value} (h : writer_argument k a0 a1 = some r) (hst : St g m (oo ob0 123 (cSWriter a0 (vs A1_ a0.out c1_)) :: rw_ 5 1 A1_ a0.out c1_ cs1_ :: F) w) (hrc1_ : RC (TInt .u8) m a0.out cs1_) (hu2 : RS (TGPred) m (vs Au2 a1.Args cu2) a1.Args) (hG : Glob m) :
    Calls Tryz.prog 142 ⟨[vp ob0 0, va (cGPred a1 (vs Au2 a1.Args cu2))]⟩ w (OPost (R_writer_argument g m F ob0) r) := (i_writer_pred k).c_writer_argument h hst hrc1_ hu2 hG
def R_writer_variable (g : World) (m : Mem) (F : List Asr) (ob0 : Nat) (r : SWriter) (v : Value) (w' : World) : Prop := ∃ m' A1 c1 cs1, v = vt [] ∧ m.le m' ∧ St g m' (oo ob0 123 (cSWriter r (vs A1 r.out c1)) :: rw_ 5 1 A1 r.out c1 cs1 :: F) w' ∧ RC (TInt .u8) m' r.out cs1
theorem c_writer_variable {a0 : SWriter} {a1 : GVariable} {r : SWriter} {A1_ : Option Addr} {c1_ : Nat} {cs1_ : List Value} (h : writer_variable k a0 a1 = some r) (hst : St g m (oo ob0 123 (cSWriter a0 (vs A1_ a0.out c1_)) :: rw_ 5 1 A1_ a0.out c1_ cs1_ :: F) w) (hrc1_ : RC (TInt .u8) m a0.out cs1_) (hu2 : RS (TGPred) m (vs Au2 a1.Where.Args cu2) a1.Where.Args) (hG : Glob m) :
    Calls Tryz.prog 127 ⟨[vp ob0 0, va (cGVariable a1 (vs Au2 a1.Where.Args cu2))]⟩ w (OPost (R_writer_variable g m F ob0) r) := by
 refine calls_enter Tryz.func127 rfl rfl ?_
 unfold writer_variable at h
 refine qr (bo_ (cGVariable a1 (vs Au2 a1.Where.Args cu2)) hst (fun b1 _ hst => ?_))
 refine nl (tn (qr (sg 3 [vp b1 0, vstr a1.Name] _ (hst.q 0 0 1) (li 9 1 [vstr a1.Name] hst (fun b2 _ hst => ?_)))))
 obtain ⟨m3, hl4, hst, hs5⟩ := hst.obj_slice (T := TStr) (xs := [a1.Name]) (RC.k1 rfl (RC.nil _ _)) rfl
 have hst := pk10 hst
 obtain ⟨r6, hq7, h⟩ := bs h
 refine cal (c_writer_words hq7 hst (RC.mono hl4 hrc1_) hs5 (Glob.mono hl4 hG)) ?_
 rintro _ _ ⟨m8, A11, c12, cs13, rfl, hl9, hst, hrc14⟩
 refine nl (tn (qr (s0 1 [] ?_)))
 have e19 := hl4.trans hl9
 obtain ⟨r15, hq16, h⟩ := bs h
 refine cal (c_writer_sign hq16 hst hrc14 (Glob.mono e19 hG)) ?_
 rintro _ _ ⟨m17, A21, c22, cs23, rfl, hl18, hst, hrc24⟩
 refine nl (tn (qr (sg 3 [vp b1 1, va (cGPred a1.Where (vs Au2 a1.Where.Args cu2))] _ (hst.q 2 1 7) ?_)))
 have e25 := e19.trans hl18
 obtain ⟨r26, hq27, h⟩ := bs h
 refine cal (c_writer_pred hq27 hst hrc24 (RS.mono e25 hu2) (Glob.mono e25 hG)) ?_
 rintro _ _ ⟨m28, A31, c32, cs33, rfl, hl29, hst, hrc34⟩
 refine nl (tn (rg (s0 1 [] ?_)))
 have e39 := e25.trans hl29
 obtain ⟨r35, hq36, h⟩ := bs h
 refine cal (c_writer_sign hq36 hst hrc34 (Glob.mono e39 hG)) ?_
 rintro _ _ ⟨m37, A41, c42, cs43, rfl, hl38, hst, hrc44⟩
 refine nl (we [] ?_)
 have hst := pk28 hst
 have e45 := e39.trans hl38
 have h := Option.some.inj h; subst h
 exact ⟨_, rfl, m37, A41, c42, cs43, rfl, e45, hst, hrc44⟩
def R_writer_query_c1 (g : World) (m : Mem) (F : List Asr) (ob1 : Nat) (ob2 : Nat) (ob3 : Nat) (r : SWriter × GQuery) (v : Value) (w' : World) : Prop := ∃ m' A1 c1 cs1 Av2 cv2 Av3 cv3 Av4 cv4 Av5 cv5 Av6 cv6 Av7 cv7, v = vt [] ∧ m.le m' ∧ St g m' (oo ob1 163 [vp ob2 0] :: oo ob2 123 (cSWriter r.1 (vs A1 r.1.out c1)) :: rw_ 5 1 A1 r.1.out c1 cs1 :: oo ob3 36 (cGQuery r.2 (vs Av2 r.2.Variables cv2) (vs Av3 r.2.Relations cv3) (vs Av4 r.2.Absences cv4) (vs Av5 r.2.Group cv5) (vs Av6 r.2.Compute cv6) (vs Av7 r.2.Order cv7)) :: F) w' ∧ RC (TInt .u8) m' r.1.out cs1 ∧ RS (TGVariable) m' (vs Av2 r.2.Variables cv2) r.2.Variables ∧ RS (TGRelation) m' (vs Av3 r.2.Relations cv3) r.2.Relations ∧ RS (TGAbsence) m' (vs Av4 r.2.Absences cv4) r.2.Absences ∧ RS (TGColumn) m' (vs Av5 r.2.Group cv5) r.2.Group ∧ RS (TGAggregate) m' (vs Av6 r.2.Compute cv6) r.2.Compute ∧ RS (TGOrderKey) m' (vs Av7 r.2.Order cv7) r.2.Order
theorem c_writer_query_c1 {a0 : Int} {a2 : SWriter} {a3 : GQuery} {r : SWriter × GQuery} {A1_ : Option Addr} {c1_ : Nat} {cs1_ : List Value} (h : writer_query_c1 k a0 a2 a3 = some r) (hst : St g m (oo ob1 163 [vp ob2 0] :: oo ob2 123 (cSWriter a2 (vs A1_ a2.out c1_)) :: rw_ 5 1 A1_ a2.out c1_ cs1_ :: oo ob3 36 (cGQuery a3 (vs Au2 a3.Variables cu2) (vs Au3 a3.Relations cu3) (vs Au4 a3.Absences cu4) (vs Au5 a3.Group cu5) (vs Au6 a3.Compute cu6) (vs Au7 a3.Order cu7)) :: F) w) (hrc1_ : RC (TInt .u8) m a2.out cs1_) (hu2 : RS (TGVariable) m (vs Au2 a3.Variables cu2) a3.Variables) (hu3 : RS (TGRelation) m (vs Au3 a3.Relations cu3) a3.Relations) (hu4 : RS (TGAbsence) m (vs Au4 a3.Absences cu4) a3.Absences) (hu5 : RS (TGColumn) m (vs Au5 a3.Group cu5) a3.Group) (hu6 : RS (TGAggregate) m (vs Au6 a3.Compute cu6) a3.Compute) (hu7 : RS (TGOrderKey) m (vs Au7 a3.Order cu7) a3.Order) (hG : Glob m) :
    Calls Tryz.prog 126 ⟨[vi a0, vp ob1 0, vp ob3 0]⟩ w (OPost (R_writer_query_c1 g m F ob1 ob2 ob3) r) := by
 refine calls_enter Tryz.func126 rfl rfl ?_
 unfold writer_query_c1 at h
 refine dr false (fun x => Rd m (oo ob1 163 [vp ob2 0] :: oo ob3 36 (cGQuery a3 (vs Au2 a3.Variables cu2) (vs Au3 a3.Relations cu3) (vs Au4 a3.Absences cu4) (vs Au5 a3.Group cu5) (vs Au6 a3.Compute cu6) (vs Au7 a3.Order cu7)) :: []) x) ?_
 have hst := hst.drew
 refine gs [0, 1, 3, 2] [vp ob2 0, vp ob3 0, vs Au2 a3.Variables cu2] _ 3 pqb (hst.rd.with_ 0 rfl (hst.rd.with_ 3 rfl (hst.rd.none_))) (fun x hx => (AllC.app (hx.q 0 0 1) (hx.q 1 0 1))) ?_
 obtain ⟨x21, hx22, h⟩ := ix h
 obtain ⟨b23, o24, cs25, hR26, hA27, hI28⟩ := RS.ix (P := Tryz.prog) hu2 hx22
 obtain ⟨Aq29, cq29, rfl, hq29⟩ := TGVariable.opn hR26
 refine gv 4 pqb (hst.rd.with_ 0 rfl (hst.rd.with_ 3 rfl (hst.rd.none_))) rfl (fun x hx => hI28.r .i64) ?_
 refine gs [5] [va (cGVariable x21 (vs Aq29 x21.Where.Args cq29))] _ 1 pqb (hst.rd.with_ 0 rfl (hst.rd.with_ 3 rfl (hst.rd.none_))) (fun x hx => (hx.f hA27 0 8)) ?_
 refine ge 6 rfl ?_
 have hst := pk10 hst
 obtain ⟨r30, hq31, h⟩ := bs h
 refine cal (c_writer_variable hq31 hst hrc1_ hq29 hG) ?_
 rintro _ _ ⟨m32, A35, c36, cs37, rfl, hl33, hst, hrc38⟩
 refine nl (tn (⟨_, fun _ h => h, .inl ⟨rfl, allListed_of _ (by kernel_rfl)⟩, ?_⟩))
 refine gd (we [] ?_)
 have hst := pk5 hst
 cases h
 exact ⟨_, rfl, m32, A35, c36, cs37, Au2, cu2, Au3, cu3, Au4, cu4, Au5, cu5, Au6, cu6, Au7, cu7, rfl, hl33, hst, hrc38, (RS.mono hl33 hu2), (RS.mono hl33 hu3), (RS.mono hl33 hu4), (RS.mono hl33 hu5), (RS.mono hl33 hu6), (RS.mono hl33 hu7)⟩
def R_writer_list (g : World) (m : Mem) (F : List Asr) (ob0 : Nat) (ob2 : Nat) (ob3 : Nat) (r : SWriter × GQuery) (v : Value) (w' : World) : Prop := ∃ m' A1 c1 cs1 Av2 cv2 Av3 cv3 Av4 cv4 Av5 cv5 Av6 cv6 Av7 cv7, v = vt [] ∧ m.le m' ∧ St g m' (oo ob0 123 (cSWriter r.1 (vs A1 r.1.out c1)) :: rw_ 5 1 A1 r.1.out c1 cs1 :: oo ob2 163 [vp ob0 0] :: oo ob3 36 (cGQuery r.2 (vs Av2 r.2.Variables cv2) (vs Av3 r.2.Relations cv3) (vs Av4 r.2.Absences cv4) (vs Av5 r.2.Group cv5) (vs Av6 r.2.Compute cv6) (vs Av7 r.2.Order cv7)) :: F) w' ∧ RC (TInt .u8) m' r.1.out cs1 ∧ RS (TGVariable) m' (vs Av2 r.2.Variables cv2) r.2.Variables ∧ RS (TGRelation) m' (vs Av3 r.2.Relations cv3) r.2.Relations ∧ RS (TGAbsence) m' (vs Av4 r.2.Absences cv4) r.2.Absences ∧ RS (TGColumn) m' (vs Av5 r.2.Group cv5) r.2.Group ∧ RS (TGAggregate) m' (vs Av6 r.2.Compute cv6) r.2.Compute ∧ RS (TGOrderKey) m' (vs Av7 r.2.Order cv7) r.2.Order
theorem c_writer_list {a0 : SWriter} {a1 : Int} {a3 : GQuery} {a4 : List Str} {r : SWriter × GQuery} {A1_ : Option Addr} {c1_ : Nat} {cs1_ : List Value} (h : writer_list k a0 a1 a3 a4 = some r) (hst : St g m (oo ob0 123 (cSWriter a0 (vs A1_ a0.out c1_)) :: rw_ 5 1 A1_ a0.out c1_ cs1_ :: oo ob2 163 [vp ob0 0] :: oo ob3 36 (cGQuery a3 (vs Au2 a3.Variables cu2) (vs Au3 a3.Relations cu3) (vs Au4 a3.Absences cu4) (vs Au5 a3.Group cu5) (vs Au6 a3.Compute cu6) (vs Au7 a3.Order cu7)) :: F) w) (hrc1_ : RC (TInt .u8) m a0.out cs1_) (hu2 : RS (TGVariable) m (vs Au2 a3.Variables cu2) a3.Variables) (hu3 : RS (TGRelation) m (vs Au3 a3.Relations cu3) a3.Relations) (hu4 : RS (TGAbsence) m (vs Au4 a3.Absences cu4) a3.Absences) (hu5 : RS (TGColumn) m (vs Au5 a3.Group cu5) a3.Group) (hu6 : RS (TGAggregate) m (vs Au6 a3.Compute cu6) a3.Compute) (hu7 : RS (TGOrderKey) m (vs Au7 a3.Order cu7) a3.Order) (hu8 : RS (TStr) m (vs Au8 a4 cu8) a4) (hG : Glob m) :
    Calls Tryz.prog 125 ⟨[vp ob0 0, vi a1, vf 126 [] [vp ob2 0, vp ob3 0], vs Au8 a4 cu8]⟩ w (OPost (R_writer_list g m F ob0 ob2 ob3) r) := by
 refine calls_enter Tryz.func125 rfl rfl ?_
 unfold writer_list at h
 refine qr (s0 2 [vi 0] (nl (tn (bk (wc_loop (fun kk a w => ∃ f0 m176 x74 A75 c76 cs77 x79 x80 x81 x82 x83 Aq84 cq84 x85 Aq86 cq86 x87 Aq88 cq88 x89 x90 x91 Aq92 cq92 x93 Aq94 cq94 x95 Aq96 cq96 x97 x98, a = act Tryz.f125.ntmps (upds f0 [(0, vp ob0 0), (2, vf 126 [] [vp ob2 0, vp ob3 0]), (3, vs Au8 a4 cu8), (9, vi a1), (10, vi x98)]) ∧ kk ≤ k ∧ writer_list_l1 kk a1 a4 x74 x79 x80 x81 x82 x83 x85 x87 x89 x90 x91 x93 x95 x97 x98 = some r ∧ m.le m176 ∧ St g m176 (oo ob0 123 [vs A75 x74 c76, vi x79, vi x80, vstr x81, vi x82] :: rw_ 5 1 A75 x74 c76 cs77 :: oo ob2 163 [vp ob0 0] :: oo ob3 36 [vs Aq84 x83 cq84, vs Aq86 x85 cq86, vs Aq88 x87 cq88, vi x89, vi x90, vs Aq92 x91 cq92, vs Aq94 x93 cq94, vs Aq96 x95 cq96, vi x97] :: F) w ∧ RC (TInt .u8) m176 x74 cs77 ∧ RS (TGVariable) m176 (vs Aq84 x83 cq84) x83 ∧ RS (TGRelation) m176 (vs Aq86 x85 cq86) x85 ∧ RS (TGAbsence) m176 (vs Aq88 x87 cq88) x87 ∧ RS (TGColumn) m176 (vs Aq92 x91 cq92) x91 ∧ RS (TGAggregate) m176 (vs Aq94 x93 cq94) x93 ∧ RS (TGOrderKey) m176 (vs Aq96 x95 cq96) x95) k ?_ ?_)))))
 ·exact ⟨_, m, (a0.out), A1_, c1_, cs1_, (a0.last.kind), (a0.last.at_), (a0.last.s_), (a0.last.n_), (a3.Variables), Au2, cu2, (a3.Relations), Au3, cu3, (a3.Absences), Au4, cu4, (a3.Slots.From), (a3.Slots.To), (a3.Group), Au5, cu5, (a3.Compute), Au6, cu6, (a3.Order), Au7, cu7, (a3.Limit), (0), au, (Nat.le_refl _), h, (Mem.le.refl _), hst, hrc1_, hu2, hu3, hu4, hu5, hu6, hu7⟩
 rintro k174 ih175 _ _ ⟨f0, m176, x74, A75, c76, cs77, x79, x80, x81, x82, x83, Aq84, cq84, x85, Aq86, cq86, x87, Aq88, cq88, x89, x90, x91, Aq92, cq92, x93, Aq94, cq94, x95, Aq96, cq96, x97, x98, rfl, hk173, h, hl172, hst, hrc78, hq84, hq86, hq88, hq92, hq94, hq96⟩
 obtain _ | k178 := k174
 ·simp [writer_list_l1] at h
 rw [writer_list_l1] at h
 refine qr (s0 1 [vb (decide (x98 < a1))] (nl (tn (sq (cn h (fun h => ?_) (fun h => ?_))))))
 ·refine wp_skip (tn (sq (bk (qr (s0 2 [] (nl (tn (sq (qr (s0 2 [vb (x98 == 0)] (nl (tn (cn h (fun h => ?_) (fun h => ?_))))))))))))))
  ·refine rg (s0 2 [] ?_)
   obtain ⟨r179, hq180, h⟩ := bs h
   refine cal (c_writer_words hq180 hst hrc78 (RS.mono hl172 hu8) (Glob.mono hl172 hG)) ?_
   rintro _ _ ⟨m181, A184, c185, cs186, rfl, hl182, hst, hrc187⟩
   refine nl (tn (rg (s0 2 [] ?_)))
   have hst := pk5 hst
   have e192 := hl172.trans hl182
   obtain ⟨r188, hq189, h⟩ := bs h
   refine cal (c_writer_query_c1 hq189 hst hrc187 (RS.mono hl182 hq84) (RS.mono hl182 hq86) (RS.mono hl182 hq88) (RS.mono hl182 hq92) (RS.mono hl182 hq94) (RS.mono hl182 hq96) (Glob.mono e192 hG)) ?_
   rintro _ _ ⟨m190, A194, c195, cs196, Aq198, cq198, Aq199, cq199, Aq200, cq200, Aq201, cq201, Aq202, cq202, Aq203, cq203, rfl, hl191, hst, hrc197, hq198, hq199, hq200, hq201, hq202, hq203⟩
   refine nl (bn (tn (rg (s0 2 [vi (w64 (x98 + 1))] (nl (tn ?_))))))
   have e204 := e192.trans hl191
   have hst := pk10 hst
   exact ih175 k178 (by omega) _ _ ⟨_, m190, (r188.1.out), A194, c195, cs196, (r188.1.last.kind), (r188.1.last.at_), (r188.1.last.s_), (r188.1.last.n_), (r188.2.Variables), Aq198, cq198, (r188.2.Relations), Aq199, cq199, (r188.2.Absences), Aq200, cq200, (r188.2.Slots.From), (r188.2.Slots.To), (r188.2.Group), Aq201, cq201, (r188.2.Compute), Aq202, cq202, (r188.2.Order), Aq203, cq203, (r188.2.Limit), (w64 (x98 + 1)), au, (by omega), h, e204, hst, hrc197, hq198, hq199, hq200, hq201, hq202, hq203⟩
  refine rg (s0 1 [] ?_)
  obtain ⟨r205, hq206, h⟩ := bs h
  refine cal (c_writer_sign hq206 hst hrc78 (Glob.mono hl172 hG)) ?_
  rintro _ _ ⟨m207, A210, c211, cs212, rfl, hl208, hst, hrc213⟩
  refine nl (tn (rg (s0 2 [] ?_)))
  have hst := pk5 hst
  have e218 := hl172.trans hl208
  obtain ⟨r214, hq215, h⟩ := bs h
  refine cal (c_writer_query_c1 hq215 hst hrc213 (RS.mono hl208 hq84) (RS.mono hl208 hq86) (RS.mono hl208 hq88) (RS.mono hl208 hq92) (RS.mono hl208 hq94) (RS.mono hl208 hq96) (Glob.mono e218 hG)) ?_
  rintro _ _ ⟨m216, A220, c221, cs222, Aq224, cq224, Aq225, cq225, Aq226, cq226, Aq227, cq227, Aq228, cq228, Aq229, cq229, rfl, hl217, hst, hrc223, hq224, hq225, hq226, hq227, hq228, hq229⟩
  refine nl (bn (tn (rg (s0 2 [vi (w64 (x98 + 1))] (nl (tn ?_))))))
  have e230 := e218.trans hl217
  have hst := pk10 hst
  exact ih175 k178 (by omega) _ _ ⟨_, m216, (r214.1.out), A220, c221, cs222, (r214.1.last.kind), (r214.1.last.at_), (r214.1.last.s_), (r214.1.last.n_), (r214.2.Variables), Aq224, cq224, (r214.2.Relations), Aq225, cq225, (r214.2.Absences), Aq226, cq226, (r214.2.Slots.From), (r214.2.Slots.To), (r214.2.Group), Aq227, cq227, (r214.2.Compute), Aq228, cq228, (r214.2.Order), Aq229, cq229, (r214.2.Limit), (w64 (x98 + 1)), au, (by omega), h, e230, hst, hrc223, hq224, hq225, hq226, hq227, hq228, hq229⟩
 refine wp_exit (tx (tx (bx (we [] ?_))))
 cases h
 exact ⟨_, rfl, m176, A75, c76, cs77, Aq84, cq84, Aq86, cq86, Aq88, cq88, Aq92, cq92, Aq94, cq94, Aq96, cq96, rfl, hl172, hst, hrc78, hq84, hq86, hq88, hq92, hq94, hq96⟩
def R_writer_absence (g : World) (m : Mem) (F : List Asr) (ob0 : Nat) (r : SWriter) (v : Value) (w' : World) : Prop := ∃ m' A1 c1 cs1, v = vt [] ∧ m.le m' ∧ St g m' (oo ob0 123 (cSWriter r (vs A1 r.out c1)) :: rw_ 5 1 A1 r.out c1 cs1 :: F) w' ∧ RC (TInt .u8) m' r.out cs1
theorem c_writer_absence {a0 : SWriter} {a1 : GAbsence} {r : SWriter} {A1_ : Option Addr} {c1_ : Nat} {cs1_ : List Value} (h : writer_absence k a0 a1 = some r) (hst : St g m (oo ob0 123 (cSWriter a0 (vs A1_ a0.out c1_)) :: rw_ 5 1 A1_ a0.out c1_ cs1_ :: F) w) (hrc1_ : RC (TInt .u8) m a0.out cs1_) (hu2 : RS (TGPred) m (vs Au2 a1.Variable.Where.Args cu2) a1.Variable.Where.Args) (hG : Glob m) :
    Calls Tryz.prog 129 ⟨[vp ob0 0, va (cGAbsence a1 (vs Au2 a1.Variable.Where.Args cu2))]⟩ w (OPost (R_writer_absence g m F ob0) r) := by
 refine calls_enter Tryz.func129 rfl rfl ?_
 unfold writer_absence at h
 refine qr (bo_ (cGAbsence a1 (vs Au2 a1.Variable.Where.Args cu2)) hst (fun b1 _ hst => ?_))
 refine nl (tn (sq (qr (sg 2 [vp b1 10, vb a1.First] _ (hst.q 0 10 1) (nl (tn (cn h (fun h => ?_) (fun h => ?_))))))))
 ·refine qr (s0 1 [] (li 9 1 [vstr w_not] hst (fun b95 _ hst => ?_)))
  obtain ⟨m96, hl97, hst, hs98⟩ := hst.obj_slice (T := TStr) (xs := [w_not]) (RC.k1 rfl (RC.nil _ _)) rfl
  have hst := pk10 hst
  obtain ⟨r99, hq100, h⟩ := bs h
  refine cal (c_writer_words hq100 hst (RC.mono hl97 hrc1_) hs98 (Glob.mono hl97 hG)) ?_
  rintro _ _ ⟨m101, A104, c105, cs106, rfl, hl102, hst, hrc107⟩
  refine nl (tn (qr (sg 3 [vp b1 0, va (cGVariable a1.Variable (vs Au2 a1.Variable.Where.Args cu2))] _ (hst.q 2 0 8) ?_)))
  have e108 := hl97.trans hl102
  obtain ⟨r109, hq110, h⟩ := bs h
  refine cal (c_writer_variable hq110 hst hrc107 (RS.mono e108 hu2) (Glob.mono e108 hG)) ?_
  rintro _ _ ⟨m111, A114, c115, cs116, rfl, hl112, hst, hrc117⟩
  refine nl (tn (sq ?_))
  have e158 := e108.trans hl112
  obtain ⟨v153, hA154, hv155⟩ := (Glob.mono e158 hG).r
  obtain ⟨A156, c157, rfl⟩ := hv155.shape
  refine dr false (fun x => Rd m111 (oo b1 106 (cGAbsence a1 (vs Au2 a1.Variable.Where.Args cu2)) :: []) x) ?_
  have hst := hst.drew
  have e164 := e108.trans hl112
  obtain ⟨v159, hA160, hv161⟩ := (Glob.mono e164 hG).r
  obtain ⟨A162, c163, rfl⟩ := hv161.shape
  refine gs [0, 1, 2, 6, 3, 7] [vs A162 namesR c163, vp b1 8, vp b1 9, vi a1.Kind, vstr a1.Other] _ 4 (pqt (pqt pqb)) (hst.rd.with_ 2 rfl (hst.rd.none_)) (fun x hx => (AllC.app (hx.f hA160 0 1) (hx.q 0 8 2))) ?_
  obtain ⟨x166, hx167, h⟩ := ix h
  obtain ⟨b168, o169, cs170, hR171, hA172, hI173⟩ := RS.ix (P := Tryz.prog) hv161 hx167
  obtain rfl : cs170 = [vstr x166] := hR171
  refine gv 4 (pqt (pqt pqb)) (hst.rd.with_ 2 rfl (hst.rd.none_)) rfl (fun x hx => hI173.r .i64) ?_
  refine gs [5] [vstr x166] _ 2 (pqt (pqt pqb)) (hst.rd.with_ 2 rfl (hst.rd.none_)) (fun x hx => (hx.f hA172 0 1)) ?_
  refine ge 8 rfl (li 9 2 [vstr x166, vstr a1.Other] hst (fun b174 _ hst => ?_))
  refine gn (hst.rd.with_ 3 rfl (hst.rd.none_)) (ge 9 rfl ?_)
  obtain ⟨m175, hl176, hst, hs177⟩ := hst.obj_slice (T := TStr) (xs := [x166, a1.Other]) (RC.k1 rfl (RC.k1 rfl (RC.nil _ _))) rfl
  have e182 := e164.trans hl176
  obtain ⟨r178, hq179, h⟩ := bs h
  refine cal (c_writer_words hq179 hst (RC.mono hl176 hrc117) hs177 (Glob.mono e182 hG)) ?_
  rintro _ _ ⟨m180, A184, c185, cs186, rfl, hl181, hst, hrc187⟩
  refine nl (tn (⟨_, fun _ h => h, .inl ⟨rfl, allListed_of _ (by kernel_rfl)⟩, ?_⟩))
  refine gd (tn (wp_ret (tr (wr [] ?_))))
  have hst := pk28 hst
  have e188 := e182.trans hl181
  have h := Option.some.inj h; subst h
  exact ⟨_, rfl, m180, A184, c185, cs186, rfl, e188, hst, hrc187⟩
 refine wp_skip (tn (sq ?_))
 obtain ⟨v221, hA222, hv223⟩ := hG.r
 obtain ⟨A224, c225, rfl⟩ := hv223.shape
 refine dr false (fun x => Rd m (oo b1 106 (cGAbsence a1 (vs Au2 a1.Variable.Where.Args cu2)) :: []) x) ?_
 have hst := hst.drew
 obtain ⟨v226, hA227, hv228⟩ := hG.r
 obtain ⟨A229, c230, rfl⟩ := hv228.shape
 refine gs [0, 1, 3, 4, 2, 5] [vp b1 9, vs A229 namesR c230, vp b1 8, vstr a1.Other, vi a1.Kind] _ 4 (pqt pqb) (hst.rd.with_ 0 rfl (hst.rd.none_)) (fun x hx => (AllC.app (hx.f hA227 0 1) (AllC.app (hx.q 0 9 1) (hx.q 0 8 1)))) ?_
 obtain ⟨x232, hx233, h⟩ := ix h
 obtain ⟨b234, o235, cs236, hR237, hA238, hI239⟩ := RS.ix (P := Tryz.prog) hv228 hx233
 obtain rfl : cs236 = [vstr x232] := hR237
 refine gv 6 (pqt pqb) (hst.rd.with_ 0 rfl (hst.rd.none_)) rfl (fun x hx => hI239.r .i64) ?_
 refine gs [7] [vstr x232] _ 2 (pqt pqb) (hst.rd.with_ 0 rfl (hst.rd.none_)) (fun x hx => (hx.f hA238 0 1)) ?_
 refine ge 8 rfl (li 9 3 [vstr a1.Other, vstr x232, vstr w_not] hst (fun b240 _ hst => ?_))
 refine gn (hst.rd.with_ 1 rfl (hst.rd.none_)) (ge 9 rfl ?_)
 obtain ⟨m241, hl242, hst, hs243⟩ := hst.obj_slice (T := TStr) (xs := [a1.Other, x232, w_not]) (RC.k1 rfl (RC.k1 rfl (RC.k1 rfl (RC.nil _ _)))) rfl
 have hst := pk10 hst
 obtain ⟨r244, hq245, h⟩ := bs h
 refine cal (c_writer_words hq245 hst (RC.mono hl242 hrc1_) hs243 (Glob.mono hl242 hG)) ?_
 rintro _ _ ⟨m246, A249, c250, cs251, rfl, hl247, hst, hrc252⟩
 refine nl (tn (⟨_, fun _ h => h, .inl ⟨rfl, allListed_of _ (by kernel_rfl)⟩, ?_⟩))
 refine gd (tn (rg (sg 3 [vp b1 0, va (cGVariable a1.Variable (vs Au2 a1.Variable.Where.Args cu2))] _ (hst.q 2 0 8) ?_)))
 have e253 := hl242.trans hl247
 obtain ⟨r254, hq255, h⟩ := bs h
 refine cal (c_writer_variable hq255 hst hrc252 (RS.mono e253 hu2) (Glob.mono e253 hG)) ?_
 rintro _ _ ⟨m256, A259, c260, cs261, rfl, hl257, hst, hrc262⟩
 refine nl (we [] ?_)
 have hst := pk28 hst
 have e263 := e253.trans hl257
 have h := Option.some.inj h; subst h
 exact ⟨_, rfl, m256, A259, c260, cs261, rfl, e263, hst, hrc262⟩
def R_writer_query_c2 (g : World) (m : Mem) (F : List Asr) (ob1 : Nat) (ob2 : Nat) (ob3 : Nat) (r : GQuery × SWriter) (v : Value) (w' : World) : Prop := ∃ m' Av0 cv0 Av1 cv1 Av2 cv2 Av3 cv3 Av4 cv4 Av5 cv5 A7 c7 cs7, v = vt [] ∧ m.le m' ∧ St g m' (oo ob1 36 (cGQuery r.1 (vs Av0 r.1.Variables cv0) (vs Av1 r.1.Relations cv1) (vs Av2 r.1.Absences cv2) (vs Av3 r.1.Group cv3) (vs Av4 r.1.Compute cv4) (vs Av5 r.1.Order cv5)) :: oo ob2 163 [vp ob3 0] :: oo ob3 123 (cSWriter r.2 (vs A7 r.2.out c7)) :: rw_ 5 1 A7 r.2.out c7 cs7 :: F) w' ∧ RS (TGVariable) m' (vs Av0 r.1.Variables cv0) r.1.Variables ∧ RS (TGRelation) m' (vs Av1 r.1.Relations cv1) r.1.Relations ∧ RS (TGAbsence) m' (vs Av2 r.1.Absences cv2) r.1.Absences ∧ RS (TGColumn) m' (vs Av3 r.1.Group cv3) r.1.Group ∧ RS (TGAggregate) m' (vs Av4 r.1.Compute cv4) r.1.Compute ∧ RS (TGOrderKey) m' (vs Av5 r.1.Order cv5) r.1.Order ∧ RC (TInt .u8) m' r.2.out cs7
theorem c_writer_query_c2 {a0 : Int} {a1 : GQuery} {a3 : SWriter} {r : GQuery × SWriter} {A7_ : Option Addr} {c7_ : Nat} {cs7_ : List Value} (h : writer_query_c2 k a0 a1 a3 = some r) (hst : St g m (oo ob1 36 (cGQuery a1 (vs Au0 a1.Variables cu0) (vs Au1 a1.Relations cu1) (vs Au2 a1.Absences cu2) (vs Au3 a1.Group cu3) (vs Au4 a1.Compute cu4) (vs Au5 a1.Order cu5)) :: oo ob2 163 [vp ob3 0] :: oo ob3 123 (cSWriter a3 (vs A7_ a3.out c7_)) :: rw_ 5 1 A7_ a3.out c7_ cs7_ :: F) w) (hu0 : RS (TGVariable) m (vs Au0 a1.Variables cu0) a1.Variables) (hu1 : RS (TGRelation) m (vs Au1 a1.Relations cu1) a1.Relations) (hu2 : RS (TGAbsence) m (vs Au2 a1.Absences cu2) a1.Absences) (hu3 : RS (TGColumn) m (vs Au3 a1.Group cu3) a1.Group) (hu4 : RS (TGAggregate) m (vs Au4 a1.Compute cu4) a1.Compute) (hu5 : RS (TGOrderKey) m (vs Au5 a1.Order cu5) a1.Order) (hrc7_ : RC (TInt .u8) m a3.out cs7_) (hG : Glob m) :
    Calls Tryz.prog 128 ⟨[vi a0, vp ob1 0, vp ob2 0]⟩ w (OPost (R_writer_query_c2 g m F ob1 ob2 ob3) r) := by
 refine calls_enter Tryz.func128 rfl rfl ?_
 unfold writer_query_c2 at h
 refine sq (qr (sg 5 [vp ob1 1, vs Au1 a1.Relations cu1, vi ((a1.Relations).length : Int), vb (decide (a0 ≥ ((a1.Relations).length : Int)))] _ (hst.q 0 1 1) (nl (tn (cn h (fun h => ?_) (fun h => ?_))))))
 ·refine sq (dr false (fun x => Rd m (oo ob2 163 [vp ob3 0] :: oo ob1 36 (cGQuery a1 (vs Au0 a1.Variables cu0) (vs Au1 a1.Relations cu1) (vs Au2 a1.Absences cu2) (vs Au3 a1.Group cu3) (vs Au4 a1.Compute cu4) (vs Au5 a1.Order cu5)) :: []) x) ?_)
  have hst := hst.drew
  refine gs [0, 1, 3, 4, 2, 5, 6, 7] [vp ob3 0, vp ob1 2, vp ob1 1, vs Au2 a1.Absences cu2, vs Au1 a1.Relations cu1, vi ((a1.Relations).length : Int), vi (w64 (a0 - ((a1.Relations).length : Int)))] _ 3 (pqt (pqt pqb)) (hst.rd.with_ 1 rfl (hst.rd.with_ 0 rfl (hst.rd.none_))) (fun x hx => (AllC.app (hx.q 0 0 1) (AllC.app (hx.q 1 2 1) (hx.q 1 1 1)))) ?_
  obtain ⟨x59, hx60, h⟩ := ix h
  obtain ⟨b61, o62, cs63, hR64, hA65, hI66⟩ := RS.ix (P := Tryz.prog) hu2 hx60
  obtain ⟨Aq67, cq67, rfl, hq67⟩ := TGAbsence.opn hR64
  refine gv 8 (pqt (pqt pqb)) (hst.rd.with_ 1 rfl (hst.rd.with_ 0 rfl (hst.rd.none_))) rfl (fun x hx => hI66.r .i64) ?_
  refine gs [9] [va (cGAbsence x59 (vs Aq67 x59.Variable.Where.Args cq67))] _ 1 (pqt (pqt pqb)) (hst.rd.with_ 1 rfl (hst.rd.with_ 0 rfl (hst.rd.none_))) (fun x hx => (hx.f hA65 0 11)) ?_
  refine ge 10 rfl ?_
  have hst := pk25 hst
  obtain ⟨r68, hq69, h⟩ := bs h
  refine cal (c_writer_absence hq69 hst hrc7_ hq67 hG) ?_
  rintro _ _ ⟨m70, A73, c74, cs75, rfl, hl71, hst, hrc76⟩
  refine nl (tn (⟨_, fun _ h => h, .inl ⟨rfl, allListed_of _ (by kernel_rfl)⟩, ?_⟩))
  refine gd (tn (wp_ret (tr (wr [] ?_))))
  have hst := pk25 hst
  cases h
  exact ⟨_, rfl, m70, Au0, cu0, Au1, cu1, Au2, cu2, Au3, cu3, Au4, cu4, Au5, cu5, A73, c74, cs75, rfl, hl71, hst, (RS.mono hl71 hu0), (RS.mono hl71 hu1), (RS.mono hl71 hu2), (RS.mono hl71 hu3), (RS.mono hl71 hu4), (RS.mono hl71 hu5), hrc76⟩
 refine wp_skip (tn (qr (sg 3 [vp ob1 1, vs Au1 a1.Relations cu1] _ (hst.q 0 1 1) ?_)))
 obtain ⟨x78, hx79, h⟩ := ix h
 obtain ⟨b80, o81, cs82, hR83, hA84, hI85⟩ := RS.ix (P := Tryz.prog) hu1 hx79
 obtain rfl := TGRelation.open_ hR83
 refine vl (hI85.r .i64) (sg 1 [va (cGRelation x78)] _ (hst.f hA84 0 3) (al [vi 0, vstr w_0, vstr w_0] hst (fun b86 _ hst => ?_)))
 refine so0 0 (cGRelation x78) hst (fun _ hst => ?_)
 refine nl (tn ?_)
 obtain ⟨v119, hA120, hv121⟩ := hG.r
 obtain ⟨A122, c123, rfl⟩ := hv121.shape
 refine dr false (fun x => Rd m (oo ob2 163 [vp ob3 0] :: oo b86 104 (cGRelation x78) :: []) x) ?_
 have hst := hst.drew
 obtain ⟨v124, hA125, hv126⟩ := hG.r
 obtain ⟨A127, c128, rfl⟩ := hv126.shape
 refine gs [0, 1, 3, 4, 8, 2, 5, 9] [vp ob3 0, vp b86 1, vs A127 namesR c128, vp b86 0, vp b86 2, vstr x78.A, vi x78.Kind, vstr x78.B] _ 4 pqb (hst.rd.with_ 2 rfl (hst.rd.with_ 0 rfl (hst.rd.none_))) (fun x hx => (AllC.app (hx.q 0 0 1) (AllC.app (hx.f hA125 0 1) (AllC.app (hx.q 1 1 1) (AllC.app (hx.q 1 0 1) (hx.q 1 2 1)))))) ?_
 obtain ⟨x130, hx131, h⟩ := ix h
 obtain ⟨b132, o133, cs134, hR135, hA136, hI137⟩ := RS.ix (P := Tryz.prog) hv126 hx131
 obtain rfl : cs134 = [vstr x130] := hR135
 refine gv 6 pqb (hst.rd.with_ 2 rfl (hst.rd.with_ 0 rfl (hst.rd.none_))) rfl (fun x hx => hI137.r .i64) ?_
 refine gs [7] [vstr x130] _ 2 pqb (hst.rd.with_ 2 rfl (hst.rd.with_ 0 rfl (hst.rd.none_))) (fun x hx => (hx.f hA136 0 1)) ?_
 refine ge 10 rfl (li 9 3 [vstr x78.A, vstr x130, vstr x78.B] hst (fun b138 _ hst => ?_))
 refine gn (hst.rd.with_ 3 rfl (hst.rd.with_ 1 rfl (hst.rd.none_))) (ge 11 rfl ?_)
 obtain ⟨m139, hl140, hst, hs141⟩ := hst.obj_slice (T := TStr) (xs := [x78.A, x130, x78.B]) (RC.k1 rfl (RC.k1 rfl (RC.k1 rfl (RC.nil _ _)))) rfl
 have hst := pk29 hst
 obtain ⟨r142, hq143, h⟩ := bs h
 refine cal (c_writer_words hq143 hst (RC.mono hl140 hrc7_) hs141 (Glob.mono hl140 hG)) ?_
 rintro _ _ ⟨m144, A147, c148, cs149, rfl, hl145, hst, hrc150⟩
 refine nl (tn (⟨_, fun _ h => h, .inl ⟨rfl, allListed_of _ (by kernel_rfl)⟩, ?_⟩))
 refine gd (we [] ?_)
 have e151 := hl140.trans hl145
 have hst := pk32 hst
 cases h
 exact ⟨_, rfl, m144, Au0, cu0, Au1, cu1, Au2, cu2, Au3, cu3, Au4, cu4, Au5, cu5, A147, c148, cs149, rfl, e151, hst, (RS.mono e151 hu0), (RS.mono e151 hu1), (RS.mono e151 hu2), (RS.mono e151 hu3), (RS.mono e151 hu4), (RS.mono e151 hu5), hrc150⟩
def R_writer_list_i1 (g : World) (m : Mem) (F : List Asr) (ob0 : Nat) (ob2 : Nat) (ob3 : Nat) (r : SWriter × GQuery) (v : Value) (w' : World) : Prop := ∃ m' A1 c1 cs1 Av2 cv2 Av3 cv3 Av4 cv4 Av5 cv5 Av6 cv6 Av7 cv7, v = vt [] ∧ m.le m' ∧ St g m' (oo ob0 123 (cSWriter r.1 (vs A1 r.1.out c1)) :: rw_ 5 1 A1 r.1.out c1 cs1 :: oo ob2 36 (cGQuery r.2 (vs Av2 r.2.Variables cv2) (vs Av3 r.2.Relations cv3) (vs Av4 r.2.Absences cv4) (vs Av5 r.2.Group cv5) (vs Av6 r.2.Compute cv6) (vs Av7 r.2.Order cv7)) :: oo ob3 163 [vp ob0 0] :: F) w' ∧ RC (TInt .u8) m' r.1.out cs1 ∧ RS (TGVariable) m' (vs Av2 r.2.Variables cv2) r.2.Variables ∧ RS (TGRelation) m' (vs Av3 r.2.Relations cv3) r.2.Relations ∧ RS (TGAbsence) m' (vs Av4 r.2.Absences cv4) r.2.Absences ∧ RS (TGColumn) m' (vs Av5 r.2.Group cv5) r.2.Group ∧ RS (TGAggregate) m' (vs Av6 r.2.Compute cv6) r.2.Compute ∧ RS (TGOrderKey) m' (vs Av7 r.2.Order cv7) r.2.Order
theorem c_writer_list_i1 {a0 : SWriter} {a1 : Int} {a2 : GQuery} {a4 : List Str} {r : SWriter × GQuery} {A1_ : Option Addr} {c1_ : Nat} {cs1_ : List Value} (h : writer_list_i1 k a0 a1 a2 a4 = some r) (hst : St g m (oo ob0 123 (cSWriter a0 (vs A1_ a0.out c1_)) :: rw_ 5 1 A1_ a0.out c1_ cs1_ :: oo ob2 36 (cGQuery a2 (vs Au2 a2.Variables cu2) (vs Au3 a2.Relations cu3) (vs Au4 a2.Absences cu4) (vs Au5 a2.Group cu5) (vs Au6 a2.Compute cu6) (vs Au7 a2.Order cu7)) :: oo ob3 163 [vp ob0 0] :: F) w) (hrc1_ : RC (TInt .u8) m a0.out cs1_) (hu2 : RS (TGVariable) m (vs Au2 a2.Variables cu2) a2.Variables) (hu3 : RS (TGRelation) m (vs Au3 a2.Relations cu3) a2.Relations) (hu4 : RS (TGAbsence) m (vs Au4 a2.Absences cu4) a2.Absences) (hu5 : RS (TGColumn) m (vs Au5 a2.Group cu5) a2.Group) (hu6 : RS (TGAggregate) m (vs Au6 a2.Compute cu6) a2.Compute) (hu7 : RS (TGOrderKey) m (vs Au7 a2.Order cu7) a2.Order) (hu8 : RS (TStr) m (vs Au8 a4 cu8) a4) (hG : Glob m) :
    Calls Tryz.prog 125 ⟨[vp ob0 0, vi a1, vf 128 [] [vp ob2 0, vp ob3 0], vs Au8 a4 cu8]⟩ w (OPost (R_writer_list_i1 g m F ob0 ob2 ob3) r) := by
 refine calls_enter Tryz.func125 rfl rfl ?_
 unfold writer_list_i1 at h
 refine qr (s0 2 [vi 0] (nl (tn (bk (wc_loop (fun kk a w => ∃ f0 m176 x74 A75 c76 cs77 x79 x80 x81 x82 x83 Aq84 cq84 x85 Aq86 cq86 x87 Aq88 cq88 x89 x90 x91 Aq92 cq92 x93 Aq94 cq94 x95 Aq96 cq96 x97 x98, a = act Tryz.f125.ntmps (upds f0 [(0, vp ob0 0), (2, vf 128 [] [vp ob2 0, vp ob3 0]), (3, vs Au8 a4 cu8), (9, vi a1), (10, vi x98)]) ∧ kk ≤ k ∧ writer_list_i1_l1 kk a1 a4 x74 x79 x80 x81 x82 x83 x85 x87 x89 x90 x91 x93 x95 x97 x98 = some r ∧ m.le m176 ∧ St g m176 (oo ob0 123 [vs A75 x74 c76, vi x79, vi x80, vstr x81, vi x82] :: rw_ 5 1 A75 x74 c76 cs77 :: oo ob2 36 [vs Aq84 x83 cq84, vs Aq86 x85 cq86, vs Aq88 x87 cq88, vi x89, vi x90, vs Aq92 x91 cq92, vs Aq94 x93 cq94, vs Aq96 x95 cq96, vi x97] :: oo ob3 163 [vp ob0 0] :: F) w ∧ RC (TInt .u8) m176 x74 cs77 ∧ RS (TGVariable) m176 (vs Aq84 x83 cq84) x83 ∧ RS (TGRelation) m176 (vs Aq86 x85 cq86) x85 ∧ RS (TGAbsence) m176 (vs Aq88 x87 cq88) x87 ∧ RS (TGColumn) m176 (vs Aq92 x91 cq92) x91 ∧ RS (TGAggregate) m176 (vs Aq94 x93 cq94) x93 ∧ RS (TGOrderKey) m176 (vs Aq96 x95 cq96) x95) k ?_ ?_)))))
 ·exact ⟨_, m, (a0.out), A1_, c1_, cs1_, (a0.last.kind), (a0.last.at_), (a0.last.s_), (a0.last.n_), (a2.Variables), Au2, cu2, (a2.Relations), Au3, cu3, (a2.Absences), Au4, cu4, (a2.Slots.From), (a2.Slots.To), (a2.Group), Au5, cu5, (a2.Compute), Au6, cu6, (a2.Order), Au7, cu7, (a2.Limit), (0), au, (Nat.le_refl _), h, (Mem.le.refl _), hst, hrc1_, hu2, hu3, hu4, hu5, hu6, hu7⟩
 rintro k174 ih175 _ _ ⟨f0, m176, x74, A75, c76, cs77, x79, x80, x81, x82, x83, Aq84, cq84, x85, Aq86, cq86, x87, Aq88, cq88, x89, x90, x91, Aq92, cq92, x93, Aq94, cq94, x95, Aq96, cq96, x97, x98, rfl, hk173, h, hl172, hst, hrc78, hq84, hq86, hq88, hq92, hq94, hq96⟩
 obtain _ | k178 := k174
 ·simp [writer_list_i1_l1] at h
 rw [writer_list_i1_l1] at h
 refine qr (s0 1 [vb (decide (x98 < a1))] (nl (tn (sq (cn h (fun h => ?_) (fun h => ?_))))))
 ·refine wp_skip (tn (sq (bk (qr (s0 2 [] (nl (tn (sq (qr (s0 2 [vb (x98 == 0)] (nl (tn (cn h (fun h => ?_) (fun h => ?_))))))))))))))
  ·refine rg (s0 2 [] ?_)
   obtain ⟨r179, hq180, h⟩ := bs h
   refine cal (c_writer_words hq180 hst hrc78 (RS.mono hl172 hu8) (Glob.mono hl172 hG)) ?_
   rintro _ _ ⟨m181, A184, c185, cs186, rfl, hl182, hst, hrc187⟩
   refine nl (tn (rg (s0 2 [] ?_)))
   have hst := pk25 hst
   have e192 := hl172.trans hl182
   obtain ⟨r188, hq189, h⟩ := bs h
   refine cal (c_writer_query_c2 hq189 hst (RS.mono hl182 hq84) (RS.mono hl182 hq86) (RS.mono hl182 hq88) (RS.mono hl182 hq92) (RS.mono hl182 hq94) (RS.mono hl182 hq96) hrc187 (Glob.mono e192 hG)) ?_
   rintro _ _ ⟨m190, Aq193, cq193, Aq194, cq194, Aq195, cq195, Aq196, cq196, Aq197, cq197, Aq198, cq198, A200, c201, cs202, rfl, hl191, hst, hq193, hq194, hq195, hq196, hq197, hq198, hrc203⟩
   refine nl (bn (tn (rg (s0 2 [vi (w64 (x98 + 1))] (nl (tn ?_))))))
   have e204 := e192.trans hl191
   have hst := pk25 hst
   exact ih175 k178 (by omega) _ _ ⟨_, m190, (r188.2.out), A200, c201, cs202, (r188.2.last.kind), (r188.2.last.at_), (r188.2.last.s_), (r188.2.last.n_), (r188.1.Variables), Aq193, cq193, (r188.1.Relations), Aq194, cq194, (r188.1.Absences), Aq195, cq195, (r188.1.Slots.From), (r188.1.Slots.To), (r188.1.Group), Aq196, cq196, (r188.1.Compute), Aq197, cq197, (r188.1.Order), Aq198, cq198, (r188.1.Limit), (w64 (x98 + 1)), au, (by omega), h, e204, hst, hrc203, hq193, hq194, hq195, hq196, hq197, hq198⟩
  refine rg (s0 1 [] ?_)
  obtain ⟨r205, hq206, h⟩ := bs h
  refine cal (c_writer_sign hq206 hst hrc78 (Glob.mono hl172 hG)) ?_
  rintro _ _ ⟨m207, A210, c211, cs212, rfl, hl208, hst, hrc213⟩
  refine nl (tn (rg (s0 2 [] ?_)))
  have hst := pk25 hst
  have e218 := hl172.trans hl208
  obtain ⟨r214, hq215, h⟩ := bs h
  refine cal (c_writer_query_c2 hq215 hst (RS.mono hl208 hq84) (RS.mono hl208 hq86) (RS.mono hl208 hq88) (RS.mono hl208 hq92) (RS.mono hl208 hq94) (RS.mono hl208 hq96) hrc213 (Glob.mono e218 hG)) ?_
  rintro _ _ ⟨m216, Aq219, cq219, Aq220, cq220, Aq221, cq221, Aq222, cq222, Aq223, cq223, Aq224, cq224, A226, c227, cs228, rfl, hl217, hst, hq219, hq220, hq221, hq222, hq223, hq224, hrc229⟩
  refine nl (bn (tn (rg (s0 2 [vi (w64 (x98 + 1))] (nl (tn ?_))))))
  have e230 := e218.trans hl217
  have hst := pk25 hst
  exact ih175 k178 (by omega) _ _ ⟨_, m216, (r214.2.out), A226, c227, cs228, (r214.2.last.kind), (r214.2.last.at_), (r214.2.last.s_), (r214.2.last.n_), (r214.1.Variables), Aq219, cq219, (r214.1.Relations), Aq220, cq220, (r214.1.Absences), Aq221, cq221, (r214.1.Slots.From), (r214.1.Slots.To), (r214.1.Group), Aq222, cq222, (r214.1.Compute), Aq223, cq223, (r214.1.Order), Aq224, cq224, (r214.1.Limit), (w64 (x98 + 1)), au, (by omega), h, e230, hst, hrc229, hq219, hq220, hq221, hq222, hq223, hq224⟩
 refine wp_exit (tx (tx (bx (we [] ?_))))
 cases h
 exact ⟨_, rfl, m176, A75, c76, cs77, Aq84, cq84, Aq86, cq86, Aq88, cq88, Aq92, cq92, Aq94, cq94, Aq96, cq96, rfl, hl172, hst, hrc78, hq84, hq86, hq88, hq92, hq94, hq96⟩
def R_writer_column (g : World) (m : Mem) (F : List Asr) (ob0 : Nat) (r : SWriter) (v : Value) (w' : World) : Prop := ∃ m' A1 c1 cs1, v = vt [] ∧ m.le m' ∧ St g m' (oo ob0 123 (cSWriter r (vs A1 r.out c1)) :: rw_ 5 1 A1 r.out c1 cs1 :: F) w' ∧ RC (TInt .u8) m' r.out cs1
theorem c_writer_column {a0 : SWriter} {a1 : GColumn} {r : SWriter} {A1_ : Option Addr} {c1_ : Nat} {cs1_ : List Value} (h : writer_column k a0 a1 = some r) (hst : St g m (oo ob0 123 (cSWriter a0 (vs A1_ a0.out c1_)) :: rw_ 5 1 A1_ a0.out c1_ cs1_ :: F) w) (hrc1_ : RC (TInt .u8) m a0.out cs1_) (hG : Glob m) :
    Calls Tryz.prog 134 ⟨[vp ob0 0, va (cGColumn a1)]⟩ w (OPost (R_writer_column g m F ob0) r) := by
 refine calls_enter Tryz.func134 rfl rfl ?_
 unfold writer_column at h
 refine qr (bo_ (cGColumn a1) hst (fun b1 _ hst => ?_))
 refine nl (tn (qr (sg 3 [vp b1 0, vstr a1.Var] _ (hst.q 0 0 1) (li 9 1 [vstr a1.Var] hst (fun b2 _ hst => ?_)))))
 obtain ⟨m3, hl4, hst, hs5⟩ := hst.obj_slice (T := TStr) (xs := [a1.Var]) (RC.k1 rfl (RC.nil _ _)) rfl
 have hst := pk10 hst
 obtain ⟨r6, hq7, h⟩ := bs h
 refine cal (c_writer_words hq7 hst (RC.mono hl4 hrc1_) hs5 (Glob.mono hl4 hG)) ?_
 rintro _ _ ⟨m8, A11, c12, cs13, rfl, hl9, hst, hrc14⟩
 refine nl (tn (qr (s0 1 [] ?_)))
 have e19 := hl4.trans hl9
 obtain ⟨r15, hq16, h⟩ := bs h
 refine cal (c_writer_sign hq16 hst hrc14 (Glob.mono e19 hG)) ?_
 rintro _ _ ⟨m17, A21, c22, cs23, rfl, hl18, hst, hrc24⟩
 refine nl (tn (rg (sg 5 [vp b1 1, vstr a1.Field, vp b1 2, vstr a1.Key] _ (hst.q 2 1 2) ?_)))
 have e29 := e19.trans hl18
 obtain ⟨r25, hq26, h⟩ := bs h
 refine cal (c_writer_path hq26 hst hrc24 (Glob.mono e29 hG)) ?_
 rintro _ _ ⟨m27, A31, c32, cs33, rfl, hl28, hst, hrc34⟩
 refine nl (we [] ?_)
 have hst := pk28 hst
 have e35 := e29.trans hl28
 have h := Option.some.inj h; subst h
 exact ⟨_, rfl, m27, A31, c32, cs33, rfl, e35, hst, hrc34⟩
def R_writer_query_c3 (g : World) (m : Mem) (F : List Asr) (ob1 : Nat) (ob2 : Nat) (ob3 : Nat) (r : SWriter × GQuery) (v : Value) (w' : World) : Prop := ∃ m' A1 c1 cs1 Av2 cv2 Av3 cv3 Av4 cv4 Av5 cv5 Av6 cv6 Av7 cv7, v = vt [] ∧ m.le m' ∧ St g m' (oo ob1 163 [vp ob2 0] :: oo ob2 123 (cSWriter r.1 (vs A1 r.1.out c1)) :: rw_ 5 1 A1 r.1.out c1 cs1 :: oo ob3 36 (cGQuery r.2 (vs Av2 r.2.Variables cv2) (vs Av3 r.2.Relations cv3) (vs Av4 r.2.Absences cv4) (vs Av5 r.2.Group cv5) (vs Av6 r.2.Compute cv6) (vs Av7 r.2.Order cv7)) :: F) w' ∧ RC (TInt .u8) m' r.1.out cs1 ∧ RS (TGVariable) m' (vs Av2 r.2.Variables cv2) r.2.Variables ∧ RS (TGRelation) m' (vs Av3 r.2.Relations cv3) r.2.Relations ∧ RS (TGAbsence) m' (vs Av4 r.2.Absences cv4) r.2.Absences ∧ RS (TGColumn) m' (vs Av5 r.2.Group cv5) r.2.Group ∧ RS (TGAggregate) m' (vs Av6 r.2.Compute cv6) r.2.Compute ∧ RS (TGOrderKey) m' (vs Av7 r.2.Order cv7) r.2.Order
theorem c_writer_query_c3 {a0 : Int} {a2 : SWriter} {a3 : GQuery} {r : SWriter × GQuery} {A1_ : Option Addr} {c1_ : Nat} {cs1_ : List Value} (h : writer_query_c3 k a0 a2 a3 = some r) (hst : St g m (oo ob1 163 [vp ob2 0] :: oo ob2 123 (cSWriter a2 (vs A1_ a2.out c1_)) :: rw_ 5 1 A1_ a2.out c1_ cs1_ :: oo ob3 36 (cGQuery a3 (vs Au2 a3.Variables cu2) (vs Au3 a3.Relations cu3) (vs Au4 a3.Absences cu4) (vs Au5 a3.Group cu5) (vs Au6 a3.Compute cu6) (vs Au7 a3.Order cu7)) :: F) w) (hrc1_ : RC (TInt .u8) m a2.out cs1_) (hu2 : RS (TGVariable) m (vs Au2 a3.Variables cu2) a3.Variables) (hu3 : RS (TGRelation) m (vs Au3 a3.Relations cu3) a3.Relations) (hu4 : RS (TGAbsence) m (vs Au4 a3.Absences cu4) a3.Absences) (hu5 : RS (TGColumn) m (vs Au5 a3.Group cu5) a3.Group) (hu6 : RS (TGAggregate) m (vs Au6 a3.Compute cu6) a3.Compute) (hu7 : RS (TGOrderKey) m (vs Au7 a3.Order cu7) a3.Order) (hG : Glob m) :
    Calls Tryz.prog 133 ⟨[vi a0, vp ob1 0, vp ob3 0]⟩ w (OPost (R_writer_query_c3 g m F ob1 ob2 ob3) r) := by
 refine calls_enter Tryz.func133 rfl rfl ?_
 unfold writer_query_c3 at h
 refine dr false (fun x => Rd m (oo ob1 163 [vp ob2 0] :: oo ob3 36 (cGQuery a3 (vs Au2 a3.Variables cu2) (vs Au3 a3.Relations cu3) (vs Au4 a3.Absences cu4) (vs Au5 a3.Group cu5) (vs Au6 a3.Compute cu6) (vs Au7 a3.Order cu7)) :: []) x) ?_
 have hst := hst.drew
 refine gs [0, 1, 3, 2] [vp ob2 0, vp ob3 5, vs Au5 a3.Group cu5] _ 3 pqb (hst.rd.with_ 0 rfl (hst.rd.with_ 3 rfl (hst.rd.none_))) (fun x hx => (AllC.app (hx.q 0 0 1) (hx.q 1 5 1))) ?_
 obtain ⟨x20, hx21, h⟩ := ix h
 obtain ⟨b22, o23, cs24, hR25, hA26, hI27⟩ := RS.ix (P := Tryz.prog) hu5 hx21
 obtain rfl := TGColumn.open_ hR25
 refine gv 4 pqb (hst.rd.with_ 0 rfl (hst.rd.with_ 3 rfl (hst.rd.none_))) rfl (fun x hx => hI27.r .i64) ?_
 refine gs [5] [va (cGColumn x20)] _ 1 pqb (hst.rd.with_ 0 rfl (hst.rd.with_ 3 rfl (hst.rd.none_))) (fun x hx => (hx.f hA26 0 3)) ?_
 refine ge 6 rfl ?_
 have hst := pk10 hst
 obtain ⟨r28, hq29, h⟩ := bs h
 refine cal (c_writer_column hq29 hst hrc1_ hG) ?_
 rintro _ _ ⟨m30, A33, c34, cs35, rfl, hl31, hst, hrc36⟩
 refine nl (tn (⟨_, fun _ h => h, .inl ⟨rfl, allListed_of _ (by kernel_rfl)⟩, ?_⟩))
 refine gd (we [] ?_)
 have hst := pk5 hst
 cases h
 exact ⟨_, rfl, m30, A33, c34, cs35, Au2, cu2, Au3, cu3, Au4, cu4, Au5, cu5, Au6, cu6, Au7, cu7, rfl, hl31, hst, hrc36, (RS.mono hl31 hu2), (RS.mono hl31 hu3), (RS.mono hl31 hu4), (RS.mono hl31 hu5), (RS.mono hl31 hu6), (RS.mono hl31 hu7)⟩
def R_writer_list_i2 (g : World) (m : Mem) (F : List Asr) (ob0 : Nat) (ob2 : Nat) (ob3 : Nat) (r : SWriter × GQuery) (v : Value) (w' : World) : Prop := ∃ m' A1 c1 cs1 Av2 cv2 Av3 cv3 Av4 cv4 Av5 cv5 Av6 cv6 Av7 cv7, v = vt [] ∧ m.le m' ∧ St g m' (oo ob0 123 (cSWriter r.1 (vs A1 r.1.out c1)) :: rw_ 5 1 A1 r.1.out c1 cs1 :: oo ob2 163 [vp ob0 0] :: oo ob3 36 (cGQuery r.2 (vs Av2 r.2.Variables cv2) (vs Av3 r.2.Relations cv3) (vs Av4 r.2.Absences cv4) (vs Av5 r.2.Group cv5) (vs Av6 r.2.Compute cv6) (vs Av7 r.2.Order cv7)) :: F) w' ∧ RC (TInt .u8) m' r.1.out cs1 ∧ RS (TGVariable) m' (vs Av2 r.2.Variables cv2) r.2.Variables ∧ RS (TGRelation) m' (vs Av3 r.2.Relations cv3) r.2.Relations ∧ RS (TGAbsence) m' (vs Av4 r.2.Absences cv4) r.2.Absences ∧ RS (TGColumn) m' (vs Av5 r.2.Group cv5) r.2.Group ∧ RS (TGAggregate) m' (vs Av6 r.2.Compute cv6) r.2.Compute ∧ RS (TGOrderKey) m' (vs Av7 r.2.Order cv7) r.2.Order
theorem c_writer_list_i2 {a0 : SWriter} {a1 : Int} {a3 : GQuery} {a4 : List Str} {r : SWriter × GQuery} {A1_ : Option Addr} {c1_ : Nat} {cs1_ : List Value} (h : writer_list_i2 k a0 a1 a3 a4 = some r) (hst : St g m (oo ob0 123 (cSWriter a0 (vs A1_ a0.out c1_)) :: rw_ 5 1 A1_ a0.out c1_ cs1_ :: oo ob2 163 [vp ob0 0] :: oo ob3 36 (cGQuery a3 (vs Au2 a3.Variables cu2) (vs Au3 a3.Relations cu3) (vs Au4 a3.Absences cu4) (vs Au5 a3.Group cu5) (vs Au6 a3.Compute cu6) (vs Au7 a3.Order cu7)) :: F) w) (hrc1_ : RC (TInt .u8) m a0.out cs1_) (hu2 : RS (TGVariable) m (vs Au2 a3.Variables cu2) a3.Variables) (hu3 : RS (TGRelation) m (vs Au3 a3.Relations cu3) a3.Relations) (hu4 : RS (TGAbsence) m (vs Au4 a3.Absences cu4) a3.Absences) (hu5 : RS (TGColumn) m (vs Au5 a3.Group cu5) a3.Group) (hu6 : RS (TGAggregate) m (vs Au6 a3.Compute cu6) a3.Compute) (hu7 : RS (TGOrderKey) m (vs Au7 a3.Order cu7) a3.Order) (hu8 : RS (TStr) m (vs Au8 a4 cu8) a4) (hG : Glob m) :
    Calls Tryz.prog 125 ⟨[vp ob0 0, vi a1, vf 133 [] [vp ob2 0, vp ob3 0], vs Au8 a4 cu8]⟩ w (OPost (R_writer_list_i2 g m F ob0 ob2 ob3) r) := by
 refine calls_enter Tryz.func125 rfl rfl ?_
 unfold writer_list_i2 at h
 refine qr (s0 2 [vi 0] (nl (tn (bk (wc_loop (fun kk a w => ∃ f0 m176 x74 A75 c76 cs77 x79 x80 x81 x82 x83 Aq84 cq84 x85 Aq86 cq86 x87 Aq88 cq88 x89 x90 x91 Aq92 cq92 x93 Aq94 cq94 x95 Aq96 cq96 x97 x98, a = act Tryz.f125.ntmps (upds f0 [(0, vp ob0 0), (2, vf 133 [] [vp ob2 0, vp ob3 0]), (3, vs Au8 a4 cu8), (9, vi a1), (10, vi x98)]) ∧ kk ≤ k ∧ writer_list_i2_l1 kk a1 a4 x74 x79 x80 x81 x82 x83 x85 x87 x89 x90 x91 x93 x95 x97 x98 = some r ∧ m.le m176 ∧ St g m176 (oo ob0 123 [vs A75 x74 c76, vi x79, vi x80, vstr x81, vi x82] :: rw_ 5 1 A75 x74 c76 cs77 :: oo ob2 163 [vp ob0 0] :: oo ob3 36 [vs Aq84 x83 cq84, vs Aq86 x85 cq86, vs Aq88 x87 cq88, vi x89, vi x90, vs Aq92 x91 cq92, vs Aq94 x93 cq94, vs Aq96 x95 cq96, vi x97] :: F) w ∧ RC (TInt .u8) m176 x74 cs77 ∧ RS (TGVariable) m176 (vs Aq84 x83 cq84) x83 ∧ RS (TGRelation) m176 (vs Aq86 x85 cq86) x85 ∧ RS (TGAbsence) m176 (vs Aq88 x87 cq88) x87 ∧ RS (TGColumn) m176 (vs Aq92 x91 cq92) x91 ∧ RS (TGAggregate) m176 (vs Aq94 x93 cq94) x93 ∧ RS (TGOrderKey) m176 (vs Aq96 x95 cq96) x95) k ?_ ?_)))))
 ·exact ⟨_, m, (a0.out), A1_, c1_, cs1_, (a0.last.kind), (a0.last.at_), (a0.last.s_), (a0.last.n_), (a3.Variables), Au2, cu2, (a3.Relations), Au3, cu3, (a3.Absences), Au4, cu4, (a3.Slots.From), (a3.Slots.To), (a3.Group), Au5, cu5, (a3.Compute), Au6, cu6, (a3.Order), Au7, cu7, (a3.Limit), (0), au, (Nat.le_refl _), h, (Mem.le.refl _), hst, hrc1_, hu2, hu3, hu4, hu5, hu6, hu7⟩
 rintro k174 ih175 _ _ ⟨f0, m176, x74, A75, c76, cs77, x79, x80, x81, x82, x83, Aq84, cq84, x85, Aq86, cq86, x87, Aq88, cq88, x89, x90, x91, Aq92, cq92, x93, Aq94, cq94, x95, Aq96, cq96, x97, x98, rfl, hk173, h, hl172, hst, hrc78, hq84, hq86, hq88, hq92, hq94, hq96⟩
 obtain _ | k178 := k174
 ·simp [writer_list_i2_l1] at h
 rw [writer_list_i2_l1] at h
 refine qr (s0 1 [vb (decide (x98 < a1))] (nl (tn (sq (cn h (fun h => ?_) (fun h => ?_))))))
 ·refine wp_skip (tn (sq (bk (qr (s0 2 [] (nl (tn (sq (qr (s0 2 [vb (x98 == 0)] (nl (tn (cn h (fun h => ?_) (fun h => ?_))))))))))))))
  ·refine rg (s0 2 [] ?_)
   obtain ⟨r179, hq180, h⟩ := bs h
   refine cal (c_writer_words hq180 hst hrc78 (RS.mono hl172 hu8) (Glob.mono hl172 hG)) ?_
   rintro _ _ ⟨m181, A184, c185, cs186, rfl, hl182, hst, hrc187⟩
   refine nl (tn (rg (s0 2 [] ?_)))
   have hst := pk5 hst
   have e192 := hl172.trans hl182
   obtain ⟨r188, hq189, h⟩ := bs h
   refine cal (c_writer_query_c3 hq189 hst hrc187 (RS.mono hl182 hq84) (RS.mono hl182 hq86) (RS.mono hl182 hq88) (RS.mono hl182 hq92) (RS.mono hl182 hq94) (RS.mono hl182 hq96) (Glob.mono e192 hG)) ?_
   rintro _ _ ⟨m190, A194, c195, cs196, Aq198, cq198, Aq199, cq199, Aq200, cq200, Aq201, cq201, Aq202, cq202, Aq203, cq203, rfl, hl191, hst, hrc197, hq198, hq199, hq200, hq201, hq202, hq203⟩
   refine nl (bn (tn (rg (s0 2 [vi (w64 (x98 + 1))] (nl (tn ?_))))))
   have e204 := e192.trans hl191
   have hst := pk10 hst
   exact ih175 k178 (by omega) _ _ ⟨_, m190, (r188.1.out), A194, c195, cs196, (r188.1.last.kind), (r188.1.last.at_), (r188.1.last.s_), (r188.1.last.n_), (r188.2.Variables), Aq198, cq198, (r188.2.Relations), Aq199, cq199, (r188.2.Absences), Aq200, cq200, (r188.2.Slots.From), (r188.2.Slots.To), (r188.2.Group), Aq201, cq201, (r188.2.Compute), Aq202, cq202, (r188.2.Order), Aq203, cq203, (r188.2.Limit), (w64 (x98 + 1)), au, (by omega), h, e204, hst, hrc197, hq198, hq199, hq200, hq201, hq202, hq203⟩
  refine rg (s0 1 [] ?_)
  obtain ⟨r205, hq206, h⟩ := bs h
  refine cal (c_writer_sign hq206 hst hrc78 (Glob.mono hl172 hG)) ?_
  rintro _ _ ⟨m207, A210, c211, cs212, rfl, hl208, hst, hrc213⟩
  refine nl (tn (rg (s0 2 [] ?_)))
  have hst := pk5 hst
  have e218 := hl172.trans hl208
  obtain ⟨r214, hq215, h⟩ := bs h
  refine cal (c_writer_query_c3 hq215 hst hrc213 (RS.mono hl208 hq84) (RS.mono hl208 hq86) (RS.mono hl208 hq88) (RS.mono hl208 hq92) (RS.mono hl208 hq94) (RS.mono hl208 hq96) (Glob.mono e218 hG)) ?_
  rintro _ _ ⟨m216, A220, c221, cs222, Aq224, cq224, Aq225, cq225, Aq226, cq226, Aq227, cq227, Aq228, cq228, Aq229, cq229, rfl, hl217, hst, hrc223, hq224, hq225, hq226, hq227, hq228, hq229⟩
  refine nl (bn (tn (rg (s0 2 [vi (w64 (x98 + 1))] (nl (tn ?_))))))
  have e230 := e218.trans hl217
  have hst := pk10 hst
  exact ih175 k178 (by omega) _ _ ⟨_, m216, (r214.1.out), A220, c221, cs222, (r214.1.last.kind), (r214.1.last.at_), (r214.1.last.s_), (r214.1.last.n_), (r214.2.Variables), Aq224, cq224, (r214.2.Relations), Aq225, cq225, (r214.2.Absences), Aq226, cq226, (r214.2.Slots.From), (r214.2.Slots.To), (r214.2.Group), Aq227, cq227, (r214.2.Compute), Aq228, cq228, (r214.2.Order), Aq229, cq229, (r214.2.Limit), (w64 (x98 + 1)), au, (by omega), h, e230, hst, hrc223, hq224, hq225, hq226, hq227, hq228, hq229⟩
 refine wp_exit (tx (tx (bx (we [] ?_))))
 cases h
 exact ⟨_, rfl, m176, A75, c76, cs77, Aq84, cq84, Aq86, cq86, Aq88, cq88, Aq92, cq92, Aq94, cq94, Aq96, cq96, rfl, hl172, hst, hrc78, hq84, hq86, hq88, hq92, hq94, hq96⟩
def R_writer_aggregate (g : World) (m : Mem) (F : List Asr) (ob0 : Nat) (r : SWriter) (v : Value) (w' : World) : Prop := ∃ m' A1 c1 cs1, v = vt [] ∧ m.le m' ∧ St g m' (oo ob0 123 (cSWriter r (vs A1 r.out c1)) :: rw_ 5 1 A1 r.out c1 cs1 :: F) w' ∧ RC (TInt .u8) m' r.out cs1
theorem c_writer_aggregate {a0 : SWriter} {a1 : GAggregate} {r : SWriter} {A1_ : Option Addr} {c1_ : Nat} {cs1_ : List Value} (h : writer_aggregate k a0 a1 = some r) (hst : St g m (oo ob0 123 (cSWriter a0 (vs A1_ a0.out c1_)) :: rw_ 5 1 A1_ a0.out c1_ cs1_ :: F) w) (hrc1_ : RC (TInt .u8) m a0.out cs1_) (hG : Glob m) :
    Calls Tryz.prog 136 ⟨[vp ob0 0, va (cGAggregate a1)]⟩ w (OPost (R_writer_aggregate g m F ob0) r) := by
 refine calls_enter Tryz.func136 rfl rfl ?_
 unfold writer_aggregate at h
 refine qr (bo_ (cGAggregate a1) hst (fun b1 _ hst => ?_))
 refine nl (tn (qr ?_))
 obtain ⟨v2, hA3, hv4⟩ := hG.a
 obtain ⟨A5, c6, rfl⟩ := hv4.shape
 refine sg 4 [vs A5 namesA c6, vp b1 0, vi a1.Kind] _ (AllC.app (hst.f hA3 0 1) (hst.q 0 0 1)) ?_
 obtain ⟨x8, hx9, h⟩ := ix h
 obtain ⟨b10, o11, cs12, hR13, hA14, hI15⟩ := RS.ix (P := Tryz.prog) hv4 hx9
 obtain rfl : cs12 = [vstr x8] := hR13
 refine vl (hI15.r .i64) (sg 1 [vstr x8] _ (hst.f hA14 0 1) (li 9 1 [vstr x8] hst (fun b16 _ hst => ?_)))
 obtain ⟨m17, hl18, hst, hs19⟩ := hst.obj_slice (T := TStr) (xs := [x8]) (RC.k1 rfl (RC.nil _ _)) rfl
 have hst := pk10 hst
 obtain ⟨r20, hq21, h⟩ := bs h
 refine cal (c_writer_words hq21 hst (RC.mono hl18 hrc1_) hs19 (Glob.mono hl18 hG)) ?_
 rintro _ _ ⟨m22, A25, c26, cs27, rfl, hl23, hst, hrc28⟩
 refine nl (tn (sq (qr (sg 3 [vp b1 0, vi a1.Kind, vb (decide (a1.Kind ≤ 3))] _ (hst.q 2 0 1) (nl (tn (cn h (fun h => ?_) (fun h => ?_))))))))
 ·refine wp_ret (tr (wr [] ?_))
  have hst := pk28 hst
  have e29 := hl18.trans hl23
  have h := Option.some.inj h; subst h
  exact ⟨_, rfl, m22, A25, c26, cs27, rfl, e29, hst, hrc28⟩
 refine wp_skip (tn (qr (s0 2 [va [vi 4, vi 0, vstr wx2828, vi 0]] ?_)))
 have e34 := hl18.trans hl23
 obtain ⟨r30, hq31, h⟩ := bs h
 refine cal (c_writer_put hq31 hst hrc28 (Glob.mono e34 hG)) ?_
 rintro _ _ ⟨m32, A36, c37, cs38, rfl, hl33, hst, hrc39⟩
 refine nl (tn (sq (qr (sg 3 [vp b1 0, vi a1.Kind, vb (a1.Kind == 7)] _ (hst.q 2 0 1) (nl (tn (cn h (fun h => ?_) (fun h => ?_))))))))
 ·refine qr (sg 4 [vp b1 4, vp b1 4, vi a1.Q.Num] _ (hst.q 2 4 1) ?_)
  have e44 := e34.trans hl33
  obtain ⟨r40, hq41, h⟩ := bs h
  refine cal (c_writer_number hq41 hst hrc39 (Glob.mono e44 hG)) ?_
  rintro _ _ ⟨m42, A46, c47, cs48, rfl, hl43, hst, hrc49⟩
  refine nl (tn (qr (s0 1 [] ?_)))
  have e54 := e44.trans hl43
  obtain ⟨r50, hq51, h⟩ := bs h
  refine cal (c_writer_sign hq51 hst hrc49 (Glob.mono e54 hG)) ?_
  rintro _ _ ⟨m52, A56, c57, cs58, rfl, hl53, hst, hrc59⟩
  refine nl (tn (qr (sg 4 [vp b1 4, vp b1 5, vi a1.Q.Den] _ (hst.q 2 5 1) ?_)))
  have e64 := e54.trans hl53
  obtain ⟨r60, hq61, h⟩ := bs h
  refine cal (c_writer_number hq61 hst hrc59 (Glob.mono e64 hG)) ?_
  rintro _ _ ⟨m62, A66, c67, cs68, rfl, hl63, hst, hrc69⟩
  refine nl (tn (rg (s0 1 [] ?_)))
  have e74 := e64.trans hl63
  obtain ⟨r70, hq71, h⟩ := bs h
  refine cal (c_writer_sign hq71 hst hrc69 (Glob.mono e74 hG)) ?_
  rintro _ _ ⟨m72, A76, c77, cs78, rfl, hl73, hst, hrc79⟩
  refine nl (tn (qr (sg 3 [vp b1 1, va (cGColumn a1.Column)] _ (hst.q 2 1 3) ?_)))
  have e84 := e74.trans hl73
  obtain ⟨r80, hq81, h⟩ := bs h
  refine cal (c_writer_column hq81 hst hrc79 (Glob.mono e84 hG)) ?_
  rintro _ _ ⟨m82, A86, c87, cs88, rfl, hl83, hst, hrc89⟩
  refine nl (tn (rg (s0 1 [] ?_)))
  have e94 := e84.trans hl83
  obtain ⟨r90, hq91, h⟩ := bs h
  refine cal (c_writer_sign hq91 hst hrc89 (Glob.mono e94 hG)) ?_
  rintro _ _ ⟨m92, A96, c97, cs98, rfl, hl93, hst, hrc99⟩
  refine nl (we [] ?_)
  have hst := pk28 hst
  have e100 := e94.trans hl93
  have h := Option.some.inj h; subst h
  exact ⟨_, rfl, m92, A96, c97, cs98, rfl, e100, hst, hrc99⟩
 refine wp_skip (tn (qr (sg 3 [vp b1 1, va (cGColumn a1.Column)] _ (hst.q 2 1 3) ?_)))
 have e105 := e34.trans hl33
 obtain ⟨r101, hq102, h⟩ := bs h
 refine cal (c_writer_column hq102 hst hrc39 (Glob.mono e105 hG)) ?_
 rintro _ _ ⟨m103, A107, c108, cs109, rfl, hl104, hst, hrc110⟩
 refine nl (tn (rg (s0 1 [] ?_)))
 have e115 := e105.trans hl104
 obtain ⟨r111, hq112, h⟩ := bs h
 refine cal (c_writer_sign hq112 hst hrc110 (Glob.mono e115 hG)) ?_
 rintro _ _ ⟨m113, A117, c118, cs119, rfl, hl114, hst, hrc120⟩
 refine nl (we [] ?_)
 have hst := pk28 hst
 have e121 := e115.trans hl114
 have h := Option.some.inj h; subst h
 exact ⟨_, rfl, m113, A117, c118, cs119, rfl, e121, hst, hrc120⟩
def R_writer_query_c4 (g : World) (m : Mem) (F : List Asr) (ob1 : Nat) (ob2 : Nat) (ob3 : Nat) (r : SWriter × GQuery) (v : Value) (w' : World) : Prop := ∃ m' A1 c1 cs1 Av2 cv2 Av3 cv3 Av4 cv4 Av5 cv5 Av6 cv6 Av7 cv7, v = vt [] ∧ m.le m' ∧ St g m' (oo ob1 163 [vp ob2 0] :: oo ob2 123 (cSWriter r.1 (vs A1 r.1.out c1)) :: rw_ 5 1 A1 r.1.out c1 cs1 :: oo ob3 36 (cGQuery r.2 (vs Av2 r.2.Variables cv2) (vs Av3 r.2.Relations cv3) (vs Av4 r.2.Absences cv4) (vs Av5 r.2.Group cv5) (vs Av6 r.2.Compute cv6) (vs Av7 r.2.Order cv7)) :: F) w' ∧ RC (TInt .u8) m' r.1.out cs1 ∧ RS (TGVariable) m' (vs Av2 r.2.Variables cv2) r.2.Variables ∧ RS (TGRelation) m' (vs Av3 r.2.Relations cv3) r.2.Relations ∧ RS (TGAbsence) m' (vs Av4 r.2.Absences cv4) r.2.Absences ∧ RS (TGColumn) m' (vs Av5 r.2.Group cv5) r.2.Group ∧ RS (TGAggregate) m' (vs Av6 r.2.Compute cv6) r.2.Compute ∧ RS (TGOrderKey) m' (vs Av7 r.2.Order cv7) r.2.Order
theorem c_writer_query_c4 {a0 : Int} {a2 : SWriter} {a3 : GQuery} {r : SWriter × GQuery} {A1_ : Option Addr} {c1_ : Nat} {cs1_ : List Value} (h : writer_query_c4 k a0 a2 a3 = some r) (hst : St g m (oo ob1 163 [vp ob2 0] :: oo ob2 123 (cSWriter a2 (vs A1_ a2.out c1_)) :: rw_ 5 1 A1_ a2.out c1_ cs1_ :: oo ob3 36 (cGQuery a3 (vs Au2 a3.Variables cu2) (vs Au3 a3.Relations cu3) (vs Au4 a3.Absences cu4) (vs Au5 a3.Group cu5) (vs Au6 a3.Compute cu6) (vs Au7 a3.Order cu7)) :: F) w) (hrc1_ : RC (TInt .u8) m a2.out cs1_) (hu2 : RS (TGVariable) m (vs Au2 a3.Variables cu2) a3.Variables) (hu3 : RS (TGRelation) m (vs Au3 a3.Relations cu3) a3.Relations) (hu4 : RS (TGAbsence) m (vs Au4 a3.Absences cu4) a3.Absences) (hu5 : RS (TGColumn) m (vs Au5 a3.Group cu5) a3.Group) (hu6 : RS (TGAggregate) m (vs Au6 a3.Compute cu6) a3.Compute) (hu7 : RS (TGOrderKey) m (vs Au7 a3.Order cu7) a3.Order) (hG : Glob m) :
    Calls Tryz.prog 135 ⟨[vi a0, vp ob1 0, vp ob3 0]⟩ w (OPost (R_writer_query_c4 g m F ob1 ob2 ob3) r) := by
 refine calls_enter Tryz.func135 rfl rfl ?_
 unfold writer_query_c4 at h
 refine dr false (fun x => Rd m (oo ob1 163 [vp ob2 0] :: oo ob3 36 (cGQuery a3 (vs Au2 a3.Variables cu2) (vs Au3 a3.Relations cu3) (vs Au4 a3.Absences cu4) (vs Au5 a3.Group cu5) (vs Au6 a3.Compute cu6) (vs Au7 a3.Order cu7)) :: []) x) ?_
 have hst := hst.drew
 refine gs [0, 1, 3, 2] [vp ob2 0, vp ob3 6, vs Au6 a3.Compute cu6] _ 3 pqb (hst.rd.with_ 0 rfl (hst.rd.with_ 3 rfl (hst.rd.none_))) (fun x hx => (AllC.app (hx.q 0 0 1) (hx.q 1 6 1))) ?_
 obtain ⟨x20, hx21, h⟩ := ix h
 obtain ⟨b22, o23, cs24, hR25, hA26, hI27⟩ := RS.ix (P := Tryz.prog) hu6 hx21
 obtain rfl := TGAggregate.open_ hR25
 refine gv 4 pqb (hst.rd.with_ 0 rfl (hst.rd.with_ 3 rfl (hst.rd.none_))) rfl (fun x hx => hI27.r .i64) ?_
 refine gs [5] [va (cGAggregate x20)] _ 1 pqb (hst.rd.with_ 0 rfl (hst.rd.with_ 3 rfl (hst.rd.none_))) (fun x hx => (hx.f hA26 0 6)) ?_
 refine ge 6 rfl ?_
 have hst := pk10 hst
 obtain ⟨r28, hq29, h⟩ := bs h
 refine cal (c_writer_aggregate hq29 hst hrc1_ hG) ?_
 rintro _ _ ⟨m30, A33, c34, cs35, rfl, hl31, hst, hrc36⟩
 refine nl (tn (⟨_, fun _ h => h, .inl ⟨rfl, allListed_of _ (by kernel_rfl)⟩, ?_⟩))
 refine gd (we [] ?_)
 have hst := pk5 hst
 cases h
 exact ⟨_, rfl, m30, A33, c34, cs35, Au2, cu2, Au3, cu3, Au4, cu4, Au5, cu5, Au6, cu6, Au7, cu7, rfl, hl31, hst, hrc36, (RS.mono hl31 hu2), (RS.mono hl31 hu3), (RS.mono hl31 hu4), (RS.mono hl31 hu5), (RS.mono hl31 hu6), (RS.mono hl31 hu7)⟩
def R_writer_list_i3 (g : World) (m : Mem) (F : List Asr) (ob0 : Nat) (ob2 : Nat) (ob3 : Nat) (r : SWriter × GQuery) (v : Value) (w' : World) : Prop := ∃ m' A1 c1 cs1 Av2 cv2 Av3 cv3 Av4 cv4 Av5 cv5 Av6 cv6 Av7 cv7, v = vt [] ∧ m.le m' ∧ St g m' (oo ob0 123 (cSWriter r.1 (vs A1 r.1.out c1)) :: rw_ 5 1 A1 r.1.out c1 cs1 :: oo ob2 163 [vp ob0 0] :: oo ob3 36 (cGQuery r.2 (vs Av2 r.2.Variables cv2) (vs Av3 r.2.Relations cv3) (vs Av4 r.2.Absences cv4) (vs Av5 r.2.Group cv5) (vs Av6 r.2.Compute cv6) (vs Av7 r.2.Order cv7)) :: F) w' ∧ RC (TInt .u8) m' r.1.out cs1 ∧ RS (TGVariable) m' (vs Av2 r.2.Variables cv2) r.2.Variables ∧ RS (TGRelation) m' (vs Av3 r.2.Relations cv3) r.2.Relations ∧ RS (TGAbsence) m' (vs Av4 r.2.Absences cv4) r.2.Absences ∧ RS (TGColumn) m' (vs Av5 r.2.Group cv5) r.2.Group ∧ RS (TGAggregate) m' (vs Av6 r.2.Compute cv6) r.2.Compute ∧ RS (TGOrderKey) m' (vs Av7 r.2.Order cv7) r.2.Order
theorem c_writer_list_i3 {a0 : SWriter} {a1 : Int} {a3 : GQuery} {a4 : List Str} {r : SWriter × GQuery} {A1_ : Option Addr} {c1_ : Nat} {cs1_ : List Value} (h : writer_list_i3 k a0 a1 a3 a4 = some r) (hst : St g m (oo ob0 123 (cSWriter a0 (vs A1_ a0.out c1_)) :: rw_ 5 1 A1_ a0.out c1_ cs1_ :: oo ob2 163 [vp ob0 0] :: oo ob3 36 (cGQuery a3 (vs Au2 a3.Variables cu2) (vs Au3 a3.Relations cu3) (vs Au4 a3.Absences cu4) (vs Au5 a3.Group cu5) (vs Au6 a3.Compute cu6) (vs Au7 a3.Order cu7)) :: F) w) (hrc1_ : RC (TInt .u8) m a0.out cs1_) (hu2 : RS (TGVariable) m (vs Au2 a3.Variables cu2) a3.Variables) (hu3 : RS (TGRelation) m (vs Au3 a3.Relations cu3) a3.Relations) (hu4 : RS (TGAbsence) m (vs Au4 a3.Absences cu4) a3.Absences) (hu5 : RS (TGColumn) m (vs Au5 a3.Group cu5) a3.Group) (hu6 : RS (TGAggregate) m (vs Au6 a3.Compute cu6) a3.Compute) (hu7 : RS (TGOrderKey) m (vs Au7 a3.Order cu7) a3.Order) (hu8 : RS (TStr) m (vs Au8 a4 cu8) a4) (hG : Glob m) :
    Calls Tryz.prog 125 ⟨[vp ob0 0, vi a1, vf 135 [] [vp ob2 0, vp ob3 0], vs Au8 a4 cu8]⟩ w (OPost (R_writer_list_i3 g m F ob0 ob2 ob3) r) := by
 refine calls_enter Tryz.func125 rfl rfl ?_
 unfold writer_list_i3 at h
 refine qr (s0 2 [vi 0] (nl (tn (bk (wc_loop (fun kk a w => ∃ f0 m176 x74 A75 c76 cs77 x79 x80 x81 x82 x83 Aq84 cq84 x85 Aq86 cq86 x87 Aq88 cq88 x89 x90 x91 Aq92 cq92 x93 Aq94 cq94 x95 Aq96 cq96 x97 x98, a = act Tryz.f125.ntmps (upds f0 [(0, vp ob0 0), (2, vf 135 [] [vp ob2 0, vp ob3 0]), (3, vs Au8 a4 cu8), (9, vi a1), (10, vi x98)]) ∧ kk ≤ k ∧ writer_list_i3_l1 kk a1 a4 x74 x79 x80 x81 x82 x83 x85 x87 x89 x90 x91 x93 x95 x97 x98 = some r ∧ m.le m176 ∧ St g m176 (oo ob0 123 [vs A75 x74 c76, vi x79, vi x80, vstr x81, vi x82] :: rw_ 5 1 A75 x74 c76 cs77 :: oo ob2 163 [vp ob0 0] :: oo ob3 36 [vs Aq84 x83 cq84, vs Aq86 x85 cq86, vs Aq88 x87 cq88, vi x89, vi x90, vs Aq92 x91 cq92, vs Aq94 x93 cq94, vs Aq96 x95 cq96, vi x97] :: F) w ∧ RC (TInt .u8) m176 x74 cs77 ∧ RS (TGVariable) m176 (vs Aq84 x83 cq84) x83 ∧ RS (TGRelation) m176 (vs Aq86 x85 cq86) x85 ∧ RS (TGAbsence) m176 (vs Aq88 x87 cq88) x87 ∧ RS (TGColumn) m176 (vs Aq92 x91 cq92) x91 ∧ RS (TGAggregate) m176 (vs Aq94 x93 cq94) x93 ∧ RS (TGOrderKey) m176 (vs Aq96 x95 cq96) x95) k ?_ ?_)))))
 ·exact ⟨_, m, (a0.out), A1_, c1_, cs1_, (a0.last.kind), (a0.last.at_), (a0.last.s_), (a0.last.n_), (a3.Variables), Au2, cu2, (a3.Relations), Au3, cu3, (a3.Absences), Au4, cu4, (a3.Slots.From), (a3.Slots.To), (a3.Group), Au5, cu5, (a3.Compute), Au6, cu6, (a3.Order), Au7, cu7, (a3.Limit), (0), au, (Nat.le_refl _), h, (Mem.le.refl _), hst, hrc1_, hu2, hu3, hu4, hu5, hu6, hu7⟩
 rintro k174 ih175 _ _ ⟨f0, m176, x74, A75, c76, cs77, x79, x80, x81, x82, x83, Aq84, cq84, x85, Aq86, cq86, x87, Aq88, cq88, x89, x90, x91, Aq92, cq92, x93, Aq94, cq94, x95, Aq96, cq96, x97, x98, rfl, hk173, h, hl172, hst, hrc78, hq84, hq86, hq88, hq92, hq94, hq96⟩
 obtain _ | k178 := k174
 ·simp [writer_list_i3_l1] at h
 rw [writer_list_i3_l1] at h
 refine qr (s0 1 [vb (decide (x98 < a1))] (nl (tn (sq (cn h (fun h => ?_) (fun h => ?_))))))
 ·refine wp_skip (tn (sq (bk (qr (s0 2 [] (nl (tn (sq (qr (s0 2 [vb (x98 == 0)] (nl (tn (cn h (fun h => ?_) (fun h => ?_))))))))))))))
  ·refine rg (s0 2 [] ?_)
   obtain ⟨r179, hq180, h⟩ := bs h
   refine cal (c_writer_words hq180 hst hrc78 (RS.mono hl172 hu8) (Glob.mono hl172 hG)) ?_
   rintro _ _ ⟨m181, A184, c185, cs186, rfl, hl182, hst, hrc187⟩
   refine nl (tn (rg (s0 2 [] ?_)))
   have hst := pk5 hst
   have e192 := hl172.trans hl182
   obtain ⟨r188, hq189, h⟩ := bs h
   refine cal (c_writer_query_c4 hq189 hst hrc187 (RS.mono hl182 hq84) (RS.mono hl182 hq86) (RS.mono hl182 hq88) (RS.mono hl182 hq92) (RS.mono hl182 hq94) (RS.mono hl182 hq96) (Glob.mono e192 hG)) ?_
   rintro _ _ ⟨m190, A194, c195, cs196, Aq198, cq198, Aq199, cq199, Aq200, cq200, Aq201, cq201, Aq202, cq202, Aq203, cq203, rfl, hl191, hst, hrc197, hq198, hq199, hq200, hq201, hq202, hq203⟩
   refine nl (bn (tn (rg (s0 2 [vi (w64 (x98 + 1))] (nl (tn ?_))))))
   have e204 := e192.trans hl191
   have hst := pk10 hst
   exact ih175 k178 (by omega) _ _ ⟨_, m190, (r188.1.out), A194, c195, cs196, (r188.1.last.kind), (r188.1.last.at_), (r188.1.last.s_), (r188.1.last.n_), (r188.2.Variables), Aq198, cq198, (r188.2.Relations), Aq199, cq199, (r188.2.Absences), Aq200, cq200, (r188.2.Slots.From), (r188.2.Slots.To), (r188.2.Group), Aq201, cq201, (r188.2.Compute), Aq202, cq202, (r188.2.Order), Aq203, cq203, (r188.2.Limit), (w64 (x98 + 1)), au, (by omega), h, e204, hst, hrc197, hq198, hq199, hq200, hq201, hq202, hq203⟩
  refine rg (s0 1 [] ?_)
  obtain ⟨r205, hq206, h⟩ := bs h
  refine cal (c_writer_sign hq206 hst hrc78 (Glob.mono hl172 hG)) ?_
  rintro _ _ ⟨m207, A210, c211, cs212, rfl, hl208, hst, hrc213⟩
  refine nl (tn (rg (s0 2 [] ?_)))
  have hst := pk5 hst
  have e218 := hl172.trans hl208
  obtain ⟨r214, hq215, h⟩ := bs h
  refine cal (c_writer_query_c4 hq215 hst hrc213 (RS.mono hl208 hq84) (RS.mono hl208 hq86) (RS.mono hl208 hq88) (RS.mono hl208 hq92) (RS.mono hl208 hq94) (RS.mono hl208 hq96) (Glob.mono e218 hG)) ?_
  rintro _ _ ⟨m216, A220, c221, cs222, Aq224, cq224, Aq225, cq225, Aq226, cq226, Aq227, cq227, Aq228, cq228, Aq229, cq229, rfl, hl217, hst, hrc223, hq224, hq225, hq226, hq227, hq228, hq229⟩
  refine nl (bn (tn (rg (s0 2 [vi (w64 (x98 + 1))] (nl (tn ?_))))))
  have e230 := e218.trans hl217
  have hst := pk10 hst
  exact ih175 k178 (by omega) _ _ ⟨_, m216, (r214.1.out), A220, c221, cs222, (r214.1.last.kind), (r214.1.last.at_), (r214.1.last.s_), (r214.1.last.n_), (r214.2.Variables), Aq224, cq224, (r214.2.Relations), Aq225, cq225, (r214.2.Absences), Aq226, cq226, (r214.2.Slots.From), (r214.2.Slots.To), (r214.2.Group), Aq227, cq227, (r214.2.Compute), Aq228, cq228, (r214.2.Order), Aq229, cq229, (r214.2.Limit), (w64 (x98 + 1)), au, (by omega), h, e230, hst, hrc223, hq224, hq225, hq226, hq227, hq228, hq229⟩
 refine wp_exit (tx (tx (bx (we [] ?_))))
 cases h
 exact ⟨_, rfl, m176, A75, c76, cs77, Aq84, cq84, Aq86, cq86, Aq88, cq88, Aq92, cq92, Aq94, cq94, Aq96, cq96, rfl, hl172, hst, hrc78, hq84, hq86, hq88, hq92, hq94, hq96⟩
def R_writer_query_c5 (g : World) (m : Mem) (F : List Asr) (ob1 : Nat) (ob2 : Nat) (ob3 : Nat) (r : SWriter × GQuery) (v : Value) (w' : World) : Prop := ∃ m' A1 c1 cs1 Av2 cv2 Av3 cv3 Av4 cv4 Av5 cv5 Av6 cv6 Av7 cv7, v = vt [] ∧ m.le m' ∧ St g m' (oo ob1 163 [vp ob2 0] :: oo ob2 123 (cSWriter r.1 (vs A1 r.1.out c1)) :: rw_ 5 1 A1 r.1.out c1 cs1 :: oo ob3 36 (cGQuery r.2 (vs Av2 r.2.Variables cv2) (vs Av3 r.2.Relations cv3) (vs Av4 r.2.Absences cv4) (vs Av5 r.2.Group cv5) (vs Av6 r.2.Compute cv6) (vs Av7 r.2.Order cv7)) :: F) w' ∧ RC (TInt .u8) m' r.1.out cs1 ∧ RS (TGVariable) m' (vs Av2 r.2.Variables cv2) r.2.Variables ∧ RS (TGRelation) m' (vs Av3 r.2.Relations cv3) r.2.Relations ∧ RS (TGAbsence) m' (vs Av4 r.2.Absences cv4) r.2.Absences ∧ RS (TGColumn) m' (vs Av5 r.2.Group cv5) r.2.Group ∧ RS (TGAggregate) m' (vs Av6 r.2.Compute cv6) r.2.Compute ∧ RS (TGOrderKey) m' (vs Av7 r.2.Order cv7) r.2.Order
theorem c_writer_query_c5 {a0 : Int} {a2 : SWriter} {a3 : GQuery} {r : SWriter × GQuery} {A1_ : Option Addr} {c1_ : Nat} {cs1_ : List Value} (h : writer_query_c5 k a0 a2 a3 = some r) (hst : St g m (oo ob1 163 [vp ob2 0] :: oo ob2 123 (cSWriter a2 (vs A1_ a2.out c1_)) :: rw_ 5 1 A1_ a2.out c1_ cs1_ :: oo ob3 36 (cGQuery a3 (vs Au2 a3.Variables cu2) (vs Au3 a3.Relations cu3) (vs Au4 a3.Absences cu4) (vs Au5 a3.Group cu5) (vs Au6 a3.Compute cu6) (vs Au7 a3.Order cu7)) :: F) w) (hrc1_ : RC (TInt .u8) m a2.out cs1_) (hu2 : RS (TGVariable) m (vs Au2 a3.Variables cu2) a3.Variables) (hu3 : RS (TGRelation) m (vs Au3 a3.Relations cu3) a3.Relations) (hu4 : RS (TGAbsence) m (vs Au4 a3.Absences cu4) a3.Absences) (hu5 : RS (TGColumn) m (vs Au5 a3.Group cu5) a3.Group) (hu6 : RS (TGAggregate) m (vs Au6 a3.Compute cu6) a3.Compute) (hu7 : RS (TGOrderKey) m (vs Au7 a3.Order cu7) a3.Order) (hG : Glob m) :
    Calls Tryz.prog 137 ⟨[vi a0, vp ob1 0, vp ob3 0]⟩ w (OPost (R_writer_query_c5 g m F ob1 ob2 ob3) r) := by
 refine calls_enter Tryz.func137 rfl rfl ?_
 unfold writer_query_c5 at h
 refine sq (dr false (fun x => Rd m (oo ob1 163 [vp ob2 0] :: oo ob3 36 (cGQuery a3 (vs Au2 a3.Variables cu2) (vs Au3 a3.Relations cu3) (vs Au4 a3.Absences cu4) (vs Au5 a3.Group cu5) (vs Au6 a3.Compute cu6) (vs Au7 a3.Order cu7)) :: []) x) ?_)
 have hst := hst.drew
 refine gs [0, 1, 3, 2] [vp ob2 0, vp ob3 7, vs Au7 a3.Order cu7] _ 4 (pqt pqb) (hst.rd.with_ 0 rfl (hst.rd.with_ 3 rfl (hst.rd.none_))) (fun x hx => (AllC.app (hx.q 0 0 1) (hx.q 1 7 1))) ?_
 obtain ⟨x20, hx21, h⟩ := ix h
 obtain ⟨b22, o23, cs24, hR25, hA26, hI27⟩ := RS.ix (P := Tryz.prog) hu7 hx21
 obtain rfl := TGOrderKey.open_ hR25
 refine gv 4 (pqt pqb) (hst.rd.with_ 0 rfl (hst.rd.with_ 3 rfl (hst.rd.none_))) rfl (fun x hx => hI27.r .i64) ?_
 refine gs [5, 6] [vp b22 o23, vi x20.Index] _ 1 (pqt pqb) (hst.rd.with_ 0 rfl (hst.rd.with_ 3 rfl (hst.rd.none_))) (fun x hx => (hx.f hA26 0 1)) ?_
 refine ge 7 rfl ?_
 have hst := pk10 hst
 obtain ⟨r28, hq29, h⟩ := bs h
 refine cal (c_writer_number hq29 hst hrc1_ hG) ?_
 rintro _ _ ⟨m30, A33, c34, cs35, rfl, hl31, hst, hrc36⟩
 refine nl (tn (⟨_, fun _ h => h, .inl ⟨rfl, allListed_of _ (by kernel_rfl)⟩, ?_⟩))
 refine gd (tn (qr (sg 3 [vp ob3 7, vs Au7 a3.Order cu7] _ (hst.q 3 7 1) ?_)))
 obtain ⟨x38, hx39, h⟩ := ix h
 obtain ⟨b40, o41, cs42, hR43, hA44, hI45⟩ := RS.ix (P := Tryz.prog) (RS.mono hl31 hu7) hx39
 obtain rfl := TGOrderKey.open_ hR43
 refine vl (hI45.r .i64) (sg 2 [vp b40 (o41 + 1), vb x38.Descending] _ (hst.f hA44 1 1) (nl (tn (cn h (fun h => ?_) (fun h => ?_)))))
 ·refine rg (sg 1 [vp ob2 0] _ (hst.q 2 0 1) (li 9 1 [vstr w_desc] hst (fun b46 _ hst => ?_)))
  obtain ⟨m47, hl48, hst, hs49⟩ := hst.obj_slice (T := TStr) (xs := [w_desc]) (RC.k1 rfl (RC.nil _ _)) rfl
  have e54 := hl31.trans hl48
  obtain ⟨r50, hq51, h⟩ := bs h
  refine cal (c_writer_words hq51 hst (RC.mono hl48 hrc36) hs49 (Glob.mono e54 hG)) ?_
  rintro _ _ ⟨m52, A56, c57, cs58, rfl, hl53, hst, hrc59⟩
  refine nl (we [] ?_)
  have e60 := e54.trans hl53
  have hst := pk5 hst
  cases h
  exact ⟨_, rfl, m52, A56, c57, cs58, Au2, cu2, Au3, cu3, Au4, cu4, Au5, cu5, Au6, cu6, Au7, cu7, rfl, e60, hst, hrc59, (RS.mono e60 hu2), (RS.mono e60 hu3), (RS.mono e60 hu4), (RS.mono e60 hu5), (RS.mono e60 hu6), (RS.mono e60 hu7)⟩
 refine wp_skip (we [] ?_)
 have hst := pk5 hst
 cases h
 exact ⟨_, rfl, m30, A33, c34, cs35, Au2, cu2, Au3, cu3, Au4, cu4, Au5, cu5, Au6, cu6, Au7, cu7, rfl, hl31, hst, hrc36, (RS.mono hl31 hu2), (RS.mono hl31 hu3), (RS.mono hl31 hu4), (RS.mono hl31 hu5), (RS.mono hl31 hu6), (RS.mono hl31 hu7)⟩
def R_writer_list_i4 (g : World) (m : Mem) (F : List Asr) (ob0 : Nat) (ob2 : Nat) (ob3 : Nat) (r : SWriter × GQuery) (v : Value) (w' : World) : Prop := ∃ m' A1 c1 cs1 Av2 cv2 Av3 cv3 Av4 cv4 Av5 cv5 Av6 cv6 Av7 cv7, v = vt [] ∧ m.le m' ∧ St g m' (oo ob0 123 (cSWriter r.1 (vs A1 r.1.out c1)) :: rw_ 5 1 A1 r.1.out c1 cs1 :: oo ob2 163 [vp ob0 0] :: oo ob3 36 (cGQuery r.2 (vs Av2 r.2.Variables cv2) (vs Av3 r.2.Relations cv3) (vs Av4 r.2.Absences cv4) (vs Av5 r.2.Group cv5) (vs Av6 r.2.Compute cv6) (vs Av7 r.2.Order cv7)) :: F) w' ∧ RC (TInt .u8) m' r.1.out cs1 ∧ RS (TGVariable) m' (vs Av2 r.2.Variables cv2) r.2.Variables ∧ RS (TGRelation) m' (vs Av3 r.2.Relations cv3) r.2.Relations ∧ RS (TGAbsence) m' (vs Av4 r.2.Absences cv4) r.2.Absences ∧ RS (TGColumn) m' (vs Av5 r.2.Group cv5) r.2.Group ∧ RS (TGAggregate) m' (vs Av6 r.2.Compute cv6) r.2.Compute ∧ RS (TGOrderKey) m' (vs Av7 r.2.Order cv7) r.2.Order
theorem c_writer_list_i4 {a0 : SWriter} {a1 : Int} {a3 : GQuery} {a4 : List Str} {r : SWriter × GQuery} {A1_ : Option Addr} {c1_ : Nat} {cs1_ : List Value} (h : writer_list_i4 k a0 a1 a3 a4 = some r) (hst : St g m (oo ob0 123 (cSWriter a0 (vs A1_ a0.out c1_)) :: rw_ 5 1 A1_ a0.out c1_ cs1_ :: oo ob2 163 [vp ob0 0] :: oo ob3 36 (cGQuery a3 (vs Au2 a3.Variables cu2) (vs Au3 a3.Relations cu3) (vs Au4 a3.Absences cu4) (vs Au5 a3.Group cu5) (vs Au6 a3.Compute cu6) (vs Au7 a3.Order cu7)) :: F) w) (hrc1_ : RC (TInt .u8) m a0.out cs1_) (hu2 : RS (TGVariable) m (vs Au2 a3.Variables cu2) a3.Variables) (hu3 : RS (TGRelation) m (vs Au3 a3.Relations cu3) a3.Relations) (hu4 : RS (TGAbsence) m (vs Au4 a3.Absences cu4) a3.Absences) (hu5 : RS (TGColumn) m (vs Au5 a3.Group cu5) a3.Group) (hu6 : RS (TGAggregate) m (vs Au6 a3.Compute cu6) a3.Compute) (hu7 : RS (TGOrderKey) m (vs Au7 a3.Order cu7) a3.Order) (hu8 : RS (TStr) m (vs Au8 a4 cu8) a4) (hG : Glob m) :
    Calls Tryz.prog 125 ⟨[vp ob0 0, vi a1, vf 137 [] [vp ob2 0, vp ob3 0], vs Au8 a4 cu8]⟩ w (OPost (R_writer_list_i4 g m F ob0 ob2 ob3) r) := by
 refine calls_enter Tryz.func125 rfl rfl ?_
 unfold writer_list_i4 at h
 refine qr (s0 2 [vi 0] (nl (tn (bk (wc_loop (fun kk a w => ∃ f0 m176 x74 A75 c76 cs77 x79 x80 x81 x82 x83 Aq84 cq84 x85 Aq86 cq86 x87 Aq88 cq88 x89 x90 x91 Aq92 cq92 x93 Aq94 cq94 x95 Aq96 cq96 x97 x98, a = act Tryz.f125.ntmps (upds f0 [(0, vp ob0 0), (2, vf 137 [] [vp ob2 0, vp ob3 0]), (3, vs Au8 a4 cu8), (9, vi a1), (10, vi x98)]) ∧ kk ≤ k ∧ writer_list_i4_l1 kk a1 a4 x74 x79 x80 x81 x82 x83 x85 x87 x89 x90 x91 x93 x95 x97 x98 = some r ∧ m.le m176 ∧ St g m176 (oo ob0 123 [vs A75 x74 c76, vi x79, vi x80, vstr x81, vi x82] :: rw_ 5 1 A75 x74 c76 cs77 :: oo ob2 163 [vp ob0 0] :: oo ob3 36 [vs Aq84 x83 cq84, vs Aq86 x85 cq86, vs Aq88 x87 cq88, vi x89, vi x90, vs Aq92 x91 cq92, vs Aq94 x93 cq94, vs Aq96 x95 cq96, vi x97] :: F) w ∧ RC (TInt .u8) m176 x74 cs77 ∧ RS (TGVariable) m176 (vs Aq84 x83 cq84) x83 ∧ RS (TGRelation) m176 (vs Aq86 x85 cq86) x85 ∧ RS (TGAbsence) m176 (vs Aq88 x87 cq88) x87 ∧ RS (TGColumn) m176 (vs Aq92 x91 cq92) x91 ∧ RS (TGAggregate) m176 (vs Aq94 x93 cq94) x93 ∧ RS (TGOrderKey) m176 (vs Aq96 x95 cq96) x95) k ?_ ?_)))))
 ·exact ⟨_, m, (a0.out), A1_, c1_, cs1_, (a0.last.kind), (a0.last.at_), (a0.last.s_), (a0.last.n_), (a3.Variables), Au2, cu2, (a3.Relations), Au3, cu3, (a3.Absences), Au4, cu4, (a3.Slots.From), (a3.Slots.To), (a3.Group), Au5, cu5, (a3.Compute), Au6, cu6, (a3.Order), Au7, cu7, (a3.Limit), (0), au, (Nat.le_refl _), h, (Mem.le.refl _), hst, hrc1_, hu2, hu3, hu4, hu5, hu6, hu7⟩
 rintro k174 ih175 _ _ ⟨f0, m176, x74, A75, c76, cs77, x79, x80, x81, x82, x83, Aq84, cq84, x85, Aq86, cq86, x87, Aq88, cq88, x89, x90, x91, Aq92, cq92, x93, Aq94, cq94, x95, Aq96, cq96, x97, x98, rfl, hk173, h, hl172, hst, hrc78, hq84, hq86, hq88, hq92, hq94, hq96⟩
 obtain _ | k178 := k174
 ·simp [writer_list_i4_l1] at h
 rw [writer_list_i4_l1] at h
 refine qr (s0 1 [vb (decide (x98 < a1))] (nl (tn (sq (cn h (fun h => ?_) (fun h => ?_))))))
 ·refine wp_skip (tn (sq (bk (qr (s0 2 [] (nl (tn (sq (qr (s0 2 [vb (x98 == 0)] (nl (tn (cn h (fun h => ?_) (fun h => ?_))))))))))))))
  ·refine rg (s0 2 [] ?_)
   obtain ⟨r179, hq180, h⟩ := bs h
   refine cal (c_writer_words hq180 hst hrc78 (RS.mono hl172 hu8) (Glob.mono hl172 hG)) ?_
   rintro _ _ ⟨m181, A184, c185, cs186, rfl, hl182, hst, hrc187⟩
   refine nl (tn (rg (s0 2 [] ?_)))
   have hst := pk5 hst
   have e192 := hl172.trans hl182
   obtain ⟨r188, hq189, h⟩ := bs h
   refine cal (c_writer_query_c5 hq189 hst hrc187 (RS.mono hl182 hq84) (RS.mono hl182 hq86) (RS.mono hl182 hq88) (RS.mono hl182 hq92) (RS.mono hl182 hq94) (RS.mono hl182 hq96) (Glob.mono e192 hG)) ?_
   rintro _ _ ⟨m190, A194, c195, cs196, Aq198, cq198, Aq199, cq199, Aq200, cq200, Aq201, cq201, Aq202, cq202, Aq203, cq203, rfl, hl191, hst, hrc197, hq198, hq199, hq200, hq201, hq202, hq203⟩
   refine nl (bn (tn (rg (s0 2 [vi (w64 (x98 + 1))] (nl (tn ?_))))))
   have e204 := e192.trans hl191
   have hst := pk10 hst
   exact ih175 k178 (by omega) _ _ ⟨_, m190, (r188.1.out), A194, c195, cs196, (r188.1.last.kind), (r188.1.last.at_), (r188.1.last.s_), (r188.1.last.n_), (r188.2.Variables), Aq198, cq198, (r188.2.Relations), Aq199, cq199, (r188.2.Absences), Aq200, cq200, (r188.2.Slots.From), (r188.2.Slots.To), (r188.2.Group), Aq201, cq201, (r188.2.Compute), Aq202, cq202, (r188.2.Order), Aq203, cq203, (r188.2.Limit), (w64 (x98 + 1)), au, (by omega), h, e204, hst, hrc197, hq198, hq199, hq200, hq201, hq202, hq203⟩
  refine rg (s0 1 [] ?_)
  obtain ⟨r205, hq206, h⟩ := bs h
  refine cal (c_writer_sign hq206 hst hrc78 (Glob.mono hl172 hG)) ?_
  rintro _ _ ⟨m207, A210, c211, cs212, rfl, hl208, hst, hrc213⟩
  refine nl (tn (rg (s0 2 [] ?_)))
  have hst := pk5 hst
  have e218 := hl172.trans hl208
  obtain ⟨r214, hq215, h⟩ := bs h
  refine cal (c_writer_query_c5 hq215 hst hrc213 (RS.mono hl208 hq84) (RS.mono hl208 hq86) (RS.mono hl208 hq88) (RS.mono hl208 hq92) (RS.mono hl208 hq94) (RS.mono hl208 hq96) (Glob.mono e218 hG)) ?_
  rintro _ _ ⟨m216, A220, c221, cs222, Aq224, cq224, Aq225, cq225, Aq226, cq226, Aq227, cq227, Aq228, cq228, Aq229, cq229, rfl, hl217, hst, hrc223, hq224, hq225, hq226, hq227, hq228, hq229⟩
  refine nl (bn (tn (rg (s0 2 [vi (w64 (x98 + 1))] (nl (tn ?_))))))
  have e230 := e218.trans hl217
  have hst := pk10 hst
  exact ih175 k178 (by omega) _ _ ⟨_, m216, (r214.1.out), A220, c221, cs222, (r214.1.last.kind), (r214.1.last.at_), (r214.1.last.s_), (r214.1.last.n_), (r214.2.Variables), Aq224, cq224, (r214.2.Relations), Aq225, cq225, (r214.2.Absences), Aq226, cq226, (r214.2.Slots.From), (r214.2.Slots.To), (r214.2.Group), Aq227, cq227, (r214.2.Compute), Aq228, cq228, (r214.2.Order), Aq229, cq229, (r214.2.Limit), (w64 (x98 + 1)), au, (by omega), h, e230, hst, hrc223, hq224, hq225, hq226, hq227, hq228, hq229⟩
 refine wp_exit (tx (tx (bx (we [] ?_))))
 cases h
 exact ⟨_, rfl, m176, A75, c76, cs77, Aq84, cq84, Aq86, cq86, Aq88, cq88, Aq92, cq92, Aq94, cq94, Aq96, cq96, rfl, hl172, hst, hrc78, hq84, hq86, hq88, hq92, hq94, hq96⟩
def R_writer_query (g : World) (m : Mem) (F : List Asr) (ob0 : Nat) (r : SWriter) (v : Value) (w' : World) : Prop := ∃ m' A1 c1 cs1, v = vt [] ∧ m.le m' ∧ St g m' (oo ob0 123 (cSWriter r (vs A1 r.out c1)) :: rw_ 5 1 A1 r.out c1 cs1 :: F) w' ∧ RC (TInt .u8) m' r.out cs1
theorem c_writer_query {a0 : SWriter} {a1 : GQuery} {r : SWriter} {A1_ : Option Addr} {c1_ : Nat} {cs1_ : List Value} (h : writer_query k a0 a1 = some r) (hst : St g m (oo ob0 123 (cSWriter a0 (vs A1_ a0.out c1_)) :: rw_ 5 1 A1_ a0.out c1_ cs1_ :: F) w) (hrc1_ : RC (TInt .u8) m a0.out cs1_) (hu2 : RS (TGVariable) m (vs Au2 a1.Variables cu2) a1.Variables) (hu3 : RS (TGRelation) m (vs Au3 a1.Relations cu3) a1.Relations) (hu4 : RS (TGAbsence) m (vs Au4 a1.Absences cu4) a1.Absences) (hu5 : RS (TGColumn) m (vs Au5 a1.Group cu5) a1.Group) (hu6 : RS (TGAggregate) m (vs Au6 a1.Compute cu6) a1.Compute) (hu7 : RS (TGOrderKey) m (vs Au7 a1.Order cu7) a1.Order) (hG : Glob m) :
    Calls Tryz.prog 64 ⟨[vp ob0 0, va (cGQuery a1 (vs Au2 a1.Variables cu2) (vs Au3 a1.Relations cu3) (vs Au4 a1.Absences cu4) (vs Au5 a1.Group cu5) (vs Au6 a1.Compute cu6) (vs Au7 a1.Order cu7))]⟩ w (OPost (R_writer_query g m F ob0) r) := by
 refine calls_enter Tryz.func64 rfl rfl ?_
 unfold writer_query at h
 refine qr (bo_ [vp ob0 0] hst (fun b1 _ hst => ?_))
 refine bo_ (cGQuery a1 (vs Au2 a1.Variables cu2) (vs Au3 a1.Relations cu3) (vs Au4 a1.Absences cu4) (vs Au5 a1.Group cu5) (vs Au6 a1.Compute cu6) (vs Au7 a1.Order cu7)) hst (fun b2 _ hst => ?_)
 refine nl (tn (qr (sg 5 [vp ob0 0, vp b2 0, vs Au2 a1.Variables cu2, vi ((a1.Variables).length : Int), vf 126 [] [vp b1 0, vp b2 0]] _ (AllC.app (hst.q 1 0 1) (hst.q 0 0 1)) (li 9 1 [vstr w_find] hst (fun b3 _ hst => ?_)))))
 obtain ⟨m4, hl5, hst, hs6⟩ := hst.obj_slice (T := TStr) (xs := [w_find]) (RC.k1 rfl (RC.nil _ _)) rfl
 have hst := pk31 hst
 obtain ⟨r7, hq8, h⟩ := bs h
 refine cal (c_writer_list hq8 hst (RC.mono hl5 hrc1_) (RS.mono hl5 hu2) (RS.mono hl5 hu3) (RS.mono hl5 hu4) (RS.mono hl5 hu5) (RS.mono hl5 hu6) (RS.mono hl5 hu7) hs6 (Glob.mono hl5 hG)) ?_
 rintro _ _ ⟨m9, A12, c13, cs14, Aq16, cq16, Aq17, cq17, Aq18, cq18, Aq19, cq19, Aq20, cq20, Aq21, cq21, rfl, hl10, hst, hrc15, hq16, hq17, hq18, hq19, hq20, hq21⟩
 refine nl (tn (qr (sg 9 [vp ob0 0, vp b2 1, vs Aq17 r7.2.Relations cq17, vi ((r7.2.Relations).length : Int), vp b2 2, vs Aq18 r7.2.Absences cq18, vi ((r7.2.Absences).length : Int), vi (w64 (((r7.2.Relations).length : Int) + ((r7.2.Absences).length : Int))), vf 128 [] [vp b2 0, vp b1 0]] _ (AllC.app (hst.q 2 0 1) (hst.q 3 1 2)) (li 9 1 [vstr w_where] hst (fun b22 _ hst => ?_)))))
 obtain ⟨m23, hl24, hst, hs25⟩ := hst.obj_slice (T := TStr) (xs := [w_where]) (RC.k1 rfl (RC.nil _ _)) rfl
 have hst := pk33 hst
 have e30 := hl5.trans (hl10.trans hl24)
 obtain ⟨r26, hq27, h⟩ := bs h
 refine cal (c_writer_list_i1 hq27 hst (RC.mono hl24 hrc15) (RS.mono hl24 hq16) (RS.mono hl24 hq17) (RS.mono hl24 hq18) (RS.mono hl24 hq19) (RS.mono hl24 hq20) (RS.mono hl24 hq21) hs25 (Glob.mono e30 hG)) ?_
 rintro _ _ ⟨m28, A32, c33, cs34, Aq36, cq36, Aq37, cq37, Aq38, cq38, Aq39, cq39, Aq40, cq40, Aq41, cq41, rfl, hl29, hst, hrc35, hq36, hq37, hq38, hq39, hq40, hq41⟩
 refine nl (tn (wc_join (fun a w => ∃ f0 k96 m98 x86 A87 c88 cs89 x91 x92 x93 x94, a = act Tryz.f64.ntmps (upds f0 [(2, vp b1 0), (3, vp b2 0)]) ∧ k96 ≤ k ∧ writer_query_j1 k96 r26 x86 x91 x92 x93 x94 = some r ∧ m28.le m98 ∧ St g m98 (oo ob0 123 [vs A87 x86 c88, vi x91, vi x92, vstr x93, vi x94] :: rw_ 5 1 A87 x86 c88 cs89 :: oo b2 36 (cGQuery r26.2 (vs Aq36 r26.2.Variables cq36) (vs Aq37 r26.2.Relations cq37) (vs Aq38 r26.2.Absences cq38) (vs Aq39 r26.2.Group cq39) (vs Aq40 r26.2.Compute cq40) (vs Aq41 r26.2.Order cq41)) :: oo b1 163 [vp ob0 0] :: F) w ∧ RC (TInt .u8) m98 x86 cs89) ?_ ?_))
 ·rintro _ _ ⟨f0, k96, m98, x86, A87, c88, cs89, x91, x92, x93, x94, rfl, hk97, h, hl95, hst, hrc90⟩
  unfold writer_query_j1 at h
  refine qr (sg 5 [vp ob0 0, vp b2 5, vs Aq39 r26.2.Group cq39, vi ((r26.2.Group).length : Int), vf 133 [] [vp b1 0, vp b2 0]] _ (AllC.app (hst.q 3 0 1) (hst.q 2 5 1)) (li 9 2 [vstr w_group, vstr w_by] hst (fun b99 _ hst => ?_)))
  obtain ⟨m100, hl101, hst, hs102⟩ := hst.obj_slice (T := TStr) (xs := [w_group, w_by]) (RC.k1 rfl (RC.k1 rfl (RC.nil _ _))) rfl
  have e103 := hl95.trans hl101
  have hst := pk33 hst
  have e108 := e30.trans (hl29.trans (hl95.trans hl101))
  obtain ⟨r104, hq105, h⟩ := bs h
  refine cal (c_writer_list_i2 hq105 hst (RC.mono hl101 hrc90) (RS.mono e103 hq36) (RS.mono e103 hq37) (RS.mono e103 hq38) (RS.mono e103 hq39) (RS.mono e103 hq40) (RS.mono e103 hq41) hs102 (Glob.mono e108 hG)) ?_
  rintro _ _ ⟨m106, A110, c111, cs112, Aq114, cq114, Aq115, cq115, Aq116, cq116, Aq117, cq117, Aq118, cq118, Aq119, cq119, rfl, hl107, hst, hrc113, hq114, hq115, hq116, hq117, hq118, hq119⟩
  refine nl (tn (qr (sg 5 [vp ob0 0, vp b2 6, vs Aq118 r104.2.Compute cq118, vi ((r104.2.Compute).length : Int), vf 135 [] [vp b1 0, vp b2 0]] _ (AllC.app (hst.q 2 0 1) (hst.q 3 6 1)) (li 9 1 [vstr w_compute] hst (fun b120 _ hst => ?_)))))
  obtain ⟨m121, hl122, hst, hs123⟩ := hst.obj_slice (T := TStr) (xs := [w_compute]) (RC.k1 rfl (RC.nil _ _)) rfl
  have e128 := e108.trans (hl107.trans hl122)
  obtain ⟨r124, hq125, h⟩ := bs h
  refine cal (c_writer_list_i3 hq125 hst (RC.mono hl122 hrc113) (RS.mono hl122 hq114) (RS.mono hl122 hq115) (RS.mono hl122 hq116) (RS.mono hl122 hq117) (RS.mono hl122 hq118) (RS.mono hl122 hq119) hs123 (Glob.mono e128 hG)) ?_
  rintro _ _ ⟨m126, A130, c131, cs132, Aq134, cq134, Aq135, cq135, Aq136, cq136, Aq137, cq137, Aq138, cq138, Aq139, cq139, rfl, hl127, hst, hrc133, hq134, hq135, hq136, hq137, hq138, hq139⟩
  refine nl (tn (qr (sg 5 [vp ob0 0, vp b2 7, vs Aq139 r124.2.Order cq139, vi ((r124.2.Order).length : Int), vf 137 [] [vp b1 0, vp b2 0]] _ (AllC.app (hst.q 2 0 1) (hst.q 3 7 1)) (li 9 2 [vstr w_order, vstr w_by] hst (fun b140 _ hst => ?_)))))
  obtain ⟨m141, hl142, hst, hs143⟩ := hst.obj_slice (T := TStr) (xs := [w_order, w_by]) (RC.k1 rfl (RC.k1 rfl (RC.nil _ _))) rfl
  have e148 := e128.trans (hl127.trans hl142)
  obtain ⟨r144, hq145, h⟩ := bs h
  refine cal (c_writer_list_i4 hq145 hst (RC.mono hl142 hrc133) (RS.mono hl142 hq134) (RS.mono hl142 hq135) (RS.mono hl142 hq136) (RS.mono hl142 hq137) (RS.mono hl142 hq138) (RS.mono hl142 hq139) hs143 (Glob.mono e148 hG)) ?_
  rintro _ _ ⟨m146, A150, c151, cs152, Aq154, cq154, Aq155, cq155, Aq156, cq156, Aq157, cq157, Aq158, cq158, Aq159, cq159, rfl, hl147, hst, hrc153, hq154, hq155, hq156, hq157, hq158, hq159⟩
  refine nl (tn (qr (sg 3 [vp b2 8, vi r144.2.Limit, vb (r144.2.Limit != 0)] _ (hst.q 3 8 1) (nl (tn (cn h (fun h => ?_) (fun h => ?_)))))))
  ·refine qr (sg 1 [vp ob0 0] _ (hst.q 2 0 1) (li 9 1 [vstr w_limit] hst (fun b160 _ hst => ?_)))
   obtain ⟨m161, hl162, hst, hs163⟩ := hst.obj_slice (T := TStr) (xs := [w_limit]) (RC.k1 rfl (RC.nil _ _)) rfl
   have e168 := e148.trans (hl147.trans hl162)
   obtain ⟨r164, hq165, h⟩ := bs h
   refine cal (c_writer_words hq165 hst (RC.mono hl162 hrc153) hs163 (Glob.mono e168 hG)) ?_
   rintro _ _ ⟨m166, A170, c171, cs172, rfl, hl167, hst, hrc173⟩
   refine nl (tn (rg (sg 3 [vp ob0 0, vp b2 8, vi r144.2.Limit] _ (AllC.app (hst.q 2 0 1) (hst.q 3 8 1)) ?_)))
   have e178 := e168.trans hl167
   obtain ⟨r174, hq175, h⟩ := bs h
   refine cal (c_writer_number hq175 hst hrc173 (Glob.mono e178 hG)) ?_
   rintro _ _ ⟨m176, A180, c181, cs182, rfl, hl177, hst, hrc183⟩
   refine nl (we [] ?_)
   have hst := pk26 hst
   have e184 := e178.trans hl177
   have h := Option.some.inj h; subst h
   exact ⟨_, rfl, m176, A180, c181, cs182, rfl, e184, hst, hrc183⟩
  refine wp_skip (we [] ?_)
  have hst := pk26 hst
  have e185 := e148.trans hl147
  cases h
  exact ⟨_, rfl, m146, A150, c151, cs152, rfl, e185, hst, hrc153⟩
 refine qr (sg 3 [vp b2 3, va (cGInterval r26.2.Slots), va [vi 0, vi 0]] _ (hst.q 2 3 2) (vl (ran ((r26.2.Slots.From == 0) && ((r26.2.Slots.To == 0) && true)) (cGInterval r26.2.Slots) [vi 0, vi 0]) (nl (tn (cn h (fun h => ?_) (fun h => ?_))))))
 ·refine qr (sg 1 [vp ob0 0] _ (hst.q 3 0 1) (li 9 1 [vstr w_slots] hst (fun b186 _ hst => ?_)))
  obtain ⟨m187, hl188, hst, hs189⟩ := hst.obj_slice (T := TStr) (xs := [w_slots]) (RC.k1 rfl (RC.nil _ _)) rfl
  have e194 := e30.trans (hl29.trans hl188)
  obtain ⟨r190, hq191, h⟩ := bs h
  refine cal (c_writer_words hq191 hst (RC.mono hl188 hrc35) hs189 (Glob.mono e194 hG)) ?_
  rintro _ _ ⟨m192, A196, c197, cs198, rfl, hl193, hst, hrc199⟩
  refine nl (tn (qr (sg 4 [vp ob0 0, vp b2 3, vp b2 3, vi r26.2.Slots.From] _ (AllC.app (hst.q 3 0 1) (hst.q 2 3 1)) ?_)))
  have e204 := e194.trans hl193
  obtain ⟨r200, hq201, h⟩ := bs h
  refine cal (c_writer_number hq201 hst hrc199 (Glob.mono e204 hG)) ?_
  rintro _ _ ⟨m202, A206, c207, cs208, rfl, hl203, hst, hrc209⟩
  refine nl (tn (qr (sg 1 [vp ob0 0] _ (hst.q 3 0 1) ?_)))
  have e214 := e204.trans hl203
  obtain ⟨r210, hq211, h⟩ := bs h
  refine cal (c_writer_sign hq211 hst hrc209 (Glob.mono e214 hG)) ?_
  rintro _ _ ⟨m212, A216, c217, cs218, rfl, hl213, hst, hrc219⟩
  refine nl (tn (rg (sg 4 [vp ob0 0, vp b2 3, vp b2 4, vi r26.2.Slots.To] _ (AllC.app (hst.q 3 0 1) (hst.q 2 4 1)) ?_)))
  have e224 := e214.trans hl213
  obtain ⟨r220, hq221, h⟩ := bs h
  refine cal (c_writer_number hq221 hst hrc219 (Glob.mono e224 hG)) ?_
  rintro _ _ ⟨m222, A226, c227, cs228, rfl, hl223, hst, hrc229⟩
  refine nl (tn ?_)
  have e230 := hl188.trans (hl193.trans (hl203.trans (hl213.trans hl223)))
  exact ⟨_, k, m222, (r220.out), A226, c227, cs228, (r220.last.kind), (r220.last.at_), (r220.last.s_), (r220.last.n_), au, (by omega), h, e230, hst, hrc229⟩
 refine wp_skip (tn ?_)
 exact ⟨_, k, m28, (r26.1.out), A32, c33, cs34, (r26.1.last.kind), (r26.1.last.at_), (r26.1.last.s_), (r26.1.last.n_), au, (by omega), h, (Mem.le.refl _), hst, hrc35⟩
abbrev R_syntax_Check := RInt
theorem c_syntax_Check {a0 : GQuery} {r : Int} (h : syntax_Check k a0 = some r) (hst : St g m (F) w) (hu0 : RS (TGVariable) m (vs Au0 a0.Variables cu0) a0.Variables) (hu1 : RS (TGRelation) m (vs Au1 a0.Relations cu1) a0.Relations) (hu2 : RS (TGAbsence) m (vs Au2 a0.Absences cu2) a0.Absences) (hu3 : RS (TGColumn) m (vs Au3 a0.Group cu3) a0.Group) (hu4 : RS (TGAggregate) m (vs Au4 a0.Compute cu4) a0.Compute) (hu5 : RS (TGOrderKey) m (vs Au5 a0.Order cu5) a0.Order) (hG : Glob m) :
    Calls Tryz.prog 30 ⟨[va (cGQuery a0 (vs Au0 a0.Variables cu0) (vs Au1 a0.Relations cu1) (vs Au2 a0.Absences cu2) (vs Au3 a0.Group cu3) (vs Au4 a0.Compute cu4) (vs Au5 a0.Order cu5))]⟩ w (OPost (R_syntax_Check g m F) r) := by
 refine calls_enter Tryz.func30 rfl rfl ?_
 unfold syntax_Check at h
 refine qr (bo_ (cGQuery a0 (vs Au0 a0.Variables cu0) (vs Au1 a0.Relations cu1) (vs Au2 a0.Absences cu2) (vs Au3 a0.Group cu3) (vs Au4 a0.Compute cu4) (vs Au5 a0.Order cu5)) hst (fun b1 _ hst => ?_))
 refine s0 1 [vi 0] (nl (tn (sq (qr (sg 1 [va (cGQuery a0 (vs Au0 a0.Variables cu0) (vs Au1 a0.Relations cu1) (vs Au2 a0.Absences cu2) (vs Au3 a0.Group cu3) (vs Au4 a0.Compute cu4) (vs Au5 a0.Order cu5))] _ (hst.q 0 0 9) ?_)))))
 obtain ⟨r6, hq7, h⟩ := bs h
 refine cal (c_syntax_checkPattern hq7 hst hu0 hu1 hu2 hu3 hu4 hu5 hG) ?_
 rintro _ _ ⟨m8, rfl, hl9, hst⟩
 refine s0 1 [] (nl (tn (qr (s0 2 [vb (r6 != 0)] (nl (tn (cn h (fun h => ?_) (fun h => ?_))))))))
 ·refine qr (s0 2 [] (nl (tn (wp_ret (tr (wr [vi r6] ?_))))))
  have hst := pk0 hst
  have h := Option.some.inj h; subst h
  exact ⟨_, rfl, m8, rfl, hl9, hst⟩
 refine wp_skip (tn (sq (qr (sg 1 [va (cGQuery a0 (vs Au0 a0.Variables cu0) (vs Au1 a0.Relations cu1) (vs Au2 a0.Absences cu2) (vs Au3 a0.Group cu3) (vs Au4 a0.Compute cu4) (vs Au5 a0.Order cu5))] _ (hst.q 0 0 9) ?_))))
 obtain ⟨r14, hq15, h⟩ := bs h
 refine cal (c_syntax_checkResults hq15 hst (RS.mono hl9 hu0) (RS.mono hl9 hu1) (RS.mono hl9 hu2) (RS.mono hl9 hu3) (RS.mono hl9 hu4) (RS.mono hl9 hu5) (Glob.mono hl9 hG)) ?_
 rintro _ _ ⟨m16, rfl, hl17, hst⟩
 refine s0 1 [] (nl (tn (qr (s0 2 [vb (r14 != 0)] (nl (tn (cn h (fun h => ?_) (fun h => ?_))))))))
 ·refine qr (s0 2 [] (nl (tn (wp_ret (tr (wr [vi r14] ?_))))))
  have hst := pk0 hst
  have e18 := hl9.trans hl17
  have h := Option.some.inj h; subst h
  exact ⟨_, rfl, m16, rfl, e18, hst⟩
 refine wp_skip (tn (qr (al [vn, vi 0, vi 0, vstr w_0, vi 0] hst (fun b19 _ hst => ?_))))
 have hrc21 := RC.nil (TInt .u8) m16
 have hst := hst.nil_row 5 1
 refine nl (tn (qr (sg 1 [va (cGQuery a0 (vs Au0 a0.Variables cu0) (vs Au1 a0.Relations cu1) (vs Au2 a0.Absences cu2) (vs Au3 a0.Group cu3) (vs Au4 a0.Compute cu4) (vs Au5 a0.Order cu5))] _ (hst.q 2 0 9) ?_)))
 have e22 := hl9.trans hl17
 have hst := pk1 hst
 obtain ⟨r23, hq24, h⟩ := bs h
 refine cal (c_writer_query hq24 hst hrc21 (RS.mono e22 hu0) (RS.mono e22 hu1) (RS.mono e22 hu2) (RS.mono e22 hu3) (RS.mono e22 hu4) (RS.mono e22 hu5) (Glob.mono e22 hG)) ?_
 rintro _ _ ⟨m25, A28, c29, cs30, rfl, hl26, hst, hrc31⟩
 refine nl (tn (sq (qr (sg 4 [vp b19 0, vs A28 r23.out c29, vi ((r23.out).length : Int), vb (decide (((r23.out).length : Int) > 4096))] _ (hst.q 0 0 1) (nl (tn (cn h (fun h => ?_) (fun h => ?_))))))))
 ·refine qr ?_
  have hst := pk27 hst
  refine s0 1 [vi 5] (nl (tn (wp_ret (tr (wr [vi 5] ?_)))))
  have e32 := e22.trans hl26
  have h := Option.some.inj h; subst h
  exact ⟨_, rfl, m25, rfl, e32, hst⟩
 refine wp_skip (tn (qr ?_))
 have hst := pk27 hst
 refine s0 1 [vi 0] (nl (tn (wp_ret (wr [vi 0] ?_))))
 have e33 := e22.trans hl26
 have h := Option.some.inj h; subst h
 exact ⟨_, rfl, m25, rfl, e33, hst⟩
def R_syntax_Parse (g : World) (m : Mem) (F : List Asr) (r : GQuery × Int × Int) (v : Value) (w' : World) : Prop := ∃ m' Av0 cv0 Av1 cv1 Av2 cv2 Av3 cv3 Av4 cv4 Av5 cv5, v = vt [va (cGQuery r.1 (vs Av0 r.1.Variables cv0) (vs Av1 r.1.Relations cv1) (vs Av2 r.1.Absences cv2) (vs Av3 r.1.Group cv3) (vs Av4 r.1.Compute cv4) (vs Av5 r.1.Order cv5)), vi r.2.1, vi r.2.2] ∧ m.le m' ∧ St g m' (F) w' ∧ RS (TGVariable) m' (vs Av0 r.1.Variables cv0) r.1.Variables ∧ RS (TGRelation) m' (vs Av1 r.1.Relations cv1) r.1.Relations ∧ RS (TGAbsence) m' (vs Av2 r.1.Absences cv2) r.1.Absences ∧ RS (TGColumn) m' (vs Av3 r.1.Group cv3) r.1.Group ∧ RS (TGAggregate) m' (vs Av4 r.1.Compute cv4) r.1.Compute ∧ RS (TGOrderKey) m' (vs Av5 r.1.Order cv5) r.1.Order
theorem c_syntax_Parse {a0 : Str} {r : GQuery × Int × Int} (h : syntax_Parse k a0 = some r) (hst : St g m (F) w) (hG : Glob m) :
    Calls Tryz.prog 19 ⟨[vstr a0]⟩ w (OPost (R_syntax_Parse g m F) r) := by
 refine calls_enter Tryz.func19 rfl rfl ?_
 unfold syntax_Parse at h
 refine qr (al [vn, vn, vn, vi 0, vi 0, vn, vn, vn, vi 0] hst (fun b1 _ hst => ?_))
 have hrc3 := RC.nil (TGVariable) m
 have hst := hst.nil_row 95 8
 have hrc5 := RC.nil (TGRelation) m
 have hst := hst.nil_row 104 3
 have hrc7 := RC.nil (TGAbsence) m
 have hst := hst.nil_row 106 11
 have hrc9 := RC.nil (TGColumn) m
 have hst := hst.nil_row 101 3
 have hrc11 := RC.nil (TGAggregate) m
 have hst := hst.nil_row 110 6
 have hrc13 := RC.nil (TGOrderKey) m
 have hst := hst.nil_row 112 2
 refine s0 2 [vi 0, vi 0] (nl (tn (sq (qr (s0 2 [vf 48 [] [vp b1 0]] ?_)))))
 have hst := pk24 hst
 obtain ⟨r25, hq26, h⟩ := bs h
 refine cal (c_syntax_parse hq26 hst hrc3 hrc5 hrc7 hrc9 hrc11 hrc13 hG) ?_
 rintro _ _ ⟨m27, Aq29, cq29, Aq30, cq30, Aq31, cq31, Aq32, cq32, Aq33, cq33, Aq34, cq34, rfl, hl28, hst, hq29, hq30, hq31, hq32, hq33, hq34⟩
 refine al [vi 0, vi 0] hst (fun b35 _ hst => ?_)
 refine so0 0 (cSFailure r25.2) hst (fun _ hst => ?_)
 refine nl (tn (qr (sg 3 [vp b35 1, vi r25.2.e_, vb (r25.2.e_ != 0)] _ (hst.q 0 1 1) (nl (tn (cn h (fun h => ?_) (fun h => ?_)))))))
 ·refine sq (dr false (fun x => Rd m27 (oo b35 84 (cSFailure r25.2) :: []) x) ?_)
  have hst := hst.drew
  refine gs [0, 1, 3, 2, 4] [va [vn, vn, vn, vi 0, vi 0, vn, vn, vn, vi 0], vp b35 0, vp b35 1, vi r25.2.at_, vi r25.2.e_] _ 3 (pqt (pqt pqb)) (hst.rd.with_ 0 rfl (hst.rd.none_)) (fun x hx => (hx.q 0 0 2)) ?_
  refine ge 5 rfl (so1 0 [vn, vn, vn, vi 0, vi 0, vn, vn, vn, vi 0] hst (fun _ hst => ?_))
  refine gn (hst.rd.with_ 0 rfl (hst.rd.none_)) (gs [6] [] [] 1 (pqt (pqt pqb)) (hst.rd.with_ 0 rfl (hst.rd.none_)) (fun x hx => trivial) ?_)
  refine ge 7 rfl (sg 1 [] [] trivial (nl (tn (⟨_, fun _ h => h, .inl ⟨rfl, allListed_of _ (by kernel_rfl)⟩, ?_⟩))))
  refine gd (tn (wp_ret (tr (wrr [va [vn, vn, vn, vi 0, vi 0, vn, vn, vn, vi 0], vi r25.2.at_, vi r25.2.e_] _ (hst.q 1 0 9) ?_))))
  have hst := pk2 hst
  cases h
  exact ⟨_, rfl, m27, none, 0, none, 0, none, 0, none, 0, none, 0, none, 0, rfl, hl28, hst, (RS.nil _ _), (RS.nil _ _), (RS.nil _ _), (RS.nil _ _), (RS.nil _ _), (RS.nil _ _)⟩
 refine wp_skip (tn (sq (qr (sg 1 [va (cGQuery r25.1 (vs Aq29 r25.1.Variables cq29) (vs Aq30 r25.1.Relations cq30) (vs Aq31 r25.1.Absences cq31) (vs Aq32 r25.1.Group cq32) (vs Aq33 r25.1.Compute cq33) (vs Aq34 r25.1.Order cq34))] _ (hst.q 1 0 9) ?_))))
 obtain ⟨r36, hq37, h⟩ := bs h
 refine cal (c_syntax_Check hq37 hst hq29 hq30 hq31 hq32 hq33 hq34 (Glob.mono hl28 hG)) ?_
 rintro _ _ ⟨m38, rfl, hl39, hst⟩
 refine s0 1 [] (nl (tn (qr (s0 2 [vb (r36 != 0)] (nl (tn (cn h (fun h => ?_) (fun h => ?_))))))))
 ·refine qr (s0 2 [va [vn, vn, vn, vi 0, vi 0, vn, vn, vn, vi 0]] (so1 0 [vn, vn, vn, vi 0, vi 0, vn, vn, vn, vi 0] hst (fun _ hst => ?_)))
  refine s0 2 [vi 0] (nl (tn (wp_ret (tr (wrr [va [vn, vn, vn, vi 0, vi 0, vn, vn, vn, vi 0], vi 0, vi r36] _ (hst.q 1 0 9) ?_)))))
  have hst := pk2 hst
  have e40 := hl28.trans hl39
  cases h
  exact ⟨_, rfl, m38, none, 0, none, 0, none, 0, none, 0, none, 0, none, 0, rfl, e40, hst, (RS.nil _ _), (RS.nil _ _), (RS.nil _ _), (RS.nil _ _), (RS.nil _ _), (RS.nil _ _)⟩
 refine wp_skip (tn (qr (sg 1 [va (cGQuery r25.1 (vs Aq29 r25.1.Variables cq29) (vs Aq30 r25.1.Relations cq30) (vs Aq31 r25.1.Absences cq31) (vs Aq32 r25.1.Group cq32) (vs Aq33 r25.1.Compute cq33) (vs Aq34 r25.1.Order cq34))] _ (hst.q 1 0 9) (so1 0 (cGQuery r25.1 (vs Aq29 r25.1.Variables cq29) (vs Aq30 r25.1.Relations cq30) (vs Aq31 r25.1.Absences cq31) (vs Aq32 r25.1.Group cq32) (vs Aq33 r25.1.Compute cq33) (vs Aq34 r25.1.Order cq34)) hst (fun _ hst => ?_)))))
 refine s0 2 [vi 0, vi 0] (nl (tn (wp_ret (wrr [va (cGQuery r25.1 (vs Aq29 r25.1.Variables cq29) (vs Aq30 r25.1.Relations cq30) (vs Aq31 r25.1.Absences cq31) (vs Aq32 r25.1.Group cq32) (vs Aq33 r25.1.Compute cq33) (vs Aq34 r25.1.Order cq34)), vi 0, vi 0] _ (hst.q 1 0 9) ?_))))
 have hst := pk2 hst
 have e41 := hl28.trans hl39
 cases h
 exact ⟨_, rfl, m38, Aq29, cq29, Aq30, cq30, Aq31, cq31, Aq32, cq32, Aq33, cq33, Aq34, cq34, rfl, e41, hst, (RS.mono hl39 hq29), (RS.mono hl39 hq30), (RS.mono hl39 hq31), (RS.mono hl39 hq32), (RS.mono hl39 hq33), (RS.mono hl39 hq34)⟩
def R_syntax_Print (g : World) (m : Mem) (F : List Asr) (r : Str × Int) (v : Value) (w' : World) : Prop := ∃ m', v = vt [vstr r.1, vi r.2] ∧ m.le m' ∧ St g m' (F) w'
theorem c_syntax_Print {a0 : GQuery} {r : Str × Int} (h : syntax_Print k a0 = some r) (hst : St g m (F) w) (hu0 : RS (TGVariable) m (vs Au0 a0.Variables cu0) a0.Variables) (hu1 : RS (TGRelation) m (vs Au1 a0.Relations cu1) a0.Relations) (hu2 : RS (TGAbsence) m (vs Au2 a0.Absences cu2) a0.Absences) (hu3 : RS (TGColumn) m (vs Au3 a0.Group cu3) a0.Group) (hu4 : RS (TGAggregate) m (vs Au4 a0.Compute cu4) a0.Compute) (hu5 : RS (TGOrderKey) m (vs Au5 a0.Order cu5) a0.Order) (hG : Glob m) :
    Calls Tryz.prog 28 ⟨[va (cGQuery a0 (vs Au0 a0.Variables cu0) (vs Au1 a0.Relations cu1) (vs Au2 a0.Absences cu2) (vs Au3 a0.Group cu3) (vs Au4 a0.Compute cu4) (vs Au5 a0.Order cu5))]⟩ w (OPost (R_syntax_Print g m F) r) := by
 refine calls_enter Tryz.func28 rfl rfl ?_
 unfold syntax_Print at h
 refine qr (bo_ (cGQuery a0 (vs Au0 a0.Variables cu0) (vs Au1 a0.Relations cu1) (vs Au2 a0.Absences cu2) (vs Au3 a0.Group cu3) (vs Au4 a0.Compute cu4) (vs Au5 a0.Order cu5)) hst (fun b1 _ hst => ?_))
 refine s0 2 [vstr w_0, vi 0] (nl (tn (sq (qr (sg 1 [va (cGQuery a0 (vs Au0 a0.Variables cu0) (vs Au1 a0.Relations cu1) (vs Au2 a0.Absences cu2) (vs Au3 a0.Group cu3) (vs Au4 a0.Compute cu4) (vs Au5 a0.Order cu5))] _ (hst.q 0 0 9) ?_)))))
 obtain ⟨r2, hq3, h⟩ := bs h
 refine cal (c_syntax_Check hq3 hst hu0 hu1 hu2 hu3 hu4 hu5 hG) ?_
 rintro _ _ ⟨m4, rfl, hl5, hst⟩
 refine s0 1 [] (nl (tn (qr (s0 2 [vb (r2 != 0)] (nl (tn (cn h (fun h => ?_) (fun h => ?_))))))))
 ·refine qr (s0 3 [vstr w_0] (nl (tn (wp_ret (tr (wr [vstr w_0, vi r2] ?_))))))
  have hst := pk0 hst
  cases h
  exact ⟨_, rfl, m4, rfl, hl5, hst⟩
 refine wp_skip (tn (qr (al [vn, vi 0, vi 0, vstr w_0, vi 0] hst (fun b6 _ hst => ?_))))
 have hrc8 := RC.nil (TInt .u8) m4
 have hst := hst.nil_row 5 1
 refine nl (tn (qr (sg 1 [va (cGQuery a0 (vs Au0 a0.Variables cu0) (vs Au1 a0.Relations cu1) (vs Au2 a0.Absences cu2) (vs Au3 a0.Group cu3) (vs Au4 a0.Compute cu4) (vs Au5 a0.Order cu5))] _ (hst.q 2 0 9) ?_)))
 have hst := pk1 hst
 obtain ⟨r9, hq10, h⟩ := bs h
 refine cal (c_writer_query hq10 hst hrc8 (RS.mono hl5 hu0) (RS.mono hl5 hu1) (RS.mono hl5 hu2) (RS.mono hl5 hu3) (RS.mono hl5 hu4) (RS.mono hl5 hu5) (Glob.mono hl5 hG)) ?_
 rintro _ _ ⟨m11, A14, c15, cs16, rfl, hl12, hst, hrc17⟩
 refine nl (tn (qr (sg 2 [vp b6 0, vs A14 r9.out c15] _ (hst.q 0 0 1) (vl (cro hst.rd 1 hrc17) (s0 2 [vi 0] (nl (tn (wp_ret (wr [vstr (List.map (fun q : Int => UInt8.ofNat q.toNat) r9.out), vi 0] ?_)))))))))
 have hst := pk27 hst
 have e18 := hl5.trans hl12
 cases h
 exact ⟨_, rfl, m11, rfl, e18, hst⟩
def R_syntax_ParsePred_c1 (g : World) (m : Mem) (F : List Asr) (ob0 : Nat) (ob1 : Nat) (r : SParser × GPred) (v : Value) (w' : World) : Prop := ∃ m' Av0 cv0, v = vt [] ∧ m.le m' ∧ St g m' (oo ob0 155 (cSParser r.1) :: oo ob1 44 (cGPred r.2 (vs Av0 r.2.Args cv0)) :: F) w' ∧ RS (TGPred) m' (vs Av0 r.2.Args cv0) r.2.Args
theorem c_syntax_ParsePred_c1 {a0 : SParser} {a1 : GPred} {r : Except Pan (SParser × GPred)} {A1_ : Option Addr} {c1_ : Nat} {cs1_ : List Value} (h : syntax_ParsePred_c1 k a0 a1 = some r) (hst : St g m (oo ob0 155 (cSParser a0) :: oo ob1 44 (cGPred a1 (vs A1_ a1.Args c1_)) :: rw_ 44 7 A1_ a1.Args c1_ cs1_ :: F) w) (hrc1_ : RC (TGPred) m a1.Args cs1_) :
    Calls Tryz.prog 50 ⟨[vp ob0 0, vp ob1 0]⟩ w (XPost (R_syntax_ParsePred_c1 g m F ob0 ob1) g m (oo ob1 44 (cGPred a1 (vs A1_ a1.Args c1_)) :: rw_ 44 7 A1_ a1.Args c1_ cs1_ :: F) r) := by
 refine calls_enter Tryz.func50 rfl rfl ?_
 unfold syntax_ParsePred_c1 at h
 refine rg (s0 1 [] ?_)
 rcases xbind_some h with ⟨p5, hq2, rfl⟩ | ⟨r1, hq2, h⟩
 ·exact cpa (c_parser_predicate hq2 hst) (fun _ _ hp => ⟨rfl, _, rfl, hp.p (Mem.le.refl _) 2 [0, 0]⟩)
 refine cal (c_parser_predicate hq2 hst) ?_
 rintro _ _ ⟨m3, Aq6, cq6, rfl, hl4, hst, hq6⟩
 refine so1 0 (cGPred r1.2 (vs Aq6 r1.2.Args cq6)) hst (fun _ hst => ?_)
 refine nl (we [] ?_)
 have hst := pk28 hst
 cases h
 exact ⟨_, rfl, m3, Aq6, cq6, rfl, hl4, hst, hq6⟩
def R_syntax_parse_i1 (g : World) (m : Mem) (F : List Asr) (ob1 : Nat) (r : GPred × SFailure) (v : Value) (w' : World) : Prop := ∃ m' Av0 cv0, v = va (cSFailure r.2) ∧ m.le m' ∧ St g m' (oo ob1 44 (cGPred r.1 (vs Av0 r.1.Args cv0)) :: F) w' ∧ RS (TGPred) m' (vs Av0 r.1.Args cv0) r.1.Args
theorem c_syntax_parse_i1 {a0 : Str} {a1 : GPred} {r : GPred × SFailure} {A1_ : Option Addr} {c1_ : Nat} {cs1_ : List Value} (h : syntax_parse_i1 k a0 a1 = some r) (hst : St g m (oo ob1 44 (cGPred a1 (vs A1_ a1.Args c1_)) :: rw_ 44 7 A1_ a1.Args c1_ cs1_ :: F) w) (hrc1_ : RC (TGPred) m a1.Args cs1_) :
    Calls Tryz.prog 47 ⟨[vstr a0, vf 50 [] [vp ob1 0]]⟩ w (OPost (R_syntax_parse_i1 g m F ob1) r) := by
 refine calls_enter_d Tryz.func47 rfl rfl ?_
 unfold syntax_parse_i1 at h
 refine qr (al [vi 0, vi 0] hst (fun b1 _ hst => ?_))
 refine nl (tn (sq (qr (s0 3 [vi ((a0).length : Int), vb (decide (((a0).length : Int) > 4096))] (nl (tn (cn h (fun h => ?_) (fun h => ?_))))))))
 ·refine qr (s0 1 [va [vi 0, vi 5]] (so0 0 [vi 0, vi 5] hst (fun _ hst => ?_)))
  refine nl (tn (wp_ret (tr ?_)))
  have hst := pk5 hst
  obtain ⟨m2, hl3, hst, hs4⟩ := hst.seal_row (T := TGPred) (xs := a1.Args) rfl hrc1_
  refine wc_ret_d0 [va [vi 0, vi 5]] [(ad b1 0, vi 0), (ad b1 1, vi 5)] (by kernel_rfl) ⟨hst.c 0, hst.c 0, trivial⟩ ?_
  have hst := pk0 hst
  cases h
  exact ⟨_, rfl, m2, A1_, c1_, rfl, hl3, hst, hs4⟩
 refine wp_skip (tn (qr (s0 1 [vf 101 [] [vp b1 0]] (wl_defer (d := { target := .fn (.func 101) ⟨[vp b1 0]⟩, args := ⟨[]⟩ }) rfl (by kernel_rfl) (nl (tn (qr (s0 3 [va [vstr a0, vi 0], va [vstr a0, vi 0, vi 0, vi 0, vstr w_0, vi 0]] (bo_ [vstr a0, vi 0, vi 0, vi 0, vstr w_0, vi 0] hst (fun b5 _ hst => ?_))))))))))
 refine s0 1 [] (nl (tn (qr (s0 1 [] ?_))))
 rcases xcatch_some h with ⟨p10, hq7, h⟩ | ⟨r6, hq7, h⟩
 ·refine cpa (c_parser_advance hq7 hst) (fun _ _ hp => ?_)
  refine tp ?_
  obtain ⟨rfl, m8, hl9, hst⟩ := hp
  have hst := pk5 hst
  obtain ⟨m11, hl12, hst, hs13⟩ := hst.seal_row (T := TGPred) (xs := a1.Args) rfl (RC.mono hl9 hrc1_)
  refine wc_pan_rec (p := p10) (b := b1) hst (fun _ => rfl) ⟨[va [vi p10.1, vi p10.2]], [(ad b1 0, vi p10.1), (ad b1 1, vi p10.2)], (by kernel_rfl), fun w9 hst => ⟨⟨hst.c 0, hst.c 0, trivial⟩, ?_⟩⟩
  have hst := pk0 hst
  have e14 := hl9.trans hl12
  cases h
  exact ⟨_, rfl, m11, A1_, c1_, rfl, e14, hst, hs13⟩
 refine cal (c_parser_advance hq7 hst) ?_
 rintro _ _ ⟨m8, rfl, hl9, hst⟩
 refine nl (tn (qr (s0 2 [] ?_)))
 have hst := pk35 hst
 rcases xcatch_some h with ⟨p19, hq16, h⟩ | ⟨r15, hq16, h⟩
 ·refine cpa (c_syntax_ParsePred_c1 hq16 hst (RC.mono hl9 hrc1_)) (fun _ _ hp => ?_)
  refine tp ?_
  obtain ⟨rfl, m17, hl18, hst⟩ := hp
  have hst := pk1 hst
  have e23 := hl9.trans hl18
  obtain ⟨m20, hl21, hst, hs22⟩ := hst.seal_row (T := TGPred) (xs := a1.Args) rfl (RC.mono e23 hrc1_)
  have hst := pk1 hst
  refine wc_pan_rec (p := p19) (b := b1) hst (fun _ => rfl) ⟨[va [vi p19.1, vi p19.2]], [(ad b1 0, vi p19.1), (ad b1 1, vi p19.2)], (by kernel_rfl), fun w9 hst => ⟨⟨hst.c 0, hst.c 0, trivial⟩, ?_⟩⟩
  have hst := pk0 hst
  have e24 := e23.trans hl21
  cases h
  exact ⟨_, rfl, m20, A1_, c1_, rfl, e24, hst, hs22⟩
 refine cal (c_syntax_ParsePred_c1 hq16 hst (RC.mono hl9 hrc1_)) ?_
 rintro _ _ ⟨m17, Aq25, cq25, rfl, hl18, hst, hq25⟩
 refine nl (tn (sq (qr (sg 6 [vp b5 0, vp b5 2, vp b5 2, vi r15.1.t_.kind, vb (r15.1.t_.kind != 0)] _ (hst.q 0 2 1) (nl (tn (cn h (fun h => ?_) (fun h => ?_))))))))
 ·refine rg (s0 1 [] ?_)
  rcases xcatch_some h with ⟨p30, hq27, h⟩ | ⟨r26, hq27, h⟩
  ·refine cpa (c_parser_wrong hq27 hst) (fun _ _ hp => ?_)
   refine tp ?_
   obtain ⟨rfl, m28, hl29, hst⟩ := hp
   have hst := pk5 hst
   refine wc_pan_rec (p := p30) (b := b1) hst (fun _ => rfl) ⟨[va [vi p30.1, vi p30.2]], [(ad b1 0, vi p30.1), (ad b1 1, vi p30.2)], (by kernel_rfl), fun w9 hst => ⟨⟨hst.c 0, hst.c 0, trivial⟩, ?_⟩⟩
   have hst := pk2 hst
   have e31 := hl9.trans (hl18.trans hl29)
   cases h
   exact ⟨_, rfl, m28, Aq25, cq25, rfl, e31, hst, (RS.mono hl29 hq25)⟩
  cases h
 refine wp_skip (tn (qr (s0 1 [va [vi 0, vi 0]] (so2 0 [vi 0, vi 0] hst (fun _ hst => ?_)))))
 refine nl (tn (wp_ret ((wc_ret_rec (b := b1) (fun _ => rfl)) [va [vi 0, vi 0]] [(ad b1 0, vi 0), (ad b1 1, vi 0)] (by kernel_rfl) ⟨hst.c 2, hst.c 2, trivial⟩ ?_)))
 have hst := pk15 hst
 have e32 := hl9.trans hl18
 cases h
 exact ⟨_, rfl, m17, Aq25, cq25, rfl, e32, hst, hq25⟩
def R_syntax_ParsePred (g : World) (m : Mem) (F : List Asr) (r : GPred × Int × Int) (v : Value) (w' : World) : Prop := ∃ m' Av0 cv0, v = vt [va (cGPred r.1 (vs Av0 r.1.Args cv0)), vi r.2.1, vi r.2.2] ∧ m.le m' ∧ St g m' (F) w' ∧ RS (TGPred) m' (vs Av0 r.1.Args cv0) r.1.Args
theorem c_syntax_ParsePred {a0 : Str} {r : GPred × Int × Int} (h : syntax_ParsePred k a0 = some r) (hst : St g m (F) w) :
    Calls Tryz.prog 20 ⟨[vstr a0]⟩ w (OPost (R_syntax_ParsePred g m F) r) := by
 refine calls_enter Tryz.func20 rfl rfl ?_
 unfold syntax_ParsePred at h
 refine qr (al [vi 0, vstr w_0, vstr w_0, vi 0, vstr w_0, vi 0, vn] hst (fun b1 _ hst => ?_))
 have hrc3 := RC.nil (TGPred) m
 have hst := hst.nil_row 44 7
 refine s0 2 [vi 0, vi 0] (nl (tn (sq (qr (s0 2 [vf 50 [] [vp b1 0]] ?_)))))
 have hst := pk1 hst
 obtain ⟨r10, hq11, h⟩ := bs h
 refine cal (c_syntax_parse_i1 hq11 hst hrc3) ?_
 rintro _ _ ⟨m12, Aq14, cq14, rfl, hl13, hst, hq14⟩
 refine al [vi 0, vi 0] hst (fun b15 _ hst => ?_)
 refine so0 0 (cSFailure r10.2) hst (fun _ hst => ?_)
 refine nl (tn (qr (sg 3 [vp b15 1, vi r10.2.e_, vb (r10.2.e_ != 0)] _ (hst.q 0 1 1) (nl (tn (cn h (fun h => ?_) (fun h => ?_)))))))
 ·refine sq (dr false (fun x => Rd m12 (oo b15 84 (cSFailure r10.2) :: []) x) ?_)
  have hst := hst.drew
  refine gs [0, 1, 3, 2, 4] [va [vi 0, vstr w_0, vstr w_0, vi 0, vstr w_0, vi 0, vn], vp b15 0, vp b15 1, vi r10.2.at_, vi r10.2.e_] _ 3 (pqt (pqt pqb)) (hst.rd.with_ 0 rfl (hst.rd.none_)) (fun x hx => (hx.q 0 0 2)) ?_
  refine ge 5 rfl (so1 0 [vi 0, vstr w_0, vstr w_0, vi 0, vstr w_0, vi 0, vn] hst (fun _ hst => ?_))
  refine gn (hst.rd.with_ 0 rfl (hst.rd.none_)) (gs [6] [] [] 1 (pqt (pqt pqb)) (hst.rd.with_ 0 rfl (hst.rd.none_)) (fun x hx => trivial) ?_)
  refine ge 7 rfl (sg 1 [] [] trivial (nl (tn (⟨_, fun _ h => h, .inl ⟨rfl, allListed_of _ (by kernel_rfl)⟩, ?_⟩))))
  refine gd (tn (wp_ret (tr (wrr [va [vi 0, vstr w_0, vstr w_0, vi 0, vstr w_0, vi 0, vn], vi r10.2.at_, vi r10.2.e_] _ (hst.q 1 0 7) ?_))))
  have hst := pk2 hst
  cases h
  exact ⟨_, rfl, m12, none, 0, rfl, hl13, hst, (RS.nil _ _)⟩
 refine wp_skip (tn (sq (qr (sg 1 [va (cGPred r10.1 (vs Aq14 r10.1.Args cq14))] _ (hst.q 1 0 7) ?_))))
 obtain ⟨r16, hq17, h⟩ := bs h
 refine cal (c_syntax_CheckPred hq17 hst hq14) ?_
 rintro _ _ ⟨m18, rfl, hl19, hst⟩
 refine s0 1 [] (nl (tn (qr (s0 2 [vb (r16 != 0)] (nl (tn (cn h (fun h => ?_) (fun h => ?_))))))))
 ·refine qr (s0 2 [va [vi 0, vstr w_0, vstr w_0, vi 0, vstr w_0, vi 0, vn]] (so1 0 [vi 0, vstr w_0, vstr w_0, vi 0, vstr w_0, vi 0, vn] hst (fun _ hst => ?_)))
  refine s0 2 [vi 0] (nl (tn (wp_ret (tr (wrr [va [vi 0, vstr w_0, vstr w_0, vi 0, vstr w_0, vi 0, vn], vi 0, vi r16] _ (hst.q 1 0 7) ?_)))))
  have hst := pk2 hst
  have e20 := hl13.trans hl19
  cases h
  exact ⟨_, rfl, m18, none, 0, rfl, e20, hst, (RS.nil _ _)⟩
 refine wp_skip (tn (qr (sg 1 [va (cGPred r10.1 (vs Aq14 r10.1.Args cq14))] _ (hst.q 1 0 7) (so1 0 (cGPred r10.1 (vs Aq14 r10.1.Args cq14)) hst (fun _ hst => ?_)))))
 refine s0 2 [vi 0, vi 0] (nl (tn (wp_ret (wrr [va (cGPred r10.1 (vs Aq14 r10.1.Args cq14)), vi 0, vi 0] _ (hst.q 1 0 7) ?_))))
 have hst := pk2 hst
 have e21 := hl13.trans hl19
 cases h
 exact ⟨_, rfl, m18, Aq14, cq14, rfl, e21, hst, (RS.mono hl19 hq14)⟩
def R_syntax_PrintPred (g : World) (m : Mem) (F : List Asr) (r : Str × Int) (v : Value) (w' : World) : Prop := ∃ m', v = vt [vstr r.1, vi r.2] ∧ m.le m' ∧ St g m' (F) w'
theorem c_syntax_PrintPred {a0 : GPred} {r : Str × Int} (h : syntax_PrintPred k a0 = some r) (hst : St g m (F) w) (hu0 : RS (TGPred) m (vs Au0 a0.Args cu0) a0.Args) (hG : Glob m) :
    Calls Tryz.prog 33 ⟨[va (cGPred a0 (vs Au0 a0.Args cu0))]⟩ w (OPost (R_syntax_PrintPred g m F) r) := by
 refine calls_enter Tryz.func33 rfl rfl ?_
 unfold syntax_PrintPred at h
 refine qr (bo_ (cGPred a0 (vs Au0 a0.Args cu0)) hst (fun b1 _ hst => ?_))
 refine s0 2 [vstr w_0, vi 0] (nl (tn (sq (qr (sg 1 [va (cGPred a0 (vs Au0 a0.Args cu0))] _ (hst.q 0 0 7) ?_)))))
 obtain ⟨r2, hq3, h⟩ := bs h
 refine cal (c_syntax_CheckPred hq3 hst hu0) ?_
 rintro _ _ ⟨m4, rfl, hl5, hst⟩
 refine s0 1 [] (nl (tn (qr (s0 2 [vb (r2 != 0)] (nl (tn (cn h (fun h => ?_) (fun h => ?_))))))))
 ·refine qr (s0 3 [vstr w_0] (nl (tn (wp_ret (tr (wr [vstr w_0, vi r2] ?_))))))
  have hst := pk0 hst
  cases h
  exact ⟨_, rfl, m4, rfl, hl5, hst⟩
 refine wp_skip (tn (qr (al [vn, vi 0, vi 0, vstr w_0, vi 0] hst (fun b6 _ hst => ?_))))
 have hrc8 := RC.nil (TInt .u8) m4
 have hst := hst.nil_row 5 1
 refine nl (tn (qr (sg 1 [va (cGPred a0 (vs Au0 a0.Args cu0))] _ (hst.q 2 0 7) ?_)))
 have hst := pk1 hst
 obtain ⟨r9, hq10, h⟩ := bs h
 refine cal (c_writer_pred hq10 hst hrc8 (RS.mono hl5 hu0) (Glob.mono hl5 hG)) ?_
 rintro _ _ ⟨m11, A14, c15, cs16, rfl, hl12, hst, hrc17⟩
 refine nl (tn (qr (sg 2 [vp b6 0, vs A14 r9.out c15] _ (hst.q 0 0 1) (vl (cro hst.rd 1 hrc17) (s0 2 [vi 0] (nl (tn (wp_ret (wr [vstr (List.map (fun q : Int => UInt8.ofNat q.toNat) r9.out), vi 0] ?_)))))))))
 have hst := pk27 hst
 have e18 := hl5.trans hl12
 cases h
 exact ⟨_, rfl, m11, rfl, e18, hst⟩
abbrev R_l36_known := RBool
theorem c_l36_known {r : Bool} (h : l36_known k = some r) (hst : St g m (F) w) (hG : Glob m) :
    Calls Tryz.prog 14 ⟨[]⟩ w (OPost (R_l36_known g m F) r) := by
 refine calls_enter Tryz.func14 rfl rfl ?_
 unfold l36_known at h
 refine qr (s0 1 [vb false] (nl (tn (qr ?_))))
 obtain ⟨r1, hq2, h⟩ := bs h
 refine cal (c_syntax_Parse hq2 hst hG) ?_
 rintro _ _ ⟨m3, Aq5, cq5, Aq6, cq6, Aq7, cq7, Aq8, cq8, Aq9, cq9, Aq10, cq10, rfl, hl4, hst, hq5, hq6, hq7, hq8, hq9, hq10⟩
 refine s0 4 [va (cGQuery r1.1 (vs Aq5 r1.1.Variables cq5) (vs Aq6 r1.1.Relations cq6) (vs Aq7 r1.1.Absences cq7) (vs Aq8 r1.1.Group cq8) (vs Aq9 r1.1.Compute cq9) (vs Aq10 r1.1.Order cq10)), vi r1.2.1, vi r1.2.2] (al [vn, vn, vn, vi 0, vi 0, vn, vn, vn, vi 0] hst (fun b11 _ hst => ?_))
 have hrc13 := RC.nil (TGVariable) m3
 have hst := hst.nil_row 95 8
 have hrc15 := RC.nil (TGRelation) m3
 have hst := hst.nil_row 104 3
 have hrc17 := RC.nil (TGAbsence) m3
 have hst := hst.nil_row 106 11
 have hrc19 := RC.nil (TGColumn) m3
 have hst := hst.nil_row 101 3
 have hrc21 := RC.nil (TGAggregate) m3
 have hst := hst.nil_row 110 6
 have hrc23 := RC.nil (TGOrderKey) m3
 have hst := hst.nil_row 112 2
 refine so6 0 (cGQuery r1.1 (vs Aq5 r1.1.Variables cq5) (vs Aq6 r1.1.Relations cq6) (vs Aq7 r1.1.Absences cq7) (vs Aq8 r1.1.Group cq8) (vs Aq9 r1.1.Compute cq9) (vs Aq10 r1.1.Order cq10)) hst (fun _ hst => ?_)
 refine s0 2 [] (nl (tn (qr ?_)))
 have hst := pk34 hst
 refine sg 1 [va (cGQuery r1.1 (vs Aq5 r1.1.Variables cq5) (vs Aq6 r1.1.Relations cq6) (vs Aq7 r1.1.Absences cq7) (vs Aq8 r1.1.Group cq8) (vs Aq9 r1.1.Compute cq9) (vs Aq10 r1.1.Order cq10))] _ (hst.q 0 0 9) ?_
 obtain ⟨r24, hq25, h⟩ := bs h
 refine cal (c_syntax_Print hq25 hst hq5 hq6 hq7 hq8 hq9 hq10 (Glob.mono hl4 hG)) ?_
 rintro _ _ ⟨m26, rfl, hl27, hst⟩
 refine s0 5 [vstr r24.1, vi r24.2] (nl (tn (qr ?_)))
 obtain ⟨r28, hq29, h⟩ := bs h
 refine cal (c_syntax_ParsePred hq29 hst) ?_
 rintro _ _ ⟨m30, Aq32, cq32, rfl, hl31, hst, hq32⟩
 refine s0 4 [va (cGPred r28.1 (vs Aq32 r28.1.Args cq32)), vi r28.2.1, vi r28.2.2] (al [vi 0, vstr w_0, vstr w_0, vi 0, vstr w_0, vi 0, vn] hst (fun b33 _ hst => ?_))
 have hrc35 := RC.nil (TGPred) m30
 have hst := hst.nil_row 44 7
 refine so1 0 (cGPred r28.1 (vs Aq32 r28.1.Args cq32)) hst (fun _ hst => ?_)
 refine s0 2 [] (nl (tn (qr ?_)))
 have hst := pk15 hst
 have e40 := hl4.trans (hl27.trans hl31)
 obtain ⟨r36, hq37, h⟩ := bs h
 refine cal (c_syntax_Parse hq37 hst (Glob.mono e40 hG)) ?_
 rintro _ _ ⟨m38, Aq41, cq41, Aq42, cq42, Aq43, cq43, Aq44, cq44, Aq45, cq45, Aq46, cq46, rfl, hl39, hst, hq41, hq42, hq43, hq44, hq45, hq46⟩
 refine s0 4 [va (cGQuery r36.1 (vs Aq41 r36.1.Variables cq41) (vs Aq42 r36.1.Relations cq42) (vs Aq43 r36.1.Absences cq43) (vs Aq44 r36.1.Group cq44) (vs Aq45 r36.1.Compute cq45) (vs Aq46 r36.1.Order cq46)), vi r36.2.1, vi r36.2.2] (al [vn, vn, vn, vi 0, vi 0, vn, vn, vn, vi 0] hst (fun b47 _ hst => ?_))
 have hrc49 := RC.nil (TGVariable) m38
 have hst := hst.nil_row 95 8
 have hrc51 := RC.nil (TGRelation) m38
 have hst := hst.nil_row 104 3
 have hrc53 := RC.nil (TGAbsence) m38
 have hst := hst.nil_row 106 11
 have hrc55 := RC.nil (TGColumn) m38
 have hst := hst.nil_row 101 3
 have hrc57 := RC.nil (TGAggregate) m38
 have hst := hst.nil_row 110 6
 have hrc59 := RC.nil (TGOrderKey) m38
 have hst := hst.nil_row 112 2
 refine so6 0 (cGQuery r36.1 (vs Aq41 r36.1.Variables cq41) (vs Aq42 r36.1.Relations cq42) (vs Aq43 r36.1.Absences cq43) (vs Aq44 r36.1.Group cq44) (vs Aq45 r36.1.Compute cq45) (vs Aq46 r36.1.Order cq46)) hst (fun _ hst => ?_)
 refine s0 2 [] (nl (tn (qr ?_)))
 have hst := pk36 hst
 refine sg 1 [va (cGPred r28.1 (vs Aq32 r28.1.Args cq32))] _ (hst.q 0 0 7) ?_
 have e64 := e40.trans hl39
 obtain ⟨r60, hq61, h⟩ := bs h
 refine cal (c_syntax_PrintPred hq61 hst (RS.mono hl39 hq32) (Glob.mono e64 hG)) ?_
 rintro _ _ ⟨m62, rfl, hl63, hst⟩
 refine s0 5 [vstr r60.1, vi r60.2] (nl (tn (qr (s0 3 [vb (r1.2.2 == 0)] ?_))))
 rcases sp h with ⟨hc65, h⟩ | ⟨hc65, h⟩
 ·rw [hc65]
  refine s0 4 [vb (r1.2.1 == 0), vb (r1.2.1 == 0)] ?_
  rcases sp h with ⟨hc66, h⟩ | ⟨hc66, h⟩
  ·rw [hc66]
   refine s0 4 [vb (r24.2 == 0), vb (r24.2 == 0)] ?_
   rcases sp h with ⟨hc67, h⟩ | ⟨hc67, h⟩
   ·rw [hc67]
    refine s0 1 [] (vl (re r24.1 wt48) (s0 2 [vb (r24.1 == wt48)] ?_))
    rcases sp h with ⟨hc68, h⟩ | ⟨hc68, h⟩
    ·rw [hc68]
     refine s0 4 [vb (r28.2.2 == 0), vb (r28.2.2 == 0)] ?_
     rcases sp h with ⟨hc69, h⟩ | ⟨hc69, h⟩
     ·rw [hc69]
      refine s0 4 [vb (r60.2 == 0), vb (r60.2 == 0)] ?_
      rcases sp h with ⟨hc70, h⟩ | ⟨hc70, h⟩
      ·rw [hc70]
       refine s0 1 [] (vl (re r60.1 wt49) (s0 2 [vb (r60.1 == wt49)] ?_))
       rcases sp h with ⟨hc71, h⟩ | ⟨hc71, h⟩
       ·rw [hc71]
        refine s0 4 [vb (r36.2.1 == 5), vb (r36.2.1 == 5)] ?_
        rcases sp h with ⟨hc72, h⟩ | ⟨hc72, h⟩
        ·rw [hc72]
         refine s0 4 [vb (r36.2.2 == 14), vb (r36.2.2 == 14)] (nl (tn (wp_ret (wr [vb (r36.2.2 == 14)] ?_))))
         have hst := pk0 hst
         have e73 := e64.trans hl63
         cases h
         exact ⟨_, rfl, m62, rfl, e73, hst⟩
        rw [hc72]
        refine sk 2 (s0 2 [vb false] (nl (tn (wp_ret (wr [vb false] ?_)))))
        have hst := pk0 hst
        have e74 := e64.trans hl63
        have h := Option.some.inj h; subst h
        exact ⟨_, rfl, m62, rfl, e74, hst⟩
       rw [hc71]
       refine sk 2 (s0 2 [vb false] (sk 2 (s0 2 [vb false] (nl (tn (wp_ret (wr [vb false] ?_)))))))
       have hst := pk0 hst
       have e75 := e64.trans hl63
       have h := Option.some.inj h; subst h
       exact ⟨_, rfl, m62, rfl, e75, hst⟩
      rw [hc70]
      refine sk 2 (s0 2 [vb false] (sk 2 (s0 2 [vb false] (sk 2 (s0 2 [vb false] (nl (tn (wp_ret (wr [vb false] ?_)))))))))
      have hst := pk0 hst
      have e76 := e64.trans hl63
      have h := Option.some.inj h; subst h
      exact ⟨_, rfl, m62, rfl, e76, hst⟩
     rw [hc69]
     refine sk 2 (s0 2 [vb false] (sk 2 (s0 2 [vb false] (sk 2 (s0 2 [vb false] (sk 2 (s0 2 [vb false] (nl (tn (wp_ret (wr [vb false] ?_)))))))))))
     have hst := pk0 hst
     have e77 := e64.trans hl63
     have h := Option.some.inj h; subst h
     exact ⟨_, rfl, m62, rfl, e77, hst⟩
    rw [hc68]
    refine sk 2 (s0 2 [vb false] (sk 2 (s0 2 [vb false] (sk 2 (s0 2 [vb false] (sk 2 (s0 2 [vb false] (sk 2 (s0 2 [vb false] (nl (tn (wp_ret (wr [vb false] ?_)))))))))))))
    have hst := pk0 hst
    have e78 := e64.trans hl63
    have h := Option.some.inj h; subst h
    exact ⟨_, rfl, m62, rfl, e78, hst⟩
   rw [hc67]
   refine sk 2 (s0 2 [vb false] (sk 2 (s0 2 [vb false] (sk 2 (s0 2 [vb false] (sk 2 (s0 2 [vb false] (sk 2 (s0 2 [vb false] (sk 2 (s0 2 [vb false] (nl (tn (wp_ret (wr [vb false] ?_)))))))))))))))
   have hst := pk0 hst
   have e79 := e64.trans hl63
   have h := Option.some.inj h; subst h
   exact ⟨_, rfl, m62, rfl, e79, hst⟩
  rw [hc66]
  refine sk 2 (s0 2 [vb false] (sk 2 (s0 2 [vb false] (sk 2 (s0 2 [vb false] (sk 2 (s0 2 [vb false] (sk 2 (s0 2 [vb false] (sk 2 (s0 2 [vb false] (sk 2 (s0 2 [vb false] (nl (tn (wp_ret (wr [vb false] ?_)))))))))))))))))
  have hst := pk0 hst
  have e80 := e64.trans hl63
  have h := Option.some.inj h; subst h
  exact ⟨_, rfl, m62, rfl, e80, hst⟩
 rw [hc65]
 refine sk 2 (s0 2 [vb false] (sk 2 (s0 2 [vb false] (sk 2 (s0 2 [vb false] (sk 2 (s0 2 [vb false] (sk 2 (s0 2 [vb false] (sk 2 (s0 2 [vb false] (sk 2 (s0 2 [vb false] (sk 2 (s0 2 [vb false] (nl (tn (wp_ret (wr [vb false] ?_)))))))))))))))))))
 have hst := pk0 hst
 have e81 := e64.trans hl63
 have h := Option.some.inj h; subst h
 exact ⟨_, rfl, m62, rfl, e81, hst⟩
abbrev R_l36_samePred := RBool
structure I_l36_samePred (k : Nat) : Prop where
  c_l36_samePred : ∀ {a0 : GPred} {a1 : GPred} {r : Bool} {g : World} {m : Mem} {F : List Asr} {w : World} {Au0 : Option Addr} {cu0 : Nat} {Au1 : Option Addr} {cu1 : Nat} (h : l36_samePred k a0 a1 = some r) (hst : St g m (F) w) (hu0 : RS (TGPred) m (vs Au0 a0.Args cu0) a0.Args) (hu1 : RS (TGPred) m (vs Au1 a1.Args cu1) a1.Args),
    Calls Tryz.prog 24 ⟨[va (cGPred a0 (vs Au0 a0.Args cu0)), va (cGPred a1 (vs Au1 a1.Args cu1))]⟩ w (OPost (R_l36_samePred g m F) r)
theorem s_l36_samePred (ih : ∀ j, j < k → I_l36_samePred j) {a0 : GPred} {a1 : GPred} {r : Bool} (h : l36_samePred k a0 a1 = some r) (hst : St g m (F) w) (hu0 : RS (TGPred) m (vs Au0 a0.Args cu0) a0.Args) (hu1 : RS (TGPred) m (vs Au1 a1.Args cu1) a1.Args) :
    Calls Tryz.prog 24 ⟨[va (cGPred a0 (vs Au0 a0.Args cu0)), va (cGPred a1 (vs Au1 a1.Args cu1))]⟩ w (OPost (R_l36_samePred g m F) r) := by
 refine calls_enter Tryz.func24 rfl rfl ?_
 obtain _ | k1 := k
 ·simp [l36_samePred] at h
 rw [l36_samePred] at h
 refine qr (bo_ (cGPred a0 (vs Au0 a0.Args cu0)) hst (fun b1 _ hst => ?_))
 refine bo_ (cGPred a1 (vs Au1 a1.Args cu1)) hst (fun b2 _ hst => ?_)
 refine s0 1 [vb false] (nl (tn (sq (wc_join (fun a w => ∃ f0 k13 m15 x11, a = act Tryz.f24.ntmps (upds f0 [(2, vp b1 0), (3, vp b2 0), (4, vb false), (40, vb x11)]) ∧ k13 ≤ k1 ∧ l36_samePred_j1 k13 a0 a1 x11 = some r ∧ m.le m15 ∧ St g m15 (oo b2 44 (cGPred a1 (vs Au1 a1.Args cu1)) :: oo b1 44 (cGPred a0 (vs Au0 a0.Args cu0)) :: F) w) ?_ ?_))))
 ·rintro _ _ ⟨f0, k13, m15, x11, rfl, hk14, h, hl12, hst⟩
  obtain _ | k16 := k13
  ·simp [l36_samePred_j1] at h
  rw [l36_samePred_j1] at h
  refine cn h (fun h => ?_) (fun h => ?_)
  ·refine qr (s0 1 [vb false] (nl (tn (wp_ret (tr (wr [vb false] ?_))))))
   have hst := pk2 hst
   have h := Option.some.inj h; subst h
   exact ⟨_, rfl, m15, rfl, hl12, hst⟩
  refine wp_skip (tn (sq (qr (s0 1 [vi 0] (nl (tn (bk (wc_loop (fun kk a w => ∃ f0 m120 x66, a = act Tryz.f24.ntmps (upds f0 [(2, vp b1 0), (3, vp b2 0), (4, vb false), (5, vi x66)]) ∧ kk ≤ k16 ∧ l36_samePred_l2 kk a0 a1 x66 = some r ∧ m15.le m120 ∧ St g m120 (oo b2 44 (cGPred a1 (vs Au1 a1.Args cu1)) :: oo b1 44 (cGPred a0 (vs Au0 a0.Args cu0)) :: F) w) k16 ?_ ?_))))))))
  ·exact ⟨_, m15, (0), au, (Nat.le_refl _), h, (Mem.le.refl _), hst⟩
  rintro k118 ih119 _ _ ⟨f0, m120, x66, rfl, hk117, h, hl116, hst⟩
  obtain _ | k122 := k118
  ·simp [l36_samePred_l2] at h
  rw [l36_samePred_l2] at h
  refine sq (qr (sg 5 [vp b1 6, vs Au0 a0.Args cu0, vi ((a0.Args).length : Int), vb (decide (x66 < ((a0.Args).length : Int)))] _ (hst.q 1 6 1) (nl (tn (cn h (fun h => ?_) (fun h => ?_))))))
  ·refine wp_skip (tn (sq (bk (sq (dr false (fun x => Rd m120 (oo b1 44 (cGPred a0 (vs Au0 a0.Args cu0)) :: oo b2 44 (cGPred a1 (vs Au1 a1.Args cu1)) :: []) x) ?_)))))
   have hst := hst.drew
   refine gs [0, 2, 5, 7, 1, 6] [vp b1 6, vp b2 6, vs Au0 a0.Args cu0, vs Au1 a1.Args cu1] _ 6 (pqt (pqk (pqt (pqt (pqk (pqt pqb)))))) (hst.rd.with_ 1 rfl (hst.rd.with_ 0 rfl (hst.rd.none_))) (fun x hx => (AllC.app (hx.q 0 6 1) (hx.q 1 6 1))) ?_
   obtain ⟨x149, hx150, h⟩ := ix h
   have e157 := hl12.trans hl116
   obtain ⟨b151, o152, cs153, hR154, hA155, hI156⟩ := RS.ix (P := Tryz.prog) (RS.mono e157 hu0) hx150
   obtain ⟨Aq158, cq158, rfl, hq158⟩ := TGPred.opn hR154
   refine gv 3 (pqt (pqk (pqt (pqt (pqk (pqt pqb)))))) (hst.rd.with_ 1 rfl (hst.rd.with_ 0 rfl (hst.rd.none_))) rfl (fun x hx => hI156.r .i64) ?_
   refine gs [4] [va (cGPred x149 (vs Aq158 x149.Args cq158))] _ 4 (pqt (pqk (pqt (pqt (pqk (pqt pqb)))))) (hst.rd.with_ 1 rfl (hst.rd.with_ 0 rfl (hst.rd.none_))) (fun x hx => (hx.f hA155 0 7)) ?_
   obtain ⟨x160, hx161, h⟩ := ix h
   obtain ⟨b162, o163, cs164, hR165, hA166, hI167⟩ := RS.ix (P := Tryz.prog) (RS.mono e157 hu1) hx161
   obtain ⟨Aq168, cq168, rfl, hq168⟩ := TGPred.opn hR165
   refine gv 8 (pqt (pqk (pqt (pqt (pqk (pqt pqb)))))) (hst.rd.with_ 1 rfl (hst.rd.with_ 0 rfl (hst.rd.none_))) rfl (fun x hx => hI167.r .i64) ?_
   refine gs [9] [va (cGPred x160 (vs Aq168 x160.Args cq168))] _ 2 (pqt (pqk (pqt (pqt (pqk (pqt pqb)))))) (hst.rd.with_ 1 rfl (hst.rd.with_ 0 rfl (hst.rd.none_))) (fun x hx => (hx.f hA166 0 7)) ?_
   refine ge 10 rfl ?_
   obtain ⟨r169, hq170, h⟩ := bs h
   refine cal ((ih k122 (by omega)).c_l36_samePred hq170 hst hq158 hq168) ?_
   rintro _ _ ⟨m171, rfl, hl172, hst⟩
   refine gn (Rd.lower hl172 (hst.rd.with_ 1 rfl (hst.rd.with_ 0 rfl (hst.rd.none_)))) (ge 11 rfl (sg 1 [vb (!r169)] [] trivial (nl (tn (⟨_, fun _ h => h, .inl ⟨rfl, allListed_of _ (by kernel_rfl)⟩, ?_⟩)))))
   refine gd (tn (cn h (fun h => ?_) (fun h => ?_)))
   ·refine qr (s0 1 [vb false] (nl (tn (wp_ret (br (tr (tr (br (tr (wr [vb false] ?_))))))))))
    have hst := pk2 hst
    have e173 := e157.trans hl172
    have h := Option.some.inj h; subst h
    exact ⟨_, rfl, m171, rfl, e173, hst⟩
   refine wp_skip (bn (tn (rg (s0 3 [vi (w64 (x66 + 1))] (nl (tn ?_))))))
   have e174 := hl116.trans hl172
   exact ih119 k122 (by omega) _ _ ⟨_, m171, (w64 (x66 + 1)), au, (by omega), h, e174, hst⟩
  refine wp_exit (tx (tx (bx (tn (qr ?_)))))
  have hst := pk2 hst
  refine s0 1 [vb true] (nl (tn (wp_ret (wr [vb true] ?_))))
  have e175 := hl12.trans hl116
  have h := Option.some.inj h; subst h
  exact ⟨_, rfl, m120, rfl, e175, hst⟩
 refine rg (sg 6 [vp b1 0, vi a0.Op, vp b2 0, vi a1.Op, vb (a0.Op != a1.Op)] _ (AllC.app (hst.q 1 0 1) (hst.q 0 0 1)) ?_)
 rcases sp h with ⟨hc176, h⟩ | ⟨hc176, h⟩
 ·rw [hc176]
  refine sk 5 (s0 2 [vb true] (sk 5 (s0 2 [vb true] (sk 5 (s0 2 [vb true] (sk 7 (s0 1 [vb true] (nl (tn ?_)))))))))
  exact ⟨_, k1, m, (true), au, (by omega), h, (Mem.le.refl _), hst⟩
 rw [hc176]
 refine sg 4 [vp b1 1, vstr a0.Field, vp b2 1, vstr a1.Field] _ (AllC.app (hst.q 1 1 1) (hst.q 0 1 1)) (vl (rne a0.Field a1.Field) (s0 2 [vb (!(a0.Field == a1.Field))] ?_))
 rcases sp h with ⟨hc177, h⟩ | ⟨hc177, h⟩
 ·rw [hc177]
  refine sk 5 (s0 2 [vb true] (sk 5 (s0 2 [vb true] (sk 7 (s0 1 [vb true] (nl (tn ?_)))))))
  exact ⟨_, k1, m, (true), au, (by omega), h, (Mem.le.refl _), hst⟩
 rw [hc177]
 refine sg 4 [vp b1 2, vstr a0.Key, vp b2 2, vstr a1.Key] _ (AllC.app (hst.q 1 2 1) (hst.q 0 2 1)) (vl (rne a0.Key a1.Key) (s0 2 [vb (!(a0.Key == a1.Key))] ?_))
 rcases sp h with ⟨hc178, h⟩ | ⟨hc178, h⟩
 ·rw [hc178]
  refine sk 5 (s0 2 [vb true] (sk 7 (s0 1 [vb true] (nl (tn ?_)))))
  exact ⟨_, k1, m, (true), au, (by omega), h, (Mem.le.refl _), hst⟩
 rw [hc178]
 refine sg 4 [vp b1 3, va (cGValue a0.Value), vp b2 3, va (cGValue a1.Value)] _ (AllC.app (hst.q 1 3 3) (hst.q 0 3 3)) (vl (ran ((a0.Value.Kind == a1.Value.Kind) && ((a0.Value.Text == a1.Value.Text) && ((a0.Value.Int == a1.Value.Int) && true))) (cGValue a0.Value) (cGValue a1.Value)) (s0 2 [vb (!((a0.Value.Kind == a1.Value.Kind) && ((a0.Value.Text == a1.Value.Text) && ((a0.Value.Int == a1.Value.Int) && true))))] ?_))
 rcases sp h with ⟨hc179, h⟩ | ⟨hc179, h⟩
 ·rw [hc179]
  refine sk 7 (s0 1 [vb true] (nl (tn ?_)))
  exact ⟨_, k1, m, (true), au, (by omega), h, (Mem.le.refl _), hst⟩
 rw [hc179]
 refine sg 8 [vp b1 6, vs Au0 a0.Args cu0, vi ((a0.Args).length : Int), vp b2 6, vs Au1 a1.Args cu1, vi ((a1.Args).length : Int), vb (((a0.Args).length : Int) != ((a1.Args).length : Int)), vb (((a0.Args).length : Int) != ((a1.Args).length : Int))] _ (AllC.app (hst.q 1 6 1) (hst.q 0 6 1)) (nl (tn ?_))
 exact ⟨_, k1, m, ((((a0.Args).length : Int) != ((a1.Args).length : Int))), au, (by omega), h, (Mem.le.refl _), hst⟩
theorem i_l36_samePred (k : Nat) : I_l36_samePred k := by
  induction k using Nat.strongRecOn with
  | ind k ih => exact ⟨s_l36_samePred ih⟩
theorem c_l36_samePred {a0 : GPred} {a1 : GPred} {r : Bool} (h : l36_samePred k a0 a1 = some r) (hst : St g m (F) w) (hu0 : RS (TGPred) m (vs Au0 a0.Args cu0) a0.Args) (hu1 : RS (TGPred) m (vs Au1 a1.Args cu1) a1.Args) :
    Calls Tryz.prog 24 ⟨[va (cGPred a0 (vs Au0 a0.Args cu0)), va (cGPred a1 (vs Au1 a1.Args cu1))]⟩ w (OPost (R_l36_samePred g m F) r) := (i_l36_samePred k).c_l36_samePred h hst hu0 hu1
end Go.Proofs.YtfnaahkgegfbnaaGreatDoor
