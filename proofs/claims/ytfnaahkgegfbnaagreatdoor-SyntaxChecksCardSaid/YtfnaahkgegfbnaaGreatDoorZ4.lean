/- Texts joined by a program of this session: Gg0, Gb0, Gc0, Ge0, Gf0, Gi0, Gn0, Gh0, Go0, Gx0. -/
import Derived.Test.YtfnaahkgegfbnaaGreatDoorZ0
import Derived.Test.YtfnaahkgegfbnaaGreatDoorZ1
import Derived.Test.YtfnaahkgegfbnaaGreatDoorZ3
import Derived.Test.YtfnaahkgegfbnaaGreatDoorZ2
set_option linter.unusedVariables false
set_option linter.unusedSimpArgs false
set_option maxRecDepth 10000
namespace Go.Proofs.YtfnaahkgegfbnaaGreatDoor
variable {k cu0 cu1 cu2 cu3 cu4 cu5 cu6 cu7 cu8 cu9 cu10 cu11 cu12 cu13 cu14 cu15 cu16 cu17 cu18 cu19 cu20 cu21 cu22 cu23 cu24 cu25 cu26 cu27 cu28 cu29 cu30 cu31 cu32 cu33 cu34 cu35 cu36 cu37 cu38 cu39 ob0 ob1 ob2 ob3 ob4 ob5 ob6 ob7 ob8 ob9 ob10 ob11 : Nat} {g w : World} {m : Mem} {F : List Asr} {Au0 Au1 Au2 Au3 Au4 Au5 Au6 Au7 Au8 Au9 Au10 Au11 Au12 Au13 Au14 Au15 Au16 Au17 Au18 Au19 Au20 Au21 Au22 Au23 Au24 Au25 Au26 Au27 Au28 Au29 Au30 Au31 Au32 Au33 Au34 Au35 Au36 Au37 Au38 Au39 : Option Addr}
abbrev R_l36_same := RBool
theorem c_l36_same {a0 : GQuery} {a1 : GQuery} {r : Bool} (h : l36_same k a0 a1 = some r) (hst : St g m (F) w) (hu0 : RS (TGVariable) m (vs Au0 a0.Variables cu0) a0.Variables) (hu1 : RS (TGRelation) m (vs Au1 a0.Relations cu1) a0.Relations) (hu2 : RS (TGAbsence) m (vs Au2 a0.Absences cu2) a0.Absences) (hu3 : RS (TGColumn) m (vs Au3 a0.Group cu3) a0.Group) (hu4 : RS (TGAggregate) m (vs Au4 a0.Compute cu4) a0.Compute) (hu5 : RS (TGOrderKey) m (vs Au5 a0.Order cu5) a0.Order) (hu6 : RS (TGVariable) m (vs Au6 a1.Variables cu6) a1.Variables) (hu7 : RS (TGRelation) m (vs Au7 a1.Relations cu7) a1.Relations) (hu8 : RS (TGAbsence) m (vs Au8 a1.Absences cu8) a1.Absences) (hu9 : RS (TGColumn) m (vs Au9 a1.Group cu9) a1.Group) (hu10 : RS (TGAggregate) m (vs Au10 a1.Compute cu10) a1.Compute) (hu11 : RS (TGOrderKey) m (vs Au11 a1.Order cu11) a1.Order) :
    Calls Tryz.prog 23 ⟨[va (cGQuery a0 (vs Au0 a0.Variables cu0) (vs Au1 a0.Relations cu1) (vs Au2 a0.Absences cu2) (vs Au3 a0.Group cu3) (vs Au4 a0.Compute cu4) (vs Au5 a0.Order cu5)), va (cGQuery a1 (vs Au6 a1.Variables cu6) (vs Au7 a1.Relations cu7) (vs Au8 a1.Absences cu8) (vs Au9 a1.Group cu9) (vs Au10 a1.Compute cu10) (vs Au11 a1.Order cu11))]⟩ w (OPost (R_l36_same g m F) r) := by
 refine calls_enter Tryz.func23 rfl rfl ?_
 unfold l36_same at h
 refine qr (bo_ (cGQuery a0 (vs Au0 a0.Variables cu0) (vs Au1 a0.Relations cu1) (vs Au2 a0.Absences cu2) (vs Au3 a0.Group cu3) (vs Au4 a0.Compute cu4) (vs Au5 a0.Order cu5)) hst (fun b1 _ hst => ?_))
 refine bo_ (cGQuery a1 (vs Au6 a1.Variables cu6) (vs Au7 a1.Relations cu7) (vs Au8 a1.Absences cu8) (vs Au9 a1.Group cu9) (vs Au10 a1.Compute cu10) (vs Au11 a1.Order cu11)) hst (fun b2 _ hst => ?_)
 refine s0 1 [vb false] (nl (tn (sq (wc_join (fun a w => ∃ f0 k19 m21 x17, a = act Tryz.f23.ntmps (upds f0 [(2, vp b1 0), (3, vp b2 0), (4, vb false), (78, vb x17)]) ∧ k19 ≤ k ∧ l36_same_j1 k19 a0 a1 x17 = some r ∧ m.le m21 ∧ St g m21 (oo b2 36 (cGQuery a1 (vs Au6 a1.Variables cu6) (vs Au7 a1.Relations cu7) (vs Au8 a1.Absences cu8) (vs Au9 a1.Group cu9) (vs Au10 a1.Compute cu10) (vs Au11 a1.Order cu11)) :: oo b1 36 (cGQuery a0 (vs Au0 a0.Variables cu0) (vs Au1 a0.Relations cu1) (vs Au2 a0.Absences cu2) (vs Au3 a0.Group cu3) (vs Au4 a0.Compute cu4) (vs Au5 a0.Order cu5)) :: F) w) ?_ ?_))))
 ·rintro _ _ ⟨f0, k19, m21, x17, rfl, hk20, h, hl18, hst⟩
  unfold l36_same_j1 at h
  refine cn h (fun h => ?_) (fun h => ?_)
  ·refine qr (s0 1 [vb false] (nl (tn (wp_ret (tr (wr [vb false] ?_))))))
   have hst := pk2 hst
   have h := Option.some.inj h; subst h
   exact ⟨_, rfl, m21, rfl, hl18, hst⟩
  refine wp_skip (tn (sq (qr (s0 1 [vi 0] (nl (tn (bk (wc_loop (fun kk a w => ∃ f0 m482 x386, a = act Tryz.f23.ntmps (upds f0 [(2, vp b1 0), (3, vp b2 0), (4, vb false), (5, vi x386)]) ∧ kk ≤ k19 ∧ l36_same_l2 kk a0 a1 x386 = some r ∧ m21.le m482 ∧ St g m482 (oo b2 36 (cGQuery a1 (vs Au6 a1.Variables cu6) (vs Au7 a1.Relations cu7) (vs Au8 a1.Absences cu8) (vs Au9 a1.Group cu9) (vs Au10 a1.Compute cu10) (vs Au11 a1.Order cu11)) :: oo b1 36 (cGQuery a0 (vs Au0 a0.Variables cu0) (vs Au1 a0.Relations cu1) (vs Au2 a0.Absences cu2) (vs Au3 a0.Group cu3) (vs Au4 a0.Compute cu4) (vs Au5 a0.Order cu5)) :: F) w) k19 ?_ ?_))))))))
  ·exact ⟨_, m21, (0), au, (Nat.le_refl _), h, (Mem.le.refl _), hst⟩
  rintro k480 ih481 _ _ ⟨f0, m482, x386, rfl, hk479, h, hl478, hst⟩
  obtain _ | k484 := k480
  ·simp [l36_same_l2] at h
  rw [l36_same_l2] at h
  refine sq (qr (sg 5 [vp b1 0, vs Au0 a0.Variables cu0, vi ((a0.Variables).length : Int), vb (decide (x386 < ((a0.Variables).length : Int)))] _ (hst.q 1 0 1) (nl (tn (cn h (fun h => ?_) (fun h => ?_))))))
  ·refine wp_skip (tn (sq (bk (sq (dr false (fun x => Rd m482 (oo b1 36 (cGQuery a0 (vs Au0 a0.Variables cu0) (vs Au1 a0.Relations cu1) (vs Au2 a0.Absences cu2) (vs Au3 a0.Group cu3) (vs Au4 a0.Compute cu4) (vs Au5 a0.Order cu5)) :: oo b2 36 (cGQuery a1 (vs Au6 a1.Variables cu6) (vs Au7 a1.Relations cu7) (vs Au8 a1.Absences cu8) (vs Au9 a1.Group cu9) (vs Au10 a1.Compute cu10) (vs Au11 a1.Order cu11)) :: []) x) ?_)))))
   have hst := hst.drew
   refine gs [0, 2, 6, 8, 1, 7] [vp b1 0, vp b2 0, vs Au0 a0.Variables cu0, vs Au6 a1.Variables cu6] _ 23 (pqt (pqk (pqt (pqt (pqk (pqt pqb)))))) (hst.rd.with_ 1 rfl (hst.rd.with_ 0 rfl (hst.rd.none_))) (fun x hx => (AllC.app (hx.q 0 0 1) (hx.q 1 0 1))) ?_
   obtain ⟨x532, hx533, h⟩ := ix h
   have e540 := hl18.trans hl478
   obtain ⟨b534, o535, cs536, hR537, hA538, hI539⟩ := RS.ix (P := Tryz.prog) (RS.mono e540 hu0) hx533
   obtain ⟨Aq541, cq541, rfl, hq541⟩ := TGVariable.opn hR537
   refine gv 3 (pqt (pqk (pqt (pqt (pqk (pqt pqb)))))) (hst.rd.with_ 1 rfl (hst.rd.with_ 0 rfl (hst.rd.none_))) rfl (fun x hx => hI539.r .i64) ?_
   refine gs [4] [vp b534 o535] [] 21 (pqt (pqk (pqt (pqt (pqk (pqt pqb)))))) (hst.rd.with_ 1 rfl (hst.rd.with_ 0 rfl (hst.rd.none_))) (fun x hx => trivial) ?_
   obtain ⟨x543, hx544, h⟩ := ix h
   obtain ⟨b545, o546, cs547, hR548, hA549, hI550⟩ := RS.ix (P := Tryz.prog) (RS.mono e540 hu6) hx544
   obtain ⟨Aq551, cq551, rfl, hq551⟩ := TGVariable.opn hR548
   refine gv 9 (pqt (pqk (pqt (pqt (pqk (pqt pqb)))))) (hst.rd.with_ 1 rfl (hst.rd.with_ 0 rfl (hst.rd.none_))) rfl (fun x hx => hI550.r .i64) ?_
   refine gs [5, 10, 11] [vstr x532.Name, vp b545 o546, vstr x543.Name] _ 17 (pqt (pqk (pqt (pqt (pqk (pqt pqb)))))) (hst.rd.with_ 1 rfl (hst.rd.with_ 0 rfl (hst.rd.none_))) (fun x hx => (AllC.app (hx.f hA538 0 1) (hx.f hA549 0 1))) ?_
   refine gv 12 (pqt (pqk (pqt (pqt (pqk (pqt pqb)))))) (hst.rd.with_ 1 rfl (hst.rd.with_ 0 rfl (hst.rd.none_))) rfl (fun x hx => rne x532.Name x543.Name) ?_
   refine gs [13] [] [] 15 (pqt (pqk (pqt (pqt (pqk (pqt pqb)))))) (hst.rd.with_ 1 rfl (hst.rd.with_ 0 rfl (hst.rd.none_))) (fun x hx => trivial) ?_
   rcases sp h with ⟨hc552, h⟩ | ⟨hc552, h⟩
   ·rw [hc552]
    refine gs [14, 16, 20, 22, 15, 21, 17, 23, 18, 24, 19, 25, 26, 27] [undef, undef, undef, undef, undef, undef, undef, undef, undef, undef, undef, undef, undef, undef] [] 1 (pqt (pqk (pqt (pqt (pqk (pqt pqb)))))) (hst.rd.with_ 1 rfl (hst.rd.with_ 0 rfl (hst.rd.none_))) (fun x hx => trivial) ?_
    refine ge 28 rfl (sg 1 [vb true] [] trivial (nl (tn (⟨_, fun _ h => h, .inl ⟨rfl, allListed_of _ (by kernel_rfl)⟩, ?_⟩))))
    refine gd (tn (ct (qr (s0 1 [vb false] (nl (tn (wp_ret (br (tr (tr (br (tr (wr [vb false] ?_)))))))))))))
    have hst := pk2 hst
    have h := Option.some.inj h; subst h
    exact ⟨_, rfl, m482, rfl, e540, hst⟩
   rw [hc552]
   refine gs [14, 16, 20, 22, 15, 21] [vp b1 0, vi x386, vp b2 0, vi x386, vs Au0 a0.Variables cu0, vs Au6 a1.Variables cu6] _ 9 (pqt (pqk (pqt (pqt (pqk (pqt pqb)))))) (hst.rd.with_ 1 rfl (hst.rd.with_ 0 rfl (hst.rd.none_))) (fun x hx => (AllC.app (hx.q 0 0 1) (hx.q 1 0 1))) ?_
   obtain ⟨x554, hx555, h⟩ := ix h
   obtain ⟨b556, o557, cs558, hR559, hA560, hI561⟩ := RS.ix (P := Tryz.prog) (RS.mono e540 hu0) hx555
   obtain ⟨Aq562, cq562, rfl, hq562⟩ := TGVariable.opn hR559
   refine gv 17 (pqt (pqk (pqt (pqt (pqk (pqt pqb)))))) (hst.rd.with_ 1 rfl (hst.rd.with_ 0 rfl (hst.rd.none_))) rfl (fun x hx => hI561.r .i64) ?_
   refine gs [18] [vp b556 (o557 + 1)] [] 7 (pqt (pqk (pqt (pqt (pqk (pqt pqb)))))) (hst.rd.with_ 1 rfl (hst.rd.with_ 0 rfl (hst.rd.none_))) (fun x hx => trivial) ?_
   obtain ⟨x564, hx565, h⟩ := ix h
   obtain ⟨b566, o567, cs568, hR569, hA570, hI571⟩ := RS.ix (P := Tryz.prog) (RS.mono e540 hu6) hx565
   obtain ⟨Aq572, cq572, rfl, hq572⟩ := TGVariable.opn hR569
   refine gv 23 (pqt (pqk (pqt (pqt (pqk (pqt pqb)))))) (hst.rd.with_ 1 rfl (hst.rd.with_ 0 rfl (hst.rd.none_))) rfl (fun x hx => hI571.r .i64) ?_
   refine gs [19, 24, 25] [va (cGPred x554.Where (vs Aq562 x554.Where.Args cq562)), vp b566 (o567 + 1), va (cGPred x564.Where (vs Aq572 x564.Where.Args cq572))] _ 3 (pqt (pqk (pqt (pqt (pqk (pqt pqb)))))) (hst.rd.with_ 1 rfl (hst.rd.with_ 0 rfl (hst.rd.none_))) (fun x hx => (AllC.app (hx.f hA560 1 7) (hx.f hA570 1 7))) ?_
   refine ge 26 rfl ?_
   obtain ⟨r573, hq574, h⟩ := bs h
   refine cal (c_l36_samePred hq574 hst hq562 hq572) ?_
   rintro _ _ ⟨m575, rfl, hl576, hst⟩
   refine gn (Rd.lower hl576 (hst.rd.with_ 1 rfl (hst.rd.with_ 0 rfl (hst.rd.none_)))) (wpG_strong (S2 := fun x => Rd m575 (oo b1 36 (cGQuery a0 (vs Au0 a0.Variables cu0) (vs Au1 a0.Relations cu1) (vs Au2 a0.Absences cu2) (vs Au3 a0.Group cu3) (vs Au4 a0.Compute cu4) (vs Au5 a0.Order cu5)) :: oo b2 36 (cGQuery a1 (vs Au6 a1.Variables cu6) (vs Au7 a1.Relations cu7) (vs Au8 a1.Absences cu8) (vs Au9 a1.Group cu9) (vs Au10 a1.Compute cu10) (vs Au11 a1.Order cu11)) :: []) x) (fun x hx => Rd.lower hl576 hx) ?_)
   refine gs [27] [vb (!r573)] [] 1 (pqt (pqk (pqt (pqt (pqk (pqt pqb)))))) (hst.rd.with_ 1 rfl (hst.rd.with_ 0 rfl (hst.rd.none_))) (fun x hx => trivial) ?_
   refine ge 28 rfl (sg 1 [vb (!r573)] [] trivial (nl (tn (⟨_, fun _ h => h, .inl ⟨rfl, allListed_of _ (by kernel_rfl)⟩, ?_⟩))))
   refine gd (tn (cn h (fun h => ?_) (fun h => ?_)))
   ·refine qr (s0 1 [vb false] (nl (tn (wp_ret (br (tr (tr (br (tr (wr [vb false] ?_))))))))))
    have hst := pk2 hst
    have e577 := e540.trans hl576
    have h := Option.some.inj h; subst h
    exact ⟨_, rfl, m575, rfl, e577, hst⟩
   refine wp_skip (bn (tn (rg (s0 3 [vi (w64 (x386 + 1))] (nl (tn ?_))))))
   have e578 := hl478.trans hl576
   exact ih481 k484 (by omega) _ _ ⟨_, m575, (w64 (x386 + 1)), au, (by omega), h, e578, hst⟩
  refine wp_exit (tx (tx (bx (tn (sq (qr (s0 1 [vi 0] (nl (tn (bk (wc_loop (fun kk a w => ∃ f0 m779 x735, a = act Tryz.f23.ntmps (upds f0 [(2, vp b1 0), (3, vp b2 0), (4, vb false), (6, vi x735)]) ∧ kk ≤ k484 ∧ l36_same_l3 kk a0 a1 x735 = some r ∧ m482.le m779 ∧ St g m779 (oo b2 36 (cGQuery a1 (vs Au6 a1.Variables cu6) (vs Au7 a1.Relations cu7) (vs Au8 a1.Absences cu8) (vs Au9 a1.Group cu9) (vs Au10 a1.Compute cu10) (vs Au11 a1.Order cu11)) :: oo b1 36 (cGQuery a0 (vs Au0 a0.Variables cu0) (vs Au1 a0.Relations cu1) (vs Au2 a0.Absences cu2) (vs Au3 a0.Group cu3) (vs Au4 a0.Compute cu4) (vs Au5 a0.Order cu5)) :: F) w) k484 ?_ ?_)))))))))))
  ·exact ⟨_, m482, (0), au, (Nat.le_refl _), h, (Mem.le.refl _), hst⟩
  rintro k777 ih778 _ _ ⟨f0, m779, x735, rfl, hk776, h, hl775, hst⟩
  obtain _ | k781 := k777
  ·simp [l36_same_l3] at h
  rw [l36_same_l3] at h
  refine sq (qr (sg 5 [vp b1 1, vs Au1 a0.Relations cu1, vi ((a0.Relations).length : Int), vb (decide (x735 < ((a0.Relations).length : Int)))] _ (hst.q 1 1 1) (nl (tn (cn h (fun h => ?_) (fun h => ?_))))))
  ·refine wp_skip (tn (sq (bk (sq (dr false (fun x => Rd m779 (oo b1 36 (cGQuery a0 (vs Au0 a0.Variables cu0) (vs Au1 a0.Relations cu1) (vs Au2 a0.Absences cu2) (vs Au3 a0.Group cu3) (vs Au4 a0.Compute cu4) (vs Au5 a0.Order cu5)) :: oo b2 36 (cGQuery a1 (vs Au6 a1.Variables cu6) (vs Au7 a1.Relations cu7) (vs Au8 a1.Absences cu8) (vs Au9 a1.Group cu9) (vs Au10 a1.Compute cu10) (vs Au11 a1.Order cu11)) :: []) x) ?_)))))
   have hst := hst.drew
   refine gs [0, 2, 5, 7, 1, 6] [vp b1 1, vp b2 1, vs Au1 a0.Relations cu1, vs Au7 a1.Relations cu7] _ 5 (pqt (pqk (pqt (pqt (pqk (pqt pqb)))))) (hst.rd.with_ 1 rfl (hst.rd.with_ 0 rfl (hst.rd.none_))) (fun x hx => (AllC.app (hx.q 0 1 1) (hx.q 1 1 1))) ?_
   obtain ⟨x802, hx803, h⟩ := ix h
   have e810 := hl18.trans (hl478.trans hl775)
   obtain ⟨b804, o805, cs806, hR807, hA808, hI809⟩ := RS.ix (P := Tryz.prog) (RS.mono e810 hu1) hx803
   obtain rfl := TGRelation.open_ hR807
   refine gv 3 (pqt (pqk (pqt (pqt (pqk (pqt pqb)))))) (hst.rd.with_ 1 rfl (hst.rd.with_ 0 rfl (hst.rd.none_))) rfl (fun x hx => hI809.r .i64) ?_
   refine gs [4] [va (cGRelation x802)] _ 3 (pqt (pqk (pqt (pqt (pqk (pqt pqb)))))) (hst.rd.with_ 1 rfl (hst.rd.with_ 0 rfl (hst.rd.none_))) (fun x hx => (hx.f hA808 0 3)) ?_
   obtain ⟨x812, hx813, h⟩ := ix h
   obtain ⟨b814, o815, cs816, hR817, hA818, hI819⟩ := RS.ix (P := Tryz.prog) (RS.mono e810 hu7) hx813
   obtain rfl := TGRelation.open_ hR817
   refine gv 8 (pqt (pqk (pqt (pqt (pqk (pqt pqb)))))) (hst.rd.with_ 1 rfl (hst.rd.with_ 0 rfl (hst.rd.none_))) rfl (fun x hx => hI819.r .i64) ?_
   refine gs [9] [va (cGRelation x812)] _ 1 (pqt (pqk (pqt (pqt (pqk (pqt pqb)))))) (hst.rd.with_ 1 rfl (hst.rd.with_ 0 rfl (hst.rd.none_))) (fun x hx => (hx.f hA818 0 3)) ?_
   refine ge 10 rfl (vl (ran ((x802.Kind == x812.Kind) && ((x802.A == x812.A) && ((x802.B == x812.B) && true))) (cGRelation x802) (cGRelation x812)) (nl (tn (⟨_, fun _ h => h, .inl ⟨rfl, allListed_of _ (by kernel_rfl)⟩, ?_⟩))))
   refine gd (tn (cn h (fun h => ?_) (fun h => ?_)))
   ·refine qr (s0 1 [vb false] (nl (tn (wp_ret (br (tr (tr (br (tr (wr [vb false] ?_))))))))))
    have hst := pk2 hst
    have h := Option.some.inj h; subst h
    exact ⟨_, rfl, m779, rfl, e810, hst⟩
   refine wp_skip (bn (tn (rg (s0 3 [vi (w64 (x735 + 1))] (nl (tn ?_))))))
   exact ih778 k781 (by omega) _ _ ⟨_, m779, (w64 (x735 + 1)), au, (by omega), h, hl775, hst⟩
  refine wp_exit (tx (tx (bx (tn (sq (qr (s0 1 [vi 0] (nl (tn (bk (wc_loop (fun kk a w => ∃ f0 m1100 x1040, a = act Tryz.f23.ntmps (upds f0 [(2, vp b1 0), (3, vp b2 0), (4, vb false), (7, vi x1040)]) ∧ kk ≤ k781 ∧ l36_same_l4 kk a0 a1 x1040 = some r ∧ m779.le m1100 ∧ St g m1100 (oo b2 36 (cGQuery a1 (vs Au6 a1.Variables cu6) (vs Au7 a1.Relations cu7) (vs Au8 a1.Absences cu8) (vs Au9 a1.Group cu9) (vs Au10 a1.Compute cu10) (vs Au11 a1.Order cu11)) :: oo b1 36 (cGQuery a0 (vs Au0 a0.Variables cu0) (vs Au1 a0.Relations cu1) (vs Au2 a0.Absences cu2) (vs Au3 a0.Group cu3) (vs Au4 a0.Compute cu4) (vs Au5 a0.Order cu5)) :: F) w) k781 ?_ ?_)))))))))))
  ·exact ⟨_, m779, (0), au, (Nat.le_refl _), h, (Mem.le.refl _), hst⟩
  rintro k1098 ih1099 _ _ ⟨f0, m1100, x1040, rfl, hk1097, h, hl1096, hst⟩
  obtain _ | k1102 := k1098
  ·simp [l36_same_l4] at h
  rw [l36_same_l4] at h
  refine sq (qr (sg 5 [vp b1 2, vs Au2 a0.Absences cu2, vi ((a0.Absences).length : Int), vb (decide (x1040 < ((a0.Absences).length : Int)))] _ (hst.q 1 2 1) (nl (tn (cn h (fun h => ?_) (fun h => ?_))))))
  ·refine wp_skip (tn (sq (bk (sq (dr false (fun x => Rd m1100 (oo b1 36 (cGQuery a0 (vs Au0 a0.Variables cu0) (vs Au1 a0.Relations cu1) (vs Au2 a0.Absences cu2) (vs Au3 a0.Group cu3) (vs Au4 a0.Compute cu4) (vs Au5 a0.Order cu5)) :: oo b2 36 (cGQuery a1 (vs Au6 a1.Variables cu6) (vs Au7 a1.Relations cu7) (vs Au8 a1.Absences cu8) (vs Au9 a1.Group cu9) (vs Au10 a1.Compute cu10) (vs Au11 a1.Order cu11)) :: []) x) ?_)))))
   have hst := hst.drew
   refine gs [0, 2, 5, 7, 1, 6] [vp b1 2, vp b2 2, vs Au2 a0.Absences cu2, vs Au8 a1.Absences cu8] _ 8 (pqt (pqk (pqt (pqt (pqk (pqt pqb)))))) (hst.rd.with_ 1 rfl (hst.rd.with_ 0 rfl (hst.rd.none_))) (fun x hx => (AllC.app (hx.q 0 2 1) (hx.q 1 2 1))) ?_
   obtain ⟨x1127, hx1128, h⟩ := ix h
   have e1135 := hl18.trans (hl478.trans (hl775.trans hl1096))
   obtain ⟨b1129, o1130, cs1131, hR1132, hA1133, hI1134⟩ := RS.ix (P := Tryz.prog) (RS.mono e1135 hu2) hx1128
   obtain ⟨Aq1136, cq1136, rfl, hq1136⟩ := TGAbsence.opn hR1132
   refine gv 3 (pqt (pqk (pqt (pqt (pqk (pqt pqb)))))) (hst.rd.with_ 1 rfl (hst.rd.with_ 0 rfl (hst.rd.none_))) rfl (fun x hx => hI1134.r .i64) ?_
   refine gs [4] [va (cGAbsence x1127 (vs Aq1136 x1127.Variable.Where.Args cq1136))] _ 6 (pqt (pqk (pqt (pqt (pqk (pqt pqb)))))) (hst.rd.with_ 1 rfl (hst.rd.with_ 0 rfl (hst.rd.none_))) (fun x hx => (hx.f hA1133 0 11)) ?_
   obtain ⟨x1138, hx1139, h⟩ := ix h
   obtain ⟨b1140, o1141, cs1142, hR1143, hA1144, hI1145⟩ := RS.ix (P := Tryz.prog) (RS.mono e1135 hu8) hx1139
   obtain ⟨Aq1146, cq1146, rfl, hq1146⟩ := TGAbsence.opn hR1143
   refine gv 8 (pqt (pqk (pqt (pqt (pqk (pqt pqb)))))) (hst.rd.with_ 1 rfl (hst.rd.with_ 0 rfl (hst.rd.none_))) rfl (fun x hx => hI1145.r .i64) ?_
   refine gs [9] [va (cGAbsence x1138 (vs Aq1146 x1138.Variable.Where.Args cq1146))] _ 4 (pqt (pqk (pqt (pqt (pqk (pqt pqb)))))) (hst.rd.with_ 1 rfl (hst.rd.with_ 0 rfl (hst.rd.none_))) (fun x hx => (hx.f hA1144 0 11)) ?_
   refine wpG_pick [10, 11] (by kernel_rfl) (by simp) (fun i hi => ?_)
   rcases mem2 hi with rfl | rfl
   ·refine ⟨_, rfl, ?_⟩
    refine al [vstr w_0, vi 0, vstr w_0, vstr w_0, vi 0, vstr w_0, vi 0, vn, vi 0, vstr w_0, vb false] hst (fun b1147 _ hst => ?_)
    refine gn (hst.rd.with_ 2 rfl (hst.rd.with_ 1 rfl (hst.rd.none_))) (ge 11 rfl (al [vstr w_0, vi 0, vstr w_0, vstr w_0, vi 0, vstr w_0, vi 0, vn, vi 0, vstr w_0, vb false] hst (fun b1148 _ hst => ?_)))
    refine gn (hst.rd.with_ 3 rfl (hst.rd.with_ 2 rfl (hst.rd.none_))) (ge 12 rfl (so1 0 (cGAbsence x1127 (vs Aq1136 x1127.Variable.Where.Args cq1136)) hst (fun _ hst => ?_)))
    refine gn (hst.rd.with_ 3 rfl (hst.rd.with_ 2 rfl (hst.rd.none_))) (ge 13 rfl (so0 0 (cGAbsence x1138 (vs Aq1146 x1138.Variable.Where.Args cq1146)) hst (fun _ hst => ?_)))
    refine nl (tn (⟨_, fun _ h => h, .inl ⟨rfl, allListed_of _ (by kernel_rfl)⟩, ?_⟩))
    refine gd (tn (qr (sg 6 [vp b1147 0, vp b1147 0, vstr x1127.Variable.Name, vp b1148 0, vp b1148 0, vstr x1138.Variable.Name] _ (AllC.app (hst.q 1 0 1) (hst.q 0 0 1)) (vl (rne x1127.Variable.Name x1138.Variable.Name) (s0 1 [] ?_)))))
    rcases sp h with ⟨hc1149, h⟩ | ⟨hc1149, h⟩
    ·rw [hc1149]
     refine sk 8 (s0 2 [vb true] (sk 5 (s0 2 [vb true] (sk 5 (s0 2 [vb true] (sk 5 (s0 1 [vb true] (nl (tn (ct (qr (s0 1 [vb false] (nl (tn (wp_ret (br (tr (tr (br (tr (wr [vb false] ?_)))))))))))))))))))))
     have hst := pk42 hst
     have h := Option.some.inj h; subst h
     exact ⟨_, rfl, m1100, rfl, e1135, hst⟩
    rw [hc1149]
    refine sg 6 [vp b1147 0, vp b1147 1, va (cGPred x1127.Variable.Where (vs Aq1136 x1127.Variable.Where.Args cq1136)), vp b1148 0, vp b1148 1, va (cGPred x1138.Variable.Where (vs Aq1146 x1138.Variable.Where.Args cq1146))] _ (AllC.app (hst.q 1 1 7) (hst.q 0 1 7)) ?_
    obtain ⟨r1150, hq1151, h⟩ := bs h
    refine cal (c_l36_samePred hq1151 hst hq1136 hq1146) ?_
    rintro _ _ ⟨m1152, rfl, hl1153, hst⟩
    refine s0 3 [vb (!r1150), vb (!r1150)] ?_
    rcases sp h with ⟨hc1154, h⟩ | ⟨hc1154, h⟩
    ·rw [hc1154]
     refine sk 5 (s0 2 [vb true] (sk 5 (s0 2 [vb true] (sk 5 (s0 1 [vb true] (nl (tn (ct (qr (s0 1 [vb false] (nl (tn (wp_ret (br (tr (tr (br (tr (wr [vb false] ?_)))))))))))))))))))
     have hst := pk42 hst
     have e1155 := e1135.trans hl1153
     have h := Option.some.inj h; subst h
     exact ⟨_, rfl, m1152, rfl, e1155, hst⟩
    rw [hc1154]
    refine sg 7 [vp b1147 8, vi x1127.Kind, vp b1148 8, vi x1138.Kind, vb (x1127.Kind != x1138.Kind), vb (x1127.Kind != x1138.Kind)] _ (AllC.app (hst.q 1 8 1) (hst.q 0 8 1)) ?_
    rcases sp h with ⟨hc1156, h⟩ | ⟨hc1156, h⟩
    ·rw [hc1156]
     refine sk 5 (s0 2 [vb true] (sk 5 (s0 1 [vb true] (nl (tn (ct (qr (s0 1 [vb false] (nl (tn (wp_ret (br (tr (tr (br (tr (wr [vb false] ?_)))))))))))))))))
     have hst := pk42 hst
     have e1157 := e1135.trans hl1153
     have h := Option.some.inj h; subst h
     exact ⟨_, rfl, m1152, rfl, e1157, hst⟩
    rw [hc1156]
    refine sg 4 [vp b1147 9, vstr x1127.Other, vp b1148 9, vstr x1138.Other] _ (AllC.app (hst.q 1 9 1) (hst.q 0 9 1)) (vl (rne x1127.Other x1138.Other) (s0 2 [vb (!(x1127.Other == x1138.Other))] ?_))
    rcases sp h with ⟨hc1158, h⟩ | ⟨hc1158, h⟩
    ·rw [hc1158]
     refine sk 5 (s0 1 [vb true] (nl (tn (ct (qr (s0 1 [vb false] (nl (tn (wp_ret (br (tr (tr (br (tr (wr [vb false] ?_)))))))))))))))
     have hst := pk42 hst
     have e1159 := e1135.trans hl1153
     have h := Option.some.inj h; subst h
     exact ⟨_, rfl, m1152, rfl, e1159, hst⟩
    rw [hc1158]
    refine sg 6 [vp b1147 10, vb x1127.First, vp b1148 10, vb x1138.First, vb (!(x1127.First == x1138.First)), vb (!(x1127.First == x1138.First))] _ (AllC.app (hst.q 1 10 1) (hst.q 0 10 1)) (nl (tn (cn h (fun h => ?_) (fun h => ?_))))
    ·refine qr (s0 1 [vb false] (nl (tn (wp_ret (br (tr (tr (br (tr (wr [vb false] ?_))))))))))
     have hst := pk42 hst
     have e1160 := e1135.trans hl1153
     have h := Option.some.inj h; subst h
     exact ⟨_, rfl, m1152, rfl, e1160, hst⟩
    refine wp_skip (bn (tn (rg (s0 3 [vi (w64 (x1040 + 1))] (nl (tn ?_))))))
    have e1161 := hl1096.trans hl1153
    have hst := pk2 hst
    exact ih1099 k1102 (by omega) _ _ ⟨_, m1152, (w64 (x1040 + 1)), au, (by omega), h, e1161, hst⟩
   refine ⟨_, rfl, ?_⟩
   refine al [vstr w_0, vi 0, vstr w_0, vstr w_0, vi 0, vstr w_0, vi 0, vn, vi 0, vstr w_0, vb false] hst (fun b1147 _ hst => ?_)
   refine gn (hst.rd.with_ 2 rfl (hst.rd.with_ 1 rfl (hst.rd.none_))) (ge 10 rfl (al [vstr w_0, vi 0, vstr w_0, vstr w_0, vi 0, vstr w_0, vi 0, vn, vi 0, vstr w_0, vb false] hst (fun b1148 _ hst => ?_)))
   refine gn (hst.rd.with_ 3 rfl (hst.rd.with_ 2 rfl (hst.rd.none_))) (ge 12 rfl (so0 0 (cGAbsence x1127 (vs Aq1136 x1127.Variable.Where.Args cq1136)) hst (fun _ hst => ?_)))
   refine gn (hst.rd.with_ 3 rfl (hst.rd.with_ 2 rfl (hst.rd.none_))) (ge 13 rfl (so1 0 (cGAbsence x1138 (vs Aq1146 x1138.Variable.Where.Args cq1146)) hst (fun _ hst => ?_)))
   refine nl (tn (⟨_, fun _ h => h, .inl ⟨rfl, allListed_of _ (by kernel_rfl)⟩, ?_⟩))
   refine gd (tn (qr (sg 6 [vp b1148 0, vp b1148 0, vstr x1127.Variable.Name, vp b1147 0, vp b1147 0, vstr x1138.Variable.Name] _ (AllC.app (hst.q 0 0 1) (hst.q 1 0 1)) (vl (rne x1127.Variable.Name x1138.Variable.Name) (s0 1 [] ?_)))))
   rcases sp h with ⟨hc1149, h⟩ | ⟨hc1149, h⟩
   ·rw [hc1149]
    refine sk 8 (s0 2 [vb true] (sk 5 (s0 2 [vb true] (sk 5 (s0 2 [vb true] (sk 5 (s0 1 [vb true] (nl (tn (ct (qr (s0 1 [vb false] (nl (tn (wp_ret (br (tr (tr (br (tr (wr [vb false] ?_)))))))))))))))))))))
    have hst := pk42 hst
    have h := Option.some.inj h; subst h
    exact ⟨_, rfl, m1100, rfl, e1135, hst⟩
   rw [hc1149]
   refine sg 6 [vp b1148 0, vp b1148 1, va (cGPred x1127.Variable.Where (vs Aq1136 x1127.Variable.Where.Args cq1136)), vp b1147 0, vp b1147 1, va (cGPred x1138.Variable.Where (vs Aq1146 x1138.Variable.Where.Args cq1146))] _ (AllC.app (hst.q 0 1 7) (hst.q 1 1 7)) ?_
   obtain ⟨r1150, hq1151, h⟩ := bs h
   refine cal (c_l36_samePred hq1151 hst hq1136 hq1146) ?_
   rintro _ _ ⟨m1152, rfl, hl1153, hst⟩
   refine s0 3 [vb (!r1150), vb (!r1150)] ?_
   rcases sp h with ⟨hc1154, h⟩ | ⟨hc1154, h⟩
   ·rw [hc1154]
    refine sk 5 (s0 2 [vb true] (sk 5 (s0 2 [vb true] (sk 5 (s0 1 [vb true] (nl (tn (ct (qr (s0 1 [vb false] (nl (tn (wp_ret (br (tr (tr (br (tr (wr [vb false] ?_)))))))))))))))))))
    have hst := pk42 hst
    have e1155 := e1135.trans hl1153
    have h := Option.some.inj h; subst h
    exact ⟨_, rfl, m1152, rfl, e1155, hst⟩
   rw [hc1154]
   refine sg 7 [vp b1148 8, vi x1127.Kind, vp b1147 8, vi x1138.Kind, vb (x1127.Kind != x1138.Kind), vb (x1127.Kind != x1138.Kind)] _ (AllC.app (hst.q 0 8 1) (hst.q 1 8 1)) ?_
   rcases sp h with ⟨hc1156, h⟩ | ⟨hc1156, h⟩
   ·rw [hc1156]
    refine sk 5 (s0 2 [vb true] (sk 5 (s0 1 [vb true] (nl (tn (ct (qr (s0 1 [vb false] (nl (tn (wp_ret (br (tr (tr (br (tr (wr [vb false] ?_)))))))))))))))))
    have hst := pk42 hst
    have e1157 := e1135.trans hl1153
    have h := Option.some.inj h; subst h
    exact ⟨_, rfl, m1152, rfl, e1157, hst⟩
   rw [hc1156]
   refine sg 4 [vp b1148 9, vstr x1127.Other, vp b1147 9, vstr x1138.Other] _ (AllC.app (hst.q 0 9 1) (hst.q 1 9 1)) (vl (rne x1127.Other x1138.Other) (s0 2 [vb (!(x1127.Other == x1138.Other))] ?_))
   rcases sp h with ⟨hc1158, h⟩ | ⟨hc1158, h⟩
   ·rw [hc1158]
    refine sk 5 (s0 1 [vb true] (nl (tn (ct (qr (s0 1 [vb false] (nl (tn (wp_ret (br (tr (tr (br (tr (wr [vb false] ?_)))))))))))))))
    have hst := pk42 hst
    have e1159 := e1135.trans hl1153
    have h := Option.some.inj h; subst h
    exact ⟨_, rfl, m1152, rfl, e1159, hst⟩
   rw [hc1158]
   refine sg 6 [vp b1148 10, vb x1127.First, vp b1147 10, vb x1138.First, vb (!(x1127.First == x1138.First)), vb (!(x1127.First == x1138.First))] _ (AllC.app (hst.q 0 10 1) (hst.q 1 10 1)) (nl (tn (cn h (fun h => ?_) (fun h => ?_))))
   ·refine qr (s0 1 [vb false] (nl (tn (wp_ret (br (tr (tr (br (tr (wr [vb false] ?_))))))))))
    have hst := pk42 hst
    have e1160 := e1135.trans hl1153
    have h := Option.some.inj h; subst h
    exact ⟨_, rfl, m1152, rfl, e1160, hst⟩
   refine wp_skip (bn (tn (rg (s0 3 [vi (w64 (x1040 + 1))] (nl (tn ?_))))))
   have e1161 := hl1096.trans hl1153
   have hst := pk2 hst
   exact ih1099 k1102 (by omega) _ _ ⟨_, m1152, (w64 (x1040 + 1)), au, (by omega), h, e1161, hst⟩
  refine wp_exit (tx (tx (bx (tn (sq (qr (s0 1 [vi 0] (nl (tn (bk (wc_loop (fun kk a w => ∃ f0 m1362 x1318, a = act Tryz.f23.ntmps (upds f0 [(2, vp b1 0), (3, vp b2 0), (4, vb false), (10, vi x1318)]) ∧ kk ≤ k1102 ∧ l36_same_l5 kk a0 a1 x1318 = some r ∧ m1100.le m1362 ∧ St g m1362 (oo b2 36 (cGQuery a1 (vs Au6 a1.Variables cu6) (vs Au7 a1.Relations cu7) (vs Au8 a1.Absences cu8) (vs Au9 a1.Group cu9) (vs Au10 a1.Compute cu10) (vs Au11 a1.Order cu11)) :: oo b1 36 (cGQuery a0 (vs Au0 a0.Variables cu0) (vs Au1 a0.Relations cu1) (vs Au2 a0.Absences cu2) (vs Au3 a0.Group cu3) (vs Au4 a0.Compute cu4) (vs Au5 a0.Order cu5)) :: F) w) k1102 ?_ ?_)))))))))))
  ·exact ⟨_, m1100, (0), au, (Nat.le_refl _), h, (Mem.le.refl _), hst⟩
  rintro k1360 ih1361 _ _ ⟨f0, m1362, x1318, rfl, hk1359, h, hl1358, hst⟩
  obtain _ | k1364 := k1360
  ·simp [l36_same_l5] at h
  rw [l36_same_l5] at h
  refine sq (qr (sg 5 [vp b1 5, vs Au3 a0.Group cu3, vi ((a0.Group).length : Int), vb (decide (x1318 < ((a0.Group).length : Int)))] _ (hst.q 1 5 1) (nl (tn (cn h (fun h => ?_) (fun h => ?_))))))
  ·refine wp_skip (tn (sq (bk (sq (dr false (fun x => Rd m1362 (oo b1 36 (cGQuery a0 (vs Au0 a0.Variables cu0) (vs Au1 a0.Relations cu1) (vs Au2 a0.Absences cu2) (vs Au3 a0.Group cu3) (vs Au4 a0.Compute cu4) (vs Au5 a0.Order cu5)) :: oo b2 36 (cGQuery a1 (vs Au6 a1.Variables cu6) (vs Au7 a1.Relations cu7) (vs Au8 a1.Absences cu8) (vs Au9 a1.Group cu9) (vs Au10 a1.Compute cu10) (vs Au11 a1.Order cu11)) :: []) x) ?_)))))
   have hst := hst.drew
   refine gs [0, 2, 5, 7, 1, 6] [vp b1 5, vp b2 5, vs Au3 a0.Group cu3, vs Au9 a1.Group cu9] _ 5 (pqt (pqk (pqt (pqt (pqk (pqt pqb)))))) (hst.rd.with_ 1 rfl (hst.rd.with_ 0 rfl (hst.rd.none_))) (fun x hx => (AllC.app (hx.q 0 5 1) (hx.q 1 5 1))) ?_
   obtain ⟨x1385, hx1386, h⟩ := ix h
   have e1393 := hl18.trans (hl478.trans (hl775.trans (hl1096.trans hl1358)))
   obtain ⟨b1387, o1388, cs1389, hR1390, hA1391, hI1392⟩ := RS.ix (P := Tryz.prog) (RS.mono e1393 hu3) hx1386
   obtain rfl := TGColumn.open_ hR1390
   refine gv 3 (pqt (pqk (pqt (pqt (pqk (pqt pqb)))))) (hst.rd.with_ 1 rfl (hst.rd.with_ 0 rfl (hst.rd.none_))) rfl (fun x hx => hI1392.r .i64) ?_
   refine gs [4] [va (cGColumn x1385)] _ 3 (pqt (pqk (pqt (pqt (pqk (pqt pqb)))))) (hst.rd.with_ 1 rfl (hst.rd.with_ 0 rfl (hst.rd.none_))) (fun x hx => (hx.f hA1391 0 3)) ?_
   obtain ⟨x1395, hx1396, h⟩ := ix h
   obtain ⟨b1397, o1398, cs1399, hR1400, hA1401, hI1402⟩ := RS.ix (P := Tryz.prog) (RS.mono e1393 hu9) hx1396
   obtain rfl := TGColumn.open_ hR1400
   refine gv 8 (pqt (pqk (pqt (pqt (pqk (pqt pqb)))))) (hst.rd.with_ 1 rfl (hst.rd.with_ 0 rfl (hst.rd.none_))) rfl (fun x hx => hI1402.r .i64) ?_
   refine gs [9] [va (cGColumn x1395)] _ 1 (pqt (pqk (pqt (pqt (pqk (pqt pqb)))))) (hst.rd.with_ 1 rfl (hst.rd.with_ 0 rfl (hst.rd.none_))) (fun x hx => (hx.f hA1401 0 3)) ?_
   refine ge 10 rfl (vl (ran ((x1385.Var == x1395.Var) && ((x1385.Field == x1395.Field) && ((x1385.Key == x1395.Key) && true))) (cGColumn x1385) (cGColumn x1395)) (nl (tn (⟨_, fun _ h => h, .inl ⟨rfl, allListed_of _ (by kernel_rfl)⟩, ?_⟩))))
   refine gd (tn (cn h (fun h => ?_) (fun h => ?_)))
   ·refine qr (s0 1 [vb false] (nl (tn (wp_ret (br (tr (tr (br (tr (wr [vb false] ?_))))))))))
    have hst := pk2 hst
    have h := Option.some.inj h; subst h
    exact ⟨_, rfl, m1362, rfl, e1393, hst⟩
   refine wp_skip (bn (tn (rg (s0 3 [vi (w64 (x1318 + 1))] (nl (tn ?_))))))
   exact ih1361 k1364 (by omega) _ _ ⟨_, m1362, (w64 (x1318 + 1)), au, (by omega), h, hl1358, hst⟩
  refine wp_exit (tx (tx (bx (tn (sq (qr (s0 1 [vi 0] (nl (tn (bk (wc_loop (fun kk a w => ∃ f0 m1603 x1559, a = act Tryz.f23.ntmps (upds f0 [(2, vp b1 0), (3, vp b2 0), (4, vb false), (11, vi x1559)]) ∧ kk ≤ k1364 ∧ l36_same_l6 kk a0 a1 x1559 = some r ∧ m1362.le m1603 ∧ St g m1603 (oo b2 36 (cGQuery a1 (vs Au6 a1.Variables cu6) (vs Au7 a1.Relations cu7) (vs Au8 a1.Absences cu8) (vs Au9 a1.Group cu9) (vs Au10 a1.Compute cu10) (vs Au11 a1.Order cu11)) :: oo b1 36 (cGQuery a0 (vs Au0 a0.Variables cu0) (vs Au1 a0.Relations cu1) (vs Au2 a0.Absences cu2) (vs Au3 a0.Group cu3) (vs Au4 a0.Compute cu4) (vs Au5 a0.Order cu5)) :: F) w) k1364 ?_ ?_)))))))))))
  ·exact ⟨_, m1362, (0), au, (Nat.le_refl _), h, (Mem.le.refl _), hst⟩
  rintro k1601 ih1602 _ _ ⟨f0, m1603, x1559, rfl, hk1600, h, hl1599, hst⟩
  obtain _ | k1605 := k1601
  ·simp [l36_same_l6] at h
  rw [l36_same_l6] at h
  refine sq (qr (sg 5 [vp b1 6, vs Au4 a0.Compute cu4, vi ((a0.Compute).length : Int), vb (decide (x1559 < ((a0.Compute).length : Int)))] _ (hst.q 1 6 1) (nl (tn (cn h (fun h => ?_) (fun h => ?_))))))
  ·refine wp_skip (tn (sq (bk (sq (dr false (fun x => Rd m1603 (oo b1 36 (cGQuery a0 (vs Au0 a0.Variables cu0) (vs Au1 a0.Relations cu1) (vs Au2 a0.Absences cu2) (vs Au3 a0.Group cu3) (vs Au4 a0.Compute cu4) (vs Au5 a0.Order cu5)) :: oo b2 36 (cGQuery a1 (vs Au6 a1.Variables cu6) (vs Au7 a1.Relations cu7) (vs Au8 a1.Absences cu8) (vs Au9 a1.Group cu9) (vs Au10 a1.Compute cu10) (vs Au11 a1.Order cu11)) :: []) x) ?_)))))
   have hst := hst.drew
   refine gs [0, 2, 5, 7, 1, 6] [vp b1 6, vp b2 6, vs Au4 a0.Compute cu4, vs Au10 a1.Compute cu10] _ 5 (pqt (pqk (pqt (pqt (pqk (pqt pqb)))))) (hst.rd.with_ 1 rfl (hst.rd.with_ 0 rfl (hst.rd.none_))) (fun x hx => (AllC.app (hx.q 0 6 1) (hx.q 1 6 1))) ?_
   obtain ⟨x1626, hx1627, h⟩ := ix h
   have e1634 := hl18.trans (hl478.trans (hl775.trans (hl1096.trans (hl1358.trans hl1599))))
   obtain ⟨b1628, o1629, cs1630, hR1631, hA1632, hI1633⟩ := RS.ix (P := Tryz.prog) (RS.mono e1634 hu4) hx1627
   obtain rfl := TGAggregate.open_ hR1631
   refine gv 3 (pqt (pqk (pqt (pqt (pqk (pqt pqb)))))) (hst.rd.with_ 1 rfl (hst.rd.with_ 0 rfl (hst.rd.none_))) rfl (fun x hx => hI1633.r .i64) ?_
   refine gs [4] [va (cGAggregate x1626)] _ 3 (pqt (pqk (pqt (pqt (pqk (pqt pqb)))))) (hst.rd.with_ 1 rfl (hst.rd.with_ 0 rfl (hst.rd.none_))) (fun x hx => (hx.f hA1632 0 6)) ?_
   obtain ⟨x1636, hx1637, h⟩ := ix h
   obtain ⟨b1638, o1639, cs1640, hR1641, hA1642, hI1643⟩ := RS.ix (P := Tryz.prog) (RS.mono e1634 hu10) hx1637
   obtain rfl := TGAggregate.open_ hR1641
   refine gv 8 (pqt (pqk (pqt (pqt (pqk (pqt pqb)))))) (hst.rd.with_ 1 rfl (hst.rd.with_ 0 rfl (hst.rd.none_))) rfl (fun x hx => hI1643.r .i64) ?_
   refine gs [9] [va (cGAggregate x1636)] _ 1 (pqt (pqk (pqt (pqt (pqk (pqt pqb)))))) (hst.rd.with_ 1 rfl (hst.rd.with_ 0 rfl (hst.rd.none_))) (fun x hx => (hx.f hA1642 0 6)) ?_
   refine ge 10 rfl (vl (ran ((x1626.Kind == x1636.Kind) && (((x1626.Column.Var == x1636.Column.Var) && ((x1626.Column.Field == x1636.Column.Field) && ((x1626.Column.Key == x1636.Column.Key) && true))) && (((x1626.Q.Num == x1636.Q.Num) && ((x1626.Q.Den == x1636.Q.Den) && true)) && true))) (cGAggregate x1626) (cGAggregate x1636)) (nl (tn (⟨_, fun _ h => h, .inl ⟨rfl, allListed_of _ (by kernel_rfl)⟩, ?_⟩))))
   refine gd (tn (cn h (fun h => ?_) (fun h => ?_)))
   ·refine qr (s0 1 [vb false] (nl (tn (wp_ret (br (tr (tr (br (tr (wr [vb false] ?_))))))))))
    have hst := pk2 hst
    have h := Option.some.inj h; subst h
    exact ⟨_, rfl, m1603, rfl, e1634, hst⟩
   refine wp_skip (bn (tn (rg (s0 3 [vi (w64 (x1559 + 1))] (nl (tn ?_))))))
   exact ih1602 k1605 (by omega) _ _ ⟨_, m1603, (w64 (x1559 + 1)), au, (by omega), h, hl1599, hst⟩
  refine wp_exit (tx (tx (bx (tn (sq (qr (s0 1 [vi 0] (nl (tn (bk (wc_loop (fun kk a w => ∃ f0 m1727 x1683, a = act Tryz.f23.ntmps (upds f0 [(2, vp b1 0), (3, vp b2 0), (4, vb false), (12, vi x1683)]) ∧ kk ≤ k1605 ∧ l36_same_l7 kk a0 a1 x1683 = some r ∧ m1603.le m1727 ∧ St g m1727 (oo b2 36 (cGQuery a1 (vs Au6 a1.Variables cu6) (vs Au7 a1.Relations cu7) (vs Au8 a1.Absences cu8) (vs Au9 a1.Group cu9) (vs Au10 a1.Compute cu10) (vs Au11 a1.Order cu11)) :: oo b1 36 (cGQuery a0 (vs Au0 a0.Variables cu0) (vs Au1 a0.Relations cu1) (vs Au2 a0.Absences cu2) (vs Au3 a0.Group cu3) (vs Au4 a0.Compute cu4) (vs Au5 a0.Order cu5)) :: F) w) k1605 ?_ ?_)))))))))))
  ·exact ⟨_, m1603, (0), au, (Nat.le_refl _), h, (Mem.le.refl _), hst⟩
  rintro k1725 ih1726 _ _ ⟨f0, m1727, x1683, rfl, hk1724, h, hl1723, hst⟩
  obtain _ | k1729 := k1725
  ·simp [l36_same_l7] at h
  rw [l36_same_l7] at h
  refine sq (qr (sg 5 [vp b1 7, vs Au5 a0.Order cu5, vi ((a0.Order).length : Int), vb (decide (x1683 < ((a0.Order).length : Int)))] _ (hst.q 1 7 1) (nl (tn (cn h (fun h => ?_) (fun h => ?_))))))
  ·refine wp_skip (tn (sq (bk (sq (dr false (fun x => Rd m1727 (oo b1 36 (cGQuery a0 (vs Au0 a0.Variables cu0) (vs Au1 a0.Relations cu1) (vs Au2 a0.Absences cu2) (vs Au3 a0.Group cu3) (vs Au4 a0.Compute cu4) (vs Au5 a0.Order cu5)) :: oo b2 36 (cGQuery a1 (vs Au6 a1.Variables cu6) (vs Au7 a1.Relations cu7) (vs Au8 a1.Absences cu8) (vs Au9 a1.Group cu9) (vs Au10 a1.Compute cu10) (vs Au11 a1.Order cu11)) :: []) x) ?_)))))
   have hst := hst.drew
   refine gs [0, 2, 5, 7, 1, 6] [vp b1 7, vp b2 7, vs Au5 a0.Order cu5, vs Au11 a1.Order cu11] _ 5 (pqt (pqk (pqt (pqt (pqk (pqt pqb)))))) (hst.rd.with_ 1 rfl (hst.rd.with_ 0 rfl (hst.rd.none_))) (fun x hx => (AllC.app (hx.q 0 7 1) (hx.q 1 7 1))) ?_
   obtain ⟨x1750, hx1751, h⟩ := ix h
   have e1758 := hl18.trans (hl478.trans (hl775.trans (hl1096.trans (hl1358.trans (hl1599.trans hl1723)))))
   obtain ⟨b1752, o1753, cs1754, hR1755, hA1756, hI1757⟩ := RS.ix (P := Tryz.prog) (RS.mono e1758 hu5) hx1751
   obtain rfl := TGOrderKey.open_ hR1755
   refine gv 3 (pqt (pqk (pqt (pqt (pqk (pqt pqb)))))) (hst.rd.with_ 1 rfl (hst.rd.with_ 0 rfl (hst.rd.none_))) rfl (fun x hx => hI1757.r .i64) ?_
   refine gs [4] [va (cGOrderKey x1750)] _ 3 (pqt (pqk (pqt (pqt (pqk (pqt pqb)))))) (hst.rd.with_ 1 rfl (hst.rd.with_ 0 rfl (hst.rd.none_))) (fun x hx => (hx.f hA1756 0 2)) ?_
   obtain ⟨x1760, hx1761, h⟩ := ix h
   obtain ⟨b1762, o1763, cs1764, hR1765, hA1766, hI1767⟩ := RS.ix (P := Tryz.prog) (RS.mono e1758 hu11) hx1761
   obtain rfl := TGOrderKey.open_ hR1765
   refine gv 8 (pqt (pqk (pqt (pqt (pqk (pqt pqb)))))) (hst.rd.with_ 1 rfl (hst.rd.with_ 0 rfl (hst.rd.none_))) rfl (fun x hx => hI1767.r .i64) ?_
   refine gs [9] [va (cGOrderKey x1760)] _ 1 (pqt (pqk (pqt (pqt (pqk (pqt pqb)))))) (hst.rd.with_ 1 rfl (hst.rd.with_ 0 rfl (hst.rd.none_))) (fun x hx => (hx.f hA1766 0 2)) ?_
   refine ge 10 rfl (vl (ran ((x1750.Index == x1760.Index) && ((x1750.Descending == x1760.Descending) && true)) (cGOrderKey x1750) (cGOrderKey x1760)) (nl (tn (⟨_, fun _ h => h, .inl ⟨rfl, allListed_of _ (by kernel_rfl)⟩, ?_⟩))))
   refine gd (tn (cn h (fun h => ?_) (fun h => ?_)))
   ·refine qr (s0 1 [vb false] (nl (tn (wp_ret (br (tr (tr (br (tr (wr [vb false] ?_))))))))))
    have hst := pk2 hst
    have h := Option.some.inj h; subst h
    exact ⟨_, rfl, m1727, rfl, e1758, hst⟩
   refine wp_skip (bn (tn (rg (s0 3 [vi (w64 (x1683 + 1))] (nl (tn ?_))))))
   exact ih1726 k1729 (by omega) _ _ ⟨_, m1727, (w64 (x1683 + 1)), au, (by omega), h, hl1723, hst⟩
  refine wp_exit (tx (tx (bx (tn (qr ?_)))))
  have hst := pk2 hst
  refine s0 1 [vb true] (nl (tn (wp_ret (wr [vb true] ?_))))
  have e1768 := hl18.trans (hl478.trans (hl775.trans (hl1096.trans (hl1358.trans (hl1599.trans hl1723)))))
  have h := Option.some.inj h; subst h
  exact ⟨_, rfl, m1727, rfl, e1768, hst⟩
 refine rg (sg 8 [vp b1 0, vs Au0 a0.Variables cu0, vi ((a0.Variables).length : Int), vp b2 0, vs Au6 a1.Variables cu6, vi ((a1.Variables).length : Int), vb (((a0.Variables).length : Int) != ((a1.Variables).length : Int))] _ (AllC.app (hst.q 1 0 1) (hst.q 0 0 1)) ?_)
 rcases sp h with ⟨hc1769, h⟩ | ⟨hc1769, h⟩
 ·rw [hc1769]
  refine sk 7 (s0 2 [vb true] (sk 7 (s0 2 [vb true] (sk 5 (s0 2 [vb true] (sk 7 (s0 2 [vb true] (sk 7 (s0 2 [vb true] (sk 7 (s0 2 [vb true] (sk 5 (s0 1 [vb true] (nl (tn ?_)))))))))))))))
  exact ⟨_, k, m, (true), au, (by omega), h, (Mem.le.refl _), hst⟩
 rw [hc1769]
 refine sg 9 [vp b1 1, vs Au1 a0.Relations cu1, vi ((a0.Relations).length : Int), vp b2 1, vs Au7 a1.Relations cu7, vi ((a1.Relations).length : Int), vb (((a0.Relations).length : Int) != ((a1.Relations).length : Int)), vb (((a0.Relations).length : Int) != ((a1.Relations).length : Int))] _ (AllC.app (hst.q 1 1 1) (hst.q 0 1 1)) ?_
 rcases sp h with ⟨hc1770, h⟩ | ⟨hc1770, h⟩
 ·rw [hc1770]
  refine sk 7 (s0 2 [vb true] (sk 5 (s0 2 [vb true] (sk 7 (s0 2 [vb true] (sk 7 (s0 2 [vb true] (sk 7 (s0 2 [vb true] (sk 5 (s0 1 [vb true] (nl (tn ?_)))))))))))))
  exact ⟨_, k, m, (true), au, (by omega), h, (Mem.le.refl _), hst⟩
 rw [hc1770]
 refine sg 9 [vp b1 2, vs Au2 a0.Absences cu2, vi ((a0.Absences).length : Int), vp b2 2, vs Au8 a1.Absences cu8, vi ((a1.Absences).length : Int), vb (((a0.Absences).length : Int) != ((a1.Absences).length : Int)), vb (((a0.Absences).length : Int) != ((a1.Absences).length : Int))] _ (AllC.app (hst.q 1 2 1) (hst.q 0 2 1)) ?_
 rcases sp h with ⟨hc1771, h⟩ | ⟨hc1771, h⟩
 ·rw [hc1771]
  refine sk 5 (s0 2 [vb true] (sk 7 (s0 2 [vb true] (sk 7 (s0 2 [vb true] (sk 7 (s0 2 [vb true] (sk 5 (s0 1 [vb true] (nl (tn ?_)))))))))))
  exact ⟨_, k, m, (true), au, (by omega), h, (Mem.le.refl _), hst⟩
 rw [hc1771]
 refine sg 4 [vp b1 3, va (cGInterval a0.Slots), vp b2 3, va (cGInterval a1.Slots)] _ (AllC.app (hst.q 1 3 2) (hst.q 0 3 2)) (vl (ran ((a0.Slots.From == a1.Slots.From) && ((a0.Slots.To == a1.Slots.To) && true)) (cGInterval a0.Slots) (cGInterval a1.Slots)) (s0 2 [vb (!((a0.Slots.From == a1.Slots.From) && ((a0.Slots.To == a1.Slots.To) && true)))] ?_))
 rcases sp h with ⟨hc1772, h⟩ | ⟨hc1772, h⟩
 ·rw [hc1772]
  refine sk 7 (s0 2 [vb true] (sk 7 (s0 2 [vb true] (sk 7 (s0 2 [vb true] (sk 5 (s0 1 [vb true] (nl (tn ?_)))))))))
  exact ⟨_, k, m, (true), au, (by omega), h, (Mem.le.refl _), hst⟩
 rw [hc1772]
 refine sg 9 [vp b1 5, vs Au3 a0.Group cu3, vi ((a0.Group).length : Int), vp b2 5, vs Au9 a1.Group cu9, vi ((a1.Group).length : Int), vb (((a0.Group).length : Int) != ((a1.Group).length : Int)), vb (((a0.Group).length : Int) != ((a1.Group).length : Int))] _ (AllC.app (hst.q 1 5 1) (hst.q 0 5 1)) ?_
 rcases sp h with ⟨hc1773, h⟩ | ⟨hc1773, h⟩
 ·rw [hc1773]
  refine sk 7 (s0 2 [vb true] (sk 7 (s0 2 [vb true] (sk 5 (s0 1 [vb true] (nl (tn ?_)))))))
  exact ⟨_, k, m, (true), au, (by omega), h, (Mem.le.refl _), hst⟩
 rw [hc1773]
 refine sg 9 [vp b1 6, vs Au4 a0.Compute cu4, vi ((a0.Compute).length : Int), vp b2 6, vs Au10 a1.Compute cu10, vi ((a1.Compute).length : Int), vb (((a0.Compute).length : Int) != ((a1.Compute).length : Int)), vb (((a0.Compute).length : Int) != ((a1.Compute).length : Int))] _ (AllC.app (hst.q 1 6 1) (hst.q 0 6 1)) ?_
 rcases sp h with ⟨hc1774, h⟩ | ⟨hc1774, h⟩
 ·rw [hc1774]
  refine sk 7 (s0 2 [vb true] (sk 5 (s0 1 [vb true] (nl (tn ?_)))))
  exact ⟨_, k, m, (true), au, (by omega), h, (Mem.le.refl _), hst⟩
 rw [hc1774]
 refine sg 9 [vp b1 7, vs Au5 a0.Order cu5, vi ((a0.Order).length : Int), vp b2 7, vs Au11 a1.Order cu11, vi ((a1.Order).length : Int), vb (((a0.Order).length : Int) != ((a1.Order).length : Int)), vb (((a0.Order).length : Int) != ((a1.Order).length : Int))] _ (AllC.app (hst.q 1 7 1) (hst.q 0 7 1)) ?_
 rcases sp h with ⟨hc1775, h⟩ | ⟨hc1775, h⟩
 ·rw [hc1775]
  refine sk 5 (s0 1 [vb true] (nl (tn ?_)))
  exact ⟨_, k, m, (true), au, (by omega), h, (Mem.le.refl _), hst⟩
 rw [hc1775]
 refine sg 6 [vp b1 8, vi a0.Limit, vp b2 8, vi a1.Limit, vb (a0.Limit != a1.Limit), vb (a0.Limit != a1.Limit)] _ (AllC.app (hst.q 1 8 1) (hst.q 0 8 1)) (nl (tn ?_))
 exact ⟨_, k, m, ((a0.Limit != a1.Limit)), au, (by omega), h, (Mem.le.refl _), hst⟩
abbrev R_l36_begins := RBool
theorem c_l36_begins {a0 : Int} {r : Bool} (h : l36_begins a0 = some r) (hst : St g m (F) w) :
    Calls Tryz.prog 99 ⟨[vu a0]⟩ w (OPost (R_l36_begins g m F) r) := by
 refine calls_enter Tryz.func99 rfl rfl ?_
 unfold l36_begins at h
 refine qr (s0 1 [vb false] (nl (tn (qr (s0 3 [vb (decide (a0 ≥ 65))] ?_)))))
 rcases sp h with ⟨hc1, h⟩ | ⟨hc1, h⟩
 ·rw [hc1]
  refine s0 4 [vb (decide (a0 ≤ 90)), vb (decide (a0 ≤ 90))] ?_
  rcases sp h with ⟨hc2, h⟩ | ⟨hc2, h⟩
  ·rw [hc2]
   refine sk 6 (s0 2 [vb true] (sk 2 (s0 2 [vb true] (nl (tn (wp_ret (wr [vb true] ?_)))))))
   have h := Option.some.inj h; subst h
   exact ⟨_, rfl, m, rfl, (Mem.le.refl _), hst⟩
  rw [hc2]
  refine s0 3 [vb (decide (a0 ≥ 97))] ?_
  rcases sp h with ⟨hc3, h⟩ | ⟨hc3, h⟩
  ·rw [hc3]
   refine s0 5 [vb (decide (a0 ≤ 122)), vb (decide (a0 ≤ 122)), vb (decide (a0 ≤ 122))] ?_
   rcases sp h with ⟨hc4, h⟩ | ⟨hc4, h⟩
   ·rw [hc4]
    refine sk 2 (s0 2 [vb true] (nl (tn (wp_ret (wr [vb true] ?_)))))
    have h := Option.some.inj h; subst h
    exact ⟨_, rfl, m, rfl, (Mem.le.refl _), hst⟩
   rw [hc4]
   refine s0 4 [vb (a0 == 95), vb (a0 == 95)] (nl (tn (wp_ret (wr [vb (a0 == 95)] ?_))))
   cases h
   exact ⟨_, rfl, m, rfl, (Mem.le.refl _), hst⟩
  rw [hc3]
  refine sk 2 (s0 7 [vb false, vb false, vb (a0 == 95), vb (a0 == 95)] (nl (tn (wp_ret (wr [vb (a0 == 95)] ?_)))))
  cases h
  exact ⟨_, rfl, m, rfl, (Mem.le.refl _), hst⟩
 rw [hc1]
 refine sk 2 (s0 5 [vb false, vb (decide (a0 ≥ 97))] ?_)
 rcases sp h with ⟨hc5, h⟩ | ⟨hc5, h⟩
 ·rw [hc5]
  refine s0 5 [vb (decide (a0 ≤ 122)), vb (decide (a0 ≤ 122)), vb (decide (a0 ≤ 122))] ?_
  rcases sp h with ⟨hc6, h⟩ | ⟨hc6, h⟩
  ·rw [hc6]
   refine sk 2 (s0 2 [vb true] (nl (tn (wp_ret (wr [vb true] ?_)))))
   have h := Option.some.inj h; subst h
   exact ⟨_, rfl, m, rfl, (Mem.le.refl _), hst⟩
  rw [hc6]
  refine s0 4 [vb (a0 == 95), vb (a0 == 95)] (nl (tn (wp_ret (wr [vb (a0 == 95)] ?_))))
  cases h
  exact ⟨_, rfl, m, rfl, (Mem.le.refl _), hst⟩
 rw [hc5]
 refine sk 2 (s0 7 [vb false, vb false, vb (a0 == 95), vb (a0 == 95)] (nl (tn (wp_ret (wr [vb (a0 == 95)] ?_)))))
 cases h
 exact ⟨_, rfl, m, rfl, (Mem.le.refl _), hst⟩
abbrev R_l36_digit := RBool
theorem c_l36_digit {a0 : Int} {r : Bool} (h : l36_digit a0 = some r) (hst : St g m (F) w) :
    Calls Tryz.prog 100 ⟨[vu a0]⟩ w (OPost (R_l36_digit g m F) r) := by
 refine calls_enter Tryz.func100 rfl rfl ?_
 unfold l36_digit at h
 refine qr (s0 1 [vb false] (nl (tn (qr (s0 3 [vb (decide (a0 ≥ 48))] ?_)))))
 rcases sp h with ⟨hc1, h⟩ | ⟨hc1, h⟩
 ·rw [hc1]
  refine s0 4 [vb (decide (a0 ≤ 57)), vb (decide (a0 ≤ 57))] (nl (tn (wp_ret (wr [vb (decide (a0 ≤ 57))] ?_))))
  cases h
  exact ⟨_, rfl, m, rfl, (Mem.le.refl _), hst⟩
 rw [hc1]
 refine sk 2 (s0 2 [vb false] (nl (tn (wp_ret (wr [vb false] ?_)))))
 have h := Option.some.inj h; subst h
 exact ⟨_, rfl, m, rfl, (Mem.le.refl _), hst⟩
def R_l36_reserved (g : World) (m : Mem) (F : List Asr) (r : List Str) (v : Value) (w' : World) : Prop := ∃ m' Av0 cv0, v = vs Av0 r cv0 ∧ m.le m' ∧ St g m' (F) w' ∧ RS (TStr) m' (vs Av0 r cv0) r
theorem c_l36_reserved {r : List Str} (h : l36_reserved = some r) (hst : St g m (F) w) :
    Calls Tryz.prog 13 ⟨[]⟩ w (OPost (R_l36_reserved g m F) r) := by
 refine calls_enter Tryz.func13 rfl rfl ?_
 unfold l36_reserved at h
 refine qr (s0 1 [vn] (nl (tn (qr (li 9 30 [vstr w_and, vstr w_attr, vstr w_false, vstr w_has, vstr w_not, vstr w_or, vstr w_prefix, vstr w_true, vstr w_ancestor, vstr w_before, vstr w_by, vstr w_compute, vstr w_desc, vstr w_distinct, vstr w_estimate, vstr w_find, vstr w_greatest, vstr w_group, vstr w_least, vstr w_limit, vstr w_link, vstr w_matches, vstr w_order, vstr w_parent, vstr w_quantile, vstr w_sibling, vstr w_slots, vstr w_sum, vstr w_traces, vstr w_where] hst (fun b1 _ hst => ?_))))))
 obtain ⟨m2, hl3, hst, hs4⟩ := hst.obj_slice (T := TStr) (xs := [w_and, w_attr, w_false, w_has, w_not, w_or, w_prefix, w_true, w_ancestor, w_before, w_by, w_compute, w_desc, w_distinct, w_estimate, w_find, w_greatest, w_group, w_least, w_limit, w_link, w_matches, w_order, w_parent, w_quantile, w_sibling, w_slots, w_sum, w_traces, w_where]) (RC.k1 rfl (RC.k1 rfl (RC.k1 rfl (RC.k1 rfl (RC.k1 rfl (RC.k1 rfl (RC.k1 rfl (RC.k1 rfl (RC.k1 rfl (RC.k1 rfl (RC.k1 rfl (RC.k1 rfl (RC.k1 rfl (RC.k1 rfl (RC.k1 rfl (RC.k1 rfl (RC.k1 rfl (RC.k1 rfl (RC.k1 rfl (RC.k1 rfl (RC.k1 rfl (RC.k1 rfl (RC.k1 rfl (RC.k1 rfl (RC.k1 rfl (RC.k1 rfl (RC.k1 rfl (RC.k1 rfl (RC.k1 rfl (RC.k1 rfl (RC.nil _ _))))))))))))))))))))))))))))))) rfl
 refine s0 1 [] (nl (tn (wp_ret (wr [.slice (some ⟨b1, 0, none⟩) 30 30] ?_))))
 cases h
 exact ⟨_, rfl, m2, (some ⟨b1, 0, none⟩), 30, rfl, hl3, hst, hs4⟩
abbrev R_l36_word := RBool
theorem c_l36_word {a0 : Str} {r : Bool} (h : l36_word k a0 = some r) (hst : St g m (F) w) :
    Calls Tryz.prog 45 ⟨[vstr a0]⟩ w (OPost (R_l36_word g m F) r) := by
 refine calls_enter Tryz.func45 rfl rfl ?_
 unfold l36_word at h
 refine qr (s0 1 [vb false] (nl (tn (sq (qr (s0 1 [vi 0] (nl (tn (bk (wc_loop (fun kk a w => ∃ f0 m48 x22, a = act Tryz.f45.ntmps (upds f0 [(0, vstr a0), (2, vb false), (3, vi x22)]) ∧ kk ≤ k ∧ l36_word_l1 kk a0 x22 = some r ∧ m.le m48 ∧ St g m48 (F) w) k ?_ ?_))))))))))
 ·exact ⟨_, m, (0), au, (Nat.le_refl _), h, (Mem.le.refl _), hst⟩
 rintro k46 ih47 _ _ ⟨f0, m48, x22, rfl, hk45, h, hl44, hst⟩
 obtain _ | k50 := k46
 ·simp [l36_word_l1] at h
 rw [l36_word_l1] at h
 refine sq (qr (s0 4 [vi ((a0).length : Int), vb (decide (x22 < ((a0).length : Int)))] (nl (tn (cn h (fun h => ?_) (fun h => ?_))))))
 ·refine wp_skip (tn (sq (bk (qr (s0 2 [] ?_)))))
  obtain ⟨c52, hc53, h⟩ := ix h
  refine vl (ria hc53.1 hc53.2) ?_
  obtain ⟨r54, hq55, h⟩ := bs h
  refine cal (c_l36_begins hq55 hst) ?_
  rintro _ _ ⟨m56, rfl, hl57, hst⟩
  refine s0 2 [vb (!r54)] ?_
  rcases sp h with ⟨hc58, h⟩ | ⟨hc58, h⟩
  ·rw [hc58]
   refine s0 3 [vb (x22 == 0)] ?_
   rcases sp h with ⟨hc59, h⟩ | ⟨hc59, h⟩
   ·rw [hc59]
    refine sk 11 (s0 2 [vb true, vb true] (nl (tn (ct (qr (s0 1 [vb false] (nl (tn (wp_ret (br (tr (tr (br (tr (wr [vb false] ?_)))))))))))))))
    have e60 := hl44.trans hl57
    have h := Option.some.inj h; subst h
    exact ⟨_, rfl, m56, rfl, e60, hst⟩
   rw [hc59]
   refine s0 2 [] ?_
   obtain ⟨c62, hc63, h⟩ := ix h
   refine vl (ria hc63.1 hc63.2) ?_
   obtain ⟨r64, hq65, h⟩ := bs h
   refine cal (c_l36_digit hq65 hst) ?_
   rintro _ _ ⟨m66, rfl, hl67, hst⟩
   refine s0 2 [vb (!r64)] ?_
   rcases sp h with ⟨hc68, h⟩ | ⟨hc68, h⟩
   ·rw [hc68]
    refine s0 2 [] ?_
    obtain ⟨c70, hc71, h⟩ := ix h
    refine vl (ria hc71.1 hc71.2) (s0 4 [vb ((c70.toNat : Int) != 45), vb ((c70.toNat : Int) != 45), vb ((c70.toNat : Int) != 45), vb ((c70.toNat : Int) != 45)] (nl (tn (cn h (fun h => ?_) (fun h => ?_)))))
    ·refine qr (s0 1 [vb false] (nl (tn (wp_ret (br (tr (tr (br (tr (wr [vb false] ?_))))))))))
     have e72 := hl44.trans (hl57.trans hl67)
     have h := Option.some.inj h; subst h
     exact ⟨_, rfl, m66, rfl, e72, hst⟩
    refine wp_skip (bn (tn (rg (s0 3 [vi (w64 (x22 + 1))] (nl (tn ?_))))))
    have e73 := hl44.trans (hl57.trans hl67)
    exact ih47 k50 (by omega) _ _ ⟨_, m66, (w64 (x22 + 1)), au, (by omega), h, e73, hst⟩
   rw [hc68]
   refine sk 4 (s0 3 [vb false, vb false, vb false] (nl (tn (cf (wp_skip (bn (tn (rg (s0 3 [vi (w64 (x22 + 1))] (nl (tn ?_)))))))))))
   have e74 := hl44.trans (hl57.trans hl67)
   exact ih47 k50 (by omega) _ _ ⟨_, m66, (w64 (x22 + 1)), au, (by omega), h, e74, hst⟩
  rw [hc58]
  refine sk 15 (s0 1 [vb false] (nl (tn (cf (wp_skip (bn (tn (rg (s0 3 [vi (w64 (x22 + 1))] (nl (tn ?_)))))))))))
  have e75 := hl44.trans hl57
  exact ih47 k50 (by omega) _ _ ⟨_, m56, (w64 (x22 + 1)), au, (by omega), h, e75, hst⟩
 refine wp_exit (tx (tx (bx (tn (qr (s0 1 [] (vl (rne a0 w_0) (s0 1 [] (nl (tn (wp_ret (wr [vb (!(a0 == w_0))] ?_))))))))))))
 cases h
 exact ⟨_, rfl, m48, rfl, hl44, hst⟩
abbrev R_l36_among := RBool
theorem c_l36_among {a0 : Str} {a1 : Int} {r : Bool} (h : l36_among k a0 a1 = some r) (hst : St g m (F) w) :
    Calls Tryz.prog 46 ⟨[vstr a0, vi a1]⟩ w (OPost (R_l36_among g m F) r) := by
 refine calls_enter Tryz.func46 rfl rfl ?_
 unfold l36_among at h
 refine qr (s0 1 [vb false] (nl (tn (sq (qr (s0 1 [vi 0] (nl (tn (bk (wc_loop (fun kk a w => ∃ f0 m36 x16, a = act Tryz.f46.ntmps (upds f0 [(0, vstr a0), (1, vi a1), (4, vb false), (5, vi x16)]) ∧ kk ≤ k ∧ l36_among_l1 kk a0 a1 x16 = some r ∧ m.le m36 ∧ St g m36 (F) w) k ?_ ?_))))))))))
 ·exact ⟨_, m, (0), au, (Nat.le_refl _), h, (Mem.le.refl _), hst⟩
 rintro k34 ih35 _ _ ⟨f0, m36, x16, rfl, hk33, h, hl32, hst⟩
 obtain _ | k38 := k34
 ·simp [l36_among_l1] at h
 rw [l36_among_l1] at h
 refine sq (qr (s0 3 [vb (decide (x16 < a1))] (nl (tn (cn h (fun h => ?_) (fun h => ?_))))))
 ·refine wp_skip (tn (sq (bk (qr ?_))))
  obtain ⟨r39, hq40, h⟩ := bs h
  refine cal (c_l36_reserved hq40 hst) ?_
  rintro _ _ ⟨m41, Aq43, cq43, rfl, hl42, hst, hq43⟩
  refine s0 1 [] ?_
  obtain ⟨x45, hx46, h⟩ := ix h
  obtain ⟨b47, o48, cs49, hR50, hA51, hI52⟩ := RS.ix (P := Tryz.prog) hq43 hx46
  obtain rfl : cs49 = [vstr x45] := hR50
  refine vl (hI52.r .i64) (sg 2 [vstr x45] _ (hst.f hA51 0 1) (vl (re x45 a0) (nl (tn (cn h (fun h => ?_) (fun h => ?_))))))
  ·refine qr (s0 1 [vb true] (nl (tn (wp_ret (br (tr (tr (br (tr (wr [vb true] ?_))))))))))
   have e53 := hl32.trans hl42
   have h := Option.some.inj h; subst h
   exact ⟨_, rfl, m41, rfl, e53, hst⟩
  refine wp_skip (bn (tn (rg (s0 3 [vi (w64 (x16 + 1))] (nl (tn ?_))))))
  have e54 := hl32.trans hl42
  exact ih35 k38 (by omega) _ _ ⟨_, m41, (w64 (x16 + 1)), au, (by omega), h, e54, hst⟩
 refine wp_exit (tx (tx (bx (tn (qr (s0 1 [vb false] (nl (tn (wp_ret (wr [vb false] ?_))))))))))
 have h := Option.some.inj h; subst h
 exact ⟨_, rfl, m36, rfl, hl32, hst⟩
abbrev R_l36_field := RBool
theorem c_l36_field {a0 : Str} {r : Bool} (h : l36_field k a0 = some r) (hst : St g m (F) w) :
    Calls Tryz.prog 18 ⟨[vstr a0]⟩ w (OPost (R_l36_field g m F) r) := by
 refine calls_enter Tryz.func18 rfl rfl ?_
 unfold l36_field at h
 refine qr (s0 1 [vb false] (nl (tn (qr (s0 1 [] ?_)))))
 obtain ⟨r1, hq2, h⟩ := bs h
 refine cal (c_l36_word hq2 hst) ?_
 rintro _ _ ⟨m3, rfl, hl4, hst⟩
 refine s0 1 [] ?_
 rcases sp h with ⟨hc5, h⟩ | ⟨hc5, h⟩
 ·rw [hc5]
  refine s0 5 [vi ((a0).length : Int), vb (decide (((a0).length : Int) ≤ 64)), vb (decide (((a0).length : Int) ≤ 64))] ?_
  rcases sp h with ⟨hc6, h⟩ | ⟨hc6, h⟩
  ·rw [hc6]
   refine s0 1 [] ?_
   obtain ⟨r7, hq8, h⟩ := bs h
   refine cal (c_l36_among hq8 hst) ?_
   rintro _ _ ⟨m9, rfl, hl10, hst⟩
   refine s0 3 [vb (!r7), vb (!r7)] (nl (tn (wp_ret (wr [vb (!r7)] ?_))))
   have e11 := hl4.trans hl10
   cases h
   exact ⟨_, rfl, m9, rfl, e11, hst⟩
  rw [hc6]
  refine sk 3 (s0 2 [vb false] (nl (tn (wp_ret (wr [vb false] ?_)))))
  have h := Option.some.inj h; subst h
  exact ⟨_, rfl, m3, rfl, hl4, hst⟩
 rw [hc5]
 refine sk 3 (s0 2 [vb false] (sk 3 (s0 2 [vb false] (nl (tn (wp_ret (wr [vb false] ?_)))))))
 have h := Option.some.inj h; subst h
 exact ⟨_, rfl, m3, rfl, hl4, hst⟩
abbrev R_l36_fits := RBool
structure I_l36_fits (k : Nat) : Prop where
  c_l36_fits : ∀ {a0 : GPred} {a1 : Bool} {r : Bool} {g : World} {m : Mem} {F : List Asr} {w : World} {Au0 : Option Addr} {cu0 : Nat} (h : l36_fits k a0 a1 = some r) (hst : St g m (F) w) (hu0 : RS (TGPred) m (vs Au0 a0.Args cu0) a0.Args),
    Calls Tryz.prog 69 ⟨[va (cGPred a0 (vs Au0 a0.Args cu0)), vb a1]⟩ w (OPost (R_l36_fits g m F) r)
theorem s_l36_fits (ih : ∀ j, j < k → I_l36_fits j) {a0 : GPred} {a1 : Bool} {r : Bool} (h : l36_fits k a0 a1 = some r) (hst : St g m (F) w) (hu0 : RS (TGPred) m (vs Au0 a0.Args cu0) a0.Args) :
    Calls Tryz.prog 69 ⟨[va (cGPred a0 (vs Au0 a0.Args cu0)), vb a1]⟩ w (OPost (R_l36_fits g m F) r) := by
 refine calls_enter Tryz.func69 rfl rfl ?_
 obtain _ | k1 := k
 ·simp [l36_fits] at h
 rw [l36_fits] at h
 refine qr (bo_ (cGPred a0 (vs Au0 a0.Args cu0)) hst (fun b1 _ hst => ?_))
 refine s0 1 [vb false] (nl (tn (wc_join (fun a w => ∃ f0 k14 m16 x12, a = act Tryz.f69.ntmps (upds f0 [(1, vb x12), (2, vp b1 0), (4, vb false)]) ∧ k14 ≤ k1 ∧ l36_fits_j1 k14 a0 x12 = some r ∧ m.le m16 ∧ St g m16 (oo b1 44 (cGPred a0 (vs Au0 a0.Args cu0)) :: F) w) ?_ ?_)))
 ·rintro _ _ ⟨f0, k14, m16, x12, rfl, hk15, h, hl13, hst⟩
  obtain _ | k17 := k14
  ·simp [l36_fits_j1] at h
  rw [l36_fits_j1] at h
  refine sq (qr (s0 1 [vi 0] (nl (tn (bk (wc_loop (fun kk a w => ∃ f0 m53 x33, a = act Tryz.f69.ntmps (upds f0 [(1, vb x12), (2, vp b1 0), (4, vb false), (5, vi x33)]) ∧ kk ≤ k17 ∧ l36_fits_l2 kk a0 x12 x33 = some r ∧ m16.le m53 ∧ St g m53 (oo b1 44 (cGPred a0 (vs Au0 a0.Args cu0)) :: F) w) k17 ?_ ?_))))))
  ·exact ⟨_, m16, (0), au, (Nat.le_refl _), h, (Mem.le.refl _), hst⟩
  rintro k51 ih52 _ _ ⟨f0, m53, x33, rfl, hk50, h, hl49, hst⟩
  obtain _ | k55 := k51
  ·simp [l36_fits_l2] at h
  rw [l36_fits_l2] at h
  refine sq (qr (sg 5 [vp b1 6, vs Au0 a0.Args cu0, vi ((a0.Args).length : Int), vb (decide (x33 < ((a0.Args).length : Int)))] _ (hst.q 0 6 1) (nl (tn (cn h (fun h => ?_) (fun h => ?_))))))
  ·refine wp_skip (tn (sq (bk (qr (sg 3 [vp b1 6, vs Au0 a0.Args cu0] _ (hst.q 0 6 1) ?_)))))
   obtain ⟨x57, hx58, h⟩ := ix h
   have e65 := hl13.trans hl49
   obtain ⟨b59, o60, cs61, hR62, hA63, hI64⟩ := RS.ix (P := Tryz.prog) (RS.mono e65 hu0) hx58
   obtain ⟨Aq66, cq66, rfl, hq66⟩ := TGPred.opn hR62
   refine vl (hI64.r .i64) (sg 2 [va (cGPred x57 (vs Aq66 x57.Args cq66))] _ (hst.f hA63 0 7) ?_)
   obtain ⟨r67, hq68, h⟩ := bs h
   refine cal ((ih k55 (by omega)).c_l36_fits hq68 hst hq66) ?_
   rintro _ _ ⟨m69, rfl, hl70, hst⟩
   refine s0 1 [vb (!r67)] (nl (tn (cn h (fun h => ?_) (fun h => ?_))))
   ·refine qr (s0 1 [vb false] (nl (tn (wp_ret (br (tr (tr (br (tr (wr [vb false] ?_))))))))))
    have hst := pk0 hst
    have e71 := e65.trans hl70
    have h := Option.some.inj h; subst h
    exact ⟨_, rfl, m69, rfl, e71, hst⟩
   refine wp_skip (bn (tn (rg (s0 3 [vi (w64 (x33 + 1))] (nl (tn ?_))))))
   have e72 := hl49.trans hl70
   exact ih52 k55 (by omega) _ _ ⟨_, m69, (w64 (x33 + 1)), au, (by omega), h, e72, hst⟩
  refine wp_exit (tx (tx (bx (tn (qr (s0 1 [vb true] (nl (tn (wp_ret (wr [vb true] ?_))))))))))
  have hst := pk0 hst
  have e73 := hl13.trans hl49
  have h := Option.some.inj h; subst h
  exact ⟨_, rfl, m53, rfl, e73, hst⟩
 refine qr (s0 2 [] ?_)
 rcases sp h with ⟨hc74, h⟩ | ⟨hc74, h⟩
 ·rw [hc74]
  refine sg 5 [vp b1 0, vi a0.Op, vb (decide (a0.Op ≥ 5)), vb (decide (a0.Op ≥ 5))] _ (hst.q 0 0 1) ?_
  rcases sp h with ⟨hc75, h⟩ | ⟨hc75, h⟩
  ·rw [hc75]
   refine sg 2 [vp b1 1, vstr a0.Field] _ (hst.q 0 1 1) ?_
   obtain ⟨r76, hq77, h⟩ := bs h
   refine cal (c_l36_field hq77 hst) ?_
   rintro _ _ ⟨m78, rfl, hl79, hst⟩
   refine s0 3 [vb (!r76), vb (!r76)] ?_
   rcases sp h with ⟨hc80, h⟩ | ⟨hc80, h⟩
   ·rw [hc80]
    refine sg 2 [vp b1 1, vstr a0.Field] _ (hst.q 0 1 1) (vl (rne a0.Field w_attr) (s0 2 [vb (!(a0.Field == w_attr))] ?_))
    rcases sp h with ⟨hc81, h⟩ | ⟨hc81, h⟩
    ·rw [hc81]
     refine sk 18 (s0 1 [vb true] (nl (tn (ct (qr (s0 1 [vb false] (nl (tn (wp_ret (tr (wr [vb false] ?_)))))))))))
     have hst := pk0 hst
     have h := Option.some.inj h; subst h
     exact ⟨_, rfl, m78, rfl, hl79, hst⟩
    rw [hc81]
    refine s0 3 [vb false] (sk 8 (s0 2 [vb false] (sk 4 (s0 2 [vb false, vb false] (nl (tn (cf (wp_skip (tn ?_)))))))))
    exact ⟨_, k1, m78, (true), au, (by omega), h, hl79, hst⟩
   rw [hc80]
   refine sk 3 (s0 5 [vb false, vb false] (sk 8 (s0 2 [vb false] (sk 4 (s0 2 [vb false, vb false] (nl (tn (cf (wp_skip (tn ?_))))))))))
   exact ⟨_, k1, m78, (true), au, (by omega), h, hl79, hst⟩
  rw [hc75]
  refine sk 4 (s0 2 [vb false] (sk 3 (s0 5 [vb false, vb false] (sk 8 (s0 2 [vb false] (sk 4 (s0 2 [vb false, vb false] (nl (tn (cf (wp_skip (tn ?_))))))))))))
  exact ⟨_, k1, m, (true), au, (by omega), h, (Mem.le.refl _), hst⟩
 rw [hc74]
 refine sk 3 (s0 2 [vb false] (sk 4 (s0 2 [vb false] (sk 3 (sg 9 [vb false, vb true, vp b1 0, vi a0.Op, vb (a0.Op == 1)] _ (hst.q 0 0 1) ?_)))))
 rcases sp h with ⟨hc82, h⟩ | ⟨hc82, h⟩
 ·rw [hc82]
  refine sk 3 (sg 9 [vb true, vb true, vp b1 6, vs Au0 a0.Args cu0, vi ((a0.Args).length : Int), vb (decide (((a0.Args).length : Int) < 2)), vb (decide (((a0.Args).length : Int) < 2)), vb (decide (((a0.Args).length : Int) < 2))] _ (hst.q 0 6 1) (nl (tn (cn h (fun h => ?_) (fun h => ?_)))))
  ·refine qr (s0 1 [vb false] (nl (tn (wp_ret (tr (wr [vb false] ?_))))))
   have hst := pk0 hst
   have h := Option.some.inj h; subst h
   exact ⟨_, rfl, m, rfl, (Mem.le.refl _), hst⟩
  refine wp_skip (tn ?_)
  exact ⟨_, k1, m, (false), au, (by omega), h, (Mem.le.refl _), hst⟩
 rw [hc82]
 refine sg 6 [vp b1 0, vi a0.Op, vb (a0.Op == 2), vb (a0.Op == 2), vb (a0.Op == 2)] _ (hst.q 0 0 1) ?_
 rcases sp h with ⟨hc83, h⟩ | ⟨hc83, h⟩
 ·rw [hc83]
  refine sg 6 [vp b1 6, vs Au0 a0.Args cu0, vi ((a0.Args).length : Int), vb (decide (((a0.Args).length : Int) < 2)), vb (decide (((a0.Args).length : Int) < 2)), vb (decide (((a0.Args).length : Int) < 2))] _ (hst.q 0 6 1) (nl (tn (cn h (fun h => ?_) (fun h => ?_))))
  ·refine qr (s0 1 [vb false] (nl (tn (wp_ret (tr (wr [vb false] ?_))))))
   have hst := pk0 hst
   have h := Option.some.inj h; subst h
   exact ⟨_, rfl, m, rfl, (Mem.le.refl _), hst⟩
  refine wp_skip (tn ?_)
  exact ⟨_, k1, m, (false), au, (by omega), h, (Mem.le.refl _), hst⟩
 rw [hc83]
 refine sk 4 (s0 2 [vb false, vb false] (nl (tn (cf (wp_skip (tn ?_))))))
 exact ⟨_, k1, m, (false), au, (by omega), h, (Mem.le.refl _), hst⟩
theorem i_l36_fits (k : Nat) : I_l36_fits k := by
  induction k using Nat.strongRecOn with
  | ind k ih => exact ⟨s_l36_fits ih⟩
theorem c_l36_fits {a0 : GPred} {a1 : Bool} {r : Bool} (h : l36_fits k a0 a1 = some r) (hst : St g m (F) w) (hu0 : RS (TGPred) m (vs Au0 a0.Args cu0) a0.Args) :
    Calls Tryz.prog 69 ⟨[va (cGPred a0 (vs Au0 a0.Args cu0)), vb a1]⟩ w (OPost (R_l36_fits g m F) r) := (i_l36_fits k).c_l36_fits h hst hu0
abbrev R_l36_checkPred := RInt
theorem c_l36_checkPred {a0 : GPred} {r : Int} (h : l36_checkPred k a0 = some r) (hst : St g m (F) w) (hu0 : RS (TGPred) m (vs Au0 a0.Args cu0) a0.Args) :
    Calls Tryz.prog 32 ⟨[va (cGPred a0 (vs Au0 a0.Args cu0))]⟩ w (OPost (R_l36_checkPred g m F) r) := by
 refine calls_enter Tryz.func32 rfl rfl ?_
 unfold l36_checkPred at h
 refine qr (bo_ (cGPred a0 (vs Au0 a0.Args cu0)) hst (fun b1 _ hst => ?_))
 refine s0 1 [vi 0] (nl (tn (sq (qr (sg 1 [va (cGPred a0 (vs Au0 a0.Args cu0))] _ (hst.q 0 0 7) ?_)))))
 obtain ⟨r6, hq7, h⟩ := bs h
 refine cal (c_attribute_Check hq7 hst hu0) ?_
 rintro _ _ ⟨m8, rfl, hl9, hst⟩
 refine s0 1 [] (nl (tn (qr (s0 2 [vb (r6 != 0)] (nl (tn (cn h (fun h => ?_) (fun h => ?_))))))))
 ·refine qr (s0 2 [] (nl (tn (wp_ret (tr (wr [vi r6] ?_))))))
  have hst := pk0 hst
  have h := Option.some.inj h; subst h
  exact ⟨_, rfl, m8, rfl, hl9, hst⟩
 refine wp_skip (tn (sq (qr (sg 1 [va (cGPred a0 (vs Au0 a0.Args cu0))] _ (hst.q 0 0 7) ?_))))
 obtain ⟨r10, hq11, h⟩ := bs h
 refine cal (c_l36_fits hq11 hst (RS.mono hl9 hu0)) ?_
 rintro _ _ ⟨m12, rfl, hl13, hst⟩
 refine s0 1 [vb (!r10)] (nl (tn (cn h (fun h => ?_) (fun h => ?_))))
 ·refine qr (s0 1 [vi 3] (nl (tn (wp_ret (tr (wr [vi 3] ?_))))))
  have hst := pk0 hst
  have e14 := hl9.trans hl13
  have h := Option.some.inj h; subst h
  exact ⟨_, rfl, m12, rfl, e14, hst⟩
 refine wp_skip (tn (sq (qr (sg 1 [va (cGPred a0 (vs Au0 a0.Args cu0))] _ (hst.q 0 0 7) ?_))))
 have e15 := hl9.trans hl13
 obtain ⟨r16, hq17, h⟩ := bs h
 refine cal (c_l36_fits hq17 hst (RS.mono e15 hu0)) ?_
 rintro _ _ ⟨m18, rfl, hl19, hst⟩
 refine s0 1 [vb (!r16)] (nl (tn (cn h (fun h => ?_) (fun h => ?_))))
 ·refine qr (s0 1 [vi 11] (nl (tn (wp_ret (tr (wr [vi 11] ?_))))))
  have hst := pk0 hst
  have e20 := e15.trans hl19
  have h := Option.some.inj h; subst h
  exact ⟨_, rfl, m18, rfl, e20, hst⟩
 refine wp_skip (tn (qr (s0 1 [vi 0] (nl (tn (wp_ret (wr [vi 0] ?_)))))))
 have hst := pk0 hst
 have e21 := e15.trans hl19
 have h := Option.some.inj h; subst h
 exact ⟨_, rfl, m18, rfl, e21, hst⟩
abbrev R_l36_quoted := RStr
theorem c_l36_quoted {a0 : Str} {r : Str} (h : l36_quoted k a0 = some r) (hst : St g m (F) w) :
    Calls Tryz.prog 148 ⟨[vstr a0]⟩ w (OPost (R_l36_quoted g m F) r) := by
 refine calls_enter Tryz.func148 rfl rfl ?_
 unfold l36_quoted at h
 refine qr (s0 1 [vstr w_0] (nl (tn (qr (li 5 1 [vu 34] hst (fun b1 _ hst => ?_))))))
 have hrc3 : RC (TInt .u8) m [34] [vu 34] := (RC.k1 rfl (RC.nil _ _))
 have hst := hst.obj_row (size := 1) (k := 1) rfl (Nat.le_of_ble_eq_true rfl)
 refine s0 1 [] (nl (tn (sq (qr (s0 1 [vi 0] (nl (tn (bk (wc_loop (fun kk a w => ∃ f0 m146 x70 A71 c72 cs73 x75, a = act Tryz.f148.ntmps (upds f0 [(0, vstr a0), (2, vstr w_0), (3, vs A71 x70 c72), (4, vi x75)]) ∧ kk ≤ k ∧ l36_quoted_l3 kk a0 x70 x75 = some r ∧ m.le m146 ∧ St g m146 (rw_ 5 1 A71 x70 c72 cs73 :: F) w ∧ RC (TInt .u8) m146 x70 cs73) k ?_ ?_)))))))))
 ·exact ⟨_, m, ([34]), (some ⟨b1, 0, none⟩), 1, [vu 34], (0), au, (Nat.le_refl _), h, (Mem.le.refl _), hst, hrc3⟩
 rintro k144 ih145 _ _ ⟨f0, m146, x70, A71, c72, cs73, x75, rfl, hk143, h, hl142, hst, hrc74⟩
 obtain _ | k148 := k144
 ·simp [l36_quoted_l3] at h
 rw [l36_quoted_l3] at h
 refine sq (qr (s0 4 [vi ((a0).length : Int), vb (decide (x75 < ((a0).length : Int)))] (nl (tn (cn h (fun h => ?_) (fun h => ?_))))))
 ·refine wp_skip (tn (sq (bk (wc_join (fun a w => ∃ f0 k178 m180 x168 A169 c170 cs171 x173 x174 x175 x176, a = act Tryz.f148.ntmps (upds f0 [(0, vstr a0), (2, vstr w_0), (3, vs A169 x168 c170), (4, vi x75), (6, vi x75), (7, vstr a0), (8, vi ((a0).length : Int)), (9, vb (decide (x75 < ((a0).length : Int)))), (12, vstr a0), (13, vi x75), (14, vu x173), (15, vb x174), (16, vb x175), (21, vb x176)]) ∧ k178 ≤ k148 ∧ l36_quoted_j4 k178 a0 x75 x168 = some r ∧ m146.le m180 ∧ St g m180 (rw_ 5 1 A169 x168 c170 cs171 :: F) w ∧ RC (TInt .u8) m180 x168 cs171) ?_ ?_))))
  ·rintro _ _ ⟨f0, k178, m180, x168, A169, c170, cs171, x173, x174, x175, x176, rfl, hk179, h, hl177, hst, hrc172⟩
   obtain _ | k181 := k178
   ·simp [l36_quoted_j4] at h
   rw [l36_quoted_j4] at h
   refine rg (s0 3 [] ?_)
   obtain ⟨c183, hc184, h⟩ := ix h
   refine vl (ria hc184.1 hc184.2) (li 5 1 [vu (c183.toNat : Int)] hst (fun b185 _ hst => ?_))
   obtain ⟨hb186, h⟩ := chk_some h
   refine ap1 (TInt .u8) (xs := x168) (ys := [(c183.toNat : Int)]) 1 1 0 hst hrc172 (RC.k1 rfl (RC.nil _ _)) hb186 (fun A187 c188 cs189 _ hrc190 hst => ?_)
   have hst := pk0 hst
   refine s0 1 [] (nl (bn (tn (rg (s0 3 [vi (w64 (x75 + 1))] (nl (tn ?_)))))))
   have e191 := hl142.trans hl177
   exact ih145 k181 (by omega) _ _ ⟨_, m180, ((x168 ++ [(c183.toNat : Int)])), A187, c188, cs189, (w64 (x75 + 1)), au, (by omega), h, e191, hst, hrc190⟩
  refine qr (s0 2 [] ?_)
  obtain ⟨c193, hc194, h⟩ := ix h
  refine vl (ria hc194.1 hc194.2) (s0 2 [vb ((c193.toNat : Int) == 34)] ?_)
  rcases sp h with ⟨hc195, h⟩ | ⟨hc195, h⟩
  ·rw [hc195]
   refine sk 4 (s0 1 [vb true] (nl (tn (ct (rg (s0 1 [] (li 5 1 [vu 92] hst (fun b196 _ hst => ?_))))))))
   obtain ⟨hb197, h⟩ := chk_some h
   refine ap1 (TInt .u8) (xs := x70) (ys := [92]) 1 1 0 hst hrc74 (RC.k1 rfl (RC.nil _ _)) hb197 (fun A198 c199 cs200 _ hrc201 hst => ?_)
   have hst := pk0 hst
   refine s0 1 [] (nl (tn ?_))
   exact ⟨_, k148, m146, ((x70 ++ [92])), A198, c199, cs200, ((c193.toNat : Int)), (true), (true), (true), au, (by omega), h, (Mem.le.refl _), hst, hrc201⟩
  rw [hc195]
  refine s0 2 [] ?_
  obtain ⟨c203, hc204, h⟩ := ix h
  refine vl (ria hc204.1 hc204.2) (s0 2 [vb ((c203.toNat : Int) == 92), vb ((c203.toNat : Int) == 92)] (nl (tn (cn h (fun h => ?_) (fun h => ?_)))))
  ·refine rg (s0 1 [] (li 5 1 [vu 92] hst (fun b205 _ hst => ?_)))
   obtain ⟨hb206, h⟩ := chk_some h
   refine ap1 (TInt .u8) (xs := x70) (ys := [92]) 1 1 0 hst hrc74 (RC.k1 rfl (RC.nil _ _)) hb206 (fun A207 c208 cs209 _ hrc210 hst => ?_)
   have hst := pk0 hst
   refine s0 1 [] (nl (tn ?_))
   exact ⟨_, k148, m146, ((x70 ++ [92])), A207, c208, cs209, ((c193.toNat : Int)), (false), (false), (((c203.toNat : Int) == 92)), au, (by omega), h, (Mem.le.refl _), hst, hrc210⟩
  refine wp_skip (tn ?_)
  exact ⟨_, k148, m146, (x70), A71, c72, cs73, ((c193.toNat : Int)), (false), (false), (((c203.toNat : Int) == 92)), au, (by omega), h, (Mem.le.refl _), hst, hrc74⟩
 refine wp_exit (tx (tx (bx (tn (qr (s0 1 [] (li 5 1 [vu 34] hst (fun b211 _ hst => ?_))))))))
 obtain ⟨hb212, h⟩ := chk_some h
 refine ap1 (TInt .u8) (xs := x70) (ys := [34]) 1 1 0 hst hrc74 (RC.k1 rfl (RC.nil _ _)) hb212 (fun A213 c214 cs215 _ hrc216 hst => ?_)
 have hst := pk0 hst
 refine vl (cro hst.rd 0 hrc216) (s0 1 [] (nl (tn (wp_ret (wr [vstr (List.map (fun q : Int => UInt8.ofNat q.toNat) (x70 ++ [34]))] ?_)))))
 have hst := pk0 hst
 cases h
 exact ⟨_, rfl, m146, rfl, hl142, hst⟩
abbrev R_l36_label := RStr
theorem c_l36_label {a0 : Str} {r : Str} (h : l36_label k a0 = some r) (hst : St g m (F) w) :
    Calls Tryz.prog 74 ⟨[vstr a0]⟩ w (OPost (R_l36_label g m F) r) := by
 refine calls_enter Tryz.func74 rfl rfl ?_
 unfold l36_label at h
 refine qr (s0 1 [vstr w_0] (nl (tn (sq (qr (s0 1 [] ?_))))))
 obtain ⟨r1, hq2, h⟩ := bs h
 refine cal (c_l36_word hq2 hst) ?_
 rintro _ _ ⟨m3, rfl, hl4, hst⟩
 refine nl (tn (cn h (fun h => ?_) (fun h => ?_)))
 ·refine qr (s0 2 [] (nl (tn (wp_ret (tr (wr [vstr a0] ?_))))))
  have h := Option.some.inj h; subst h
  exact ⟨_, rfl, m3, rfl, hl4, hst⟩
 refine wp_skip (tn (qr (s0 1 [] ?_)))
 obtain ⟨r5, hq6, h⟩ := bs h
 refine cal (c_l36_quoted hq6 hst) ?_
 rintro _ _ ⟨m7, rfl, hl8, hst⟩
 refine s0 1 [] (nl (tn (wp_ret (wr [vstr r5] ?_))))
 have e9 := hl4.trans hl8
 have h := Option.some.inj h; subst h
 exact ⟨_, rfl, m7, rfl, e9, hst⟩
abbrev R_l36_decimal := RStr
structure I_l36_decimal (k : Nat) : Prop where
  c_l36_decimal : ∀ {a0 : Int} {r : Str} {g : World} {m : Mem} {F : List Asr} {w : World} (h : l36_decimal k a0 = some r) (hst : St g m (F) w),
    Calls Tryz.prog 86 ⟨[vi a0]⟩ w (OPost (R_l36_decimal g m F) r)
theorem s_l36_decimal (ih : ∀ j, j < k → I_l36_decimal j) {a0 : Int} {r : Str} (h : l36_decimal k a0 = some r) (hst : St g m (F) w) :
    Calls Tryz.prog 86 ⟨[vi a0]⟩ w (OPost (R_l36_decimal g m F) r) := by
 refine calls_enter Tryz.func86 rfl rfl ?_
 obtain _ | k1 := k
 ·simp [l36_decimal] at h
 rw [l36_decimal] at h
 refine qr (s0 1 [vstr w_0] (nl (tn (sq (qr (s0 2 [vb (decide (a0 < 0))] (nl (tn (cn h (fun h => ?_) (fun h => ?_))))))))))
 ·refine qr (s0 2 [vi (w64 (0 - a0))] ?_)
  obtain ⟨r6, hq7, h⟩ := bs h
  refine cal ((ih k1 (by omega)).c_l36_decimal hq7 hst) ?_
  rintro _ _ ⟨m8, rfl, hl9, hst⟩
  obtain ⟨hb10, h⟩ := chk_some h
  refine vl (rad hb10) (s0 1 [] (nl (tn (wp_ret (tr (wr [vstr (wx2d ++ r6)] ?_))))))
  cases h
  exact ⟨_, rfl, m8, rfl, hl9, hst⟩
 refine wp_skip (tn (sq (qr (s0 2 [vb (decide (a0 < 10))] (nl (tn (cn h (fun h => ?_) (fun h => ?_))))))))
 ·refine qr (s0 3 [vi (w64 (48 + a0)), vu (IntKind.u8.wrap (w64 (48 + a0)))] (li 5 1 [vu (IntKind.u8.wrap (w64 (48 + a0)))] hst (fun b11 _ hst => ?_)))
  have hrc13 : RC (TInt .u8) m [IntKind.u8.wrap (w64 (48 + a0))] [vu (IntKind.u8.wrap (w64 (48 + a0)))] := (RC.k1 rfl (RC.nil _ _))
  have hst := hst.obj_row (size := 1) (k := 1) rfl (Nat.le_of_ble_eq_true rfl)
  refine vl (cro hst.rd 0 hrc13) (s0 1 [] (nl (tn (wp_ret (tr (wr [vstr (List.map (fun q : Int => UInt8.ofNat q.toNat) [IntKind.u8.wrap (w64 (48 + a0))])] ?_))))))
  have hst := pk0 hst
  cases h
  exact ⟨_, rfl, m, rfl, (Mem.le.refl _), hst⟩
 refine wp_skip (tn (qr (s0 2 [vi (w64 (a0.tdiv 10))] ?_)))
 obtain ⟨r14, hq15, h⟩ := bs h
 refine cal ((ih k1 (by omega)).c_l36_decimal hq15 hst) ?_
 rintro _ _ ⟨m16, rfl, hl17, hst⟩
 refine s0 2 [vi (a0.tmod 10)] ?_
 obtain ⟨r18, hq19, h⟩ := bs h
 refine cal ((ih k1 (by omega)).c_l36_decimal hq19 hst) ?_
 rintro _ _ ⟨m20, rfl, hl21, hst⟩
 obtain ⟨hb22, h⟩ := chk_some h
 refine vl (rad hb22) (s0 1 [] (nl (tn (wp_ret (wr [vstr (r14 ++ r18)] ?_)))))
 have e23 := hl17.trans hl21
 cases h
 exact ⟨_, rfl, m20, rfl, e23, hst⟩
theorem i_l36_decimal (k : Nat) : I_l36_decimal k := by
  induction k using Nat.strongRecOn with
  | ind k ih => exact ⟨s_l36_decimal ih⟩
theorem c_l36_decimal {a0 : Int} {r : Str} (h : l36_decimal k a0 = some r) (hst : St g m (F) w) :
    Calls Tryz.prog 86 ⟨[vi a0]⟩ w (OPost (R_l36_decimal g m F) r) := (i_l36_decimal k).c_l36_decimal h hst
abbrev R_l36_value := RStr
theorem c_l36_value {a0 : GValue} {r : Str} (h : l36_value k a0 = some r) (hst : St g m (F) w) :
    Calls Tryz.prog 76 ⟨[va (cGValue a0)]⟩ w (OPost (R_l36_value g m F) r) := by
 refine calls_enter Tryz.func76 rfl rfl ?_
 unfold l36_value at h
 refine qr (bo_ (cGValue a0) hst (fun b1 _ hst => ?_))
 refine s0 1 [vstr w_0] (nl (tn (sq (qr (sg 2 [vp b1 0, vi a0.Kind] _ (hst.q 0 0 1) (nl (tn (bk (qr (s0 2 [vb (a0.Kind == 1)] (nl (tn (cn h (fun h => ?_) (fun h => ?_))))))))))))))
 ·refine qr (sg 2 [vp b1 1, vstr a0.Text] _ (hst.q 0 1 1) ?_)
  obtain ⟨r2, hq3, h⟩ := bs h
  refine cal (c_l36_quoted hq3 hst) ?_
  rintro _ _ ⟨m4, rfl, hl5, hst⟩
  refine s0 1 [] (nl (tn (wp_ret (br (tr (wr [vstr r2] ?_))))))
  have hst := pk0 hst
  have h := Option.some.inj h; subst h
  exact ⟨_, rfl, m4, rfl, hl5, hst⟩
 refine qr (s0 2 [vb (a0.Kind == 2)] (nl (tn (cn h (fun h => ?_) (fun h => ?_)))))
 ·refine qr (sg 2 [vp b1 2, vi a0.Int] _ (hst.q 0 2 1) ?_)
  obtain ⟨r6, hq7, h⟩ := bs h
  refine cal (c_l36_decimal hq7 hst) ?_
  rintro _ _ ⟨m8, rfl, hl9, hst⟩
  refine s0 1 [] (nl (tn (wp_ret (br (tr (wr [vstr r6] ?_))))))
  have hst := pk0 hst
  have h := Option.some.inj h; subst h
  exact ⟨_, rfl, m8, rfl, hl9, hst⟩
 refine wp_skip (bn (tn (sq (qr (sg 3 [vp b1 2, vi a0.Int, vb (a0.Int == 1)] _ (hst.q 0 2 1) (nl (tn (cn h (fun h => ?_) (fun h => ?_)))))))))
 ·refine qr (s0 1 [vstr w_true] (nl (tn (wp_ret (tr (wr [vstr w_true] ?_))))))
  have hst := pk0 hst
  have h := Option.some.inj h; subst h
  exact ⟨_, rfl, m, rfl, (Mem.le.refl _), hst⟩
 refine wp_skip (tn (qr (s0 1 [vstr w_false] (nl (tn (wp_ret (wr [vstr w_false] ?_)))))))
 have hst := pk0 hst
 have h := Option.some.inj h; subst h
 exact ⟨_, rfl, m, rfl, (Mem.le.refl _), hst⟩
abbrev R_l36_pred := RStr
abbrev R_l36_part := RStr
structure I_l36_pred (k : Nat) : Prop where
  c_l36_pred : ∀ {a0 : GPred} {r : Str} {g : World} {m : Mem} {F : List Asr} {w : World} {Au0 : Option Addr} {cu0 : Nat} (h : l36_pred k a0 = some r) (hst : St g m (F) w) (hu0 : RS (TGPred) m (vs Au0 a0.Args cu0) a0.Args),
    Calls Tryz.prog 35 ⟨[va (cGPred a0 (vs Au0 a0.Args cu0))]⟩ w (OPost (R_l36_pred g m F) r)
  c_l36_part : ∀ {a0 : GPred} {r : Str} {g : World} {m : Mem} {F : List Asr} {w : World} {Au0 : Option Addr} {cu0 : Nat} (h : l36_part k a0 = some r) (hst : St g m (F) w) (hu0 : RS (TGPred) m (vs Au0 a0.Args cu0) a0.Args),
    Calls Tryz.prog 75 ⟨[va (cGPred a0 (vs Au0 a0.Args cu0))]⟩ w (OPost (R_l36_part g m F) r)
theorem s_l36_pred (ih : ∀ j, j < k → I_l36_pred j) {a0 : GPred} {r : Str} (h : l36_pred k a0 = some r) (hst : St g m (F) w) (hu0 : RS (TGPred) m (vs Au0 a0.Args cu0) a0.Args) :
    Calls Tryz.prog 35 ⟨[va (cGPred a0 (vs Au0 a0.Args cu0))]⟩ w (OPost (R_l36_pred g m F) r) := by
 refine calls_enter Tryz.func35 rfl rfl ?_
 obtain _ | k1 := k
 ·simp [l36_pred] at h
 rw [l36_pred] at h
 refine qr (bo_ (cGPred a0 (vs Au0 a0.Args cu0)) hst (fun b1 _ hst => ?_))
 refine s0 1 [vstr w_0] (nl (tn (qr (sg 3 [vp b1 1, vstr a0.Field] _ (hst.q 0 1 1) (nl (tn (wc_join (fun a w => ∃ f0 k9 m11 x7, a = act Tryz.f35.ntmps (upds f0 [(1, vp b1 0), (2, vstr w_0), (3, vstr x7)]) ∧ k9 ≤ k1 ∧ l36_pred_j1 k9 a0 x7 = some r ∧ m.le m11 ∧ St g m11 (oo b1 44 (cGPred a0 (vs Au0 a0.Args cu0)) :: F) w) ?_ ?_)))))))
 ·rintro _ _ ⟨f0, k9, m11, x7, rfl, hk10, h, hl8, hst⟩
  obtain _ | k12 := k9
  ·simp [l36_pred_j1] at h
  rw [l36_pred_j1] at h
  refine sq (qr (sg 2 [vp b1 0, vi a0.Op] _ (hst.q 0 0 1) (nl (tn (bk (wc_join (fun a w => ∃ f0 k15 m17 x13, a = act Tryz.f35.ntmps (upds f0 [(1, vp b1 0), (2, vstr w_0), (3, vstr x7), (16, vi a0.Op), (17, vb x13)]) ∧ k15 ≤ k12 ∧ l36_pred_j2 k15 a0 x7 x13 = some r ∧ m11.le m17 ∧ St g m17 (oo b1 44 (cGPred a0 (vs Au0 a0.Args cu0)) :: F) w) ?_ ?_))))))
  ·rintro _ _ ⟨f0, k15, m17, x13, rfl, hk16, h, hl14, hst⟩
   obtain _ | k18 := k15
   ·simp [l36_pred_j2] at h
   rw [l36_pred_j2] at h
   refine cn h (fun h => ?_) (fun h => ?_)
   ·refine qr (s0 1 [vstr wx20616e6420] (nl (tn (wc_join (fun a w => ∃ f0 k21 m23 x19, a = act Tryz.f35.ntmps (upds f0 [(1, vp b1 0), (2, vstr w_0), (4, vstr x19)]) ∧ k21 ≤ k18 ∧ l36_pred_j3 k21 a0 x19 = some r ∧ m17.le m23 ∧ St g m23 (oo b1 44 (cGPred a0 (vs Au0 a0.Args cu0)) :: F) w) ?_ ?_))))
    ·rintro _ _ ⟨f0, k21, m23, x19, rfl, hk22, h, hl20, hst⟩
     obtain _ | k24 := k21
     ·simp [l36_pred_j3] at h
     rw [l36_pred_j3] at h
     refine qr (sg 2 [vp b1 6, vs Au0 a0.Args cu0] _ (hst.q 0 6 1) ?_)
     obtain ⟨x26, hx27, h⟩ := ix h
     have e34 := hl8.trans (hl14.trans hl20)
     obtain ⟨b28, o29, cs30, hR31, hA32, hI33⟩ := RS.ix (P := Tryz.prog) (RS.mono e34 hu0) hx27
     obtain ⟨Aq35, cq35, rfl, hq35⟩ := TGPred.opn hR31
     refine vl (hI33.r .i64) (sg 1 [va (cGPred x26 (vs Aq35 x26.Args cq35))] _ (hst.f hA32 0 7) ?_)
     obtain ⟨r36, hq37, h⟩ := bs h
     refine cal ((ih k24 (by omega)).c_l36_part hq37 hst hq35) ?_
     rintro _ _ ⟨m38, rfl, hl39, hst⟩
     refine s0 1 [] (nl (tn (sq (qr (s0 1 [vi 1] (nl (tn (bk (wc_loop (fun kk a w => ∃ f0 m84 x59 x60, a = act Tryz.f35.ntmps (upds f0 [(1, vp b1 0), (2, vstr w_0), (4, vstr x19), (5, vstr x59), (6, vi x60)]) ∧ kk ≤ k24 ∧ l36_pred_l4 kk a0 x19 x59 x60 = some r ∧ m38.le m84 ∧ St g m84 (oo b1 44 (cGPred a0 (vs Au0 a0.Args cu0)) :: F) w) k24 ?_ ?_)))))))))
     ·exact ⟨_, m38, (r36), (1), au, (Nat.le_refl _), h, (Mem.le.refl _), hst⟩
     rintro k82 ih83 _ _ ⟨f0, m84, x59, x60, rfl, hk81, h, hl80, hst⟩
     obtain _ | k86 := k82
     ·simp [l36_pred_l4] at h
     rw [l36_pred_l4] at h
     refine sq (qr (sg 5 [vp b1 6, vs Au0 a0.Args cu0, vi ((a0.Args).length : Int), vb (decide (x60 < ((a0.Args).length : Int)))] _ (hst.q 0 6 1) (nl (tn (cn h (fun h => ?_) (fun h => ?_))))))
     ·refine wp_skip (tn (sq (bk (rg (s0 2 [] ?_)))))
      obtain ⟨hb87, h⟩ := chk_some h
      refine vl (rad hb87) (sg 3 [vp b1 6, vs Au0 a0.Args cu0] _ (hst.q 0 6 1) ?_)
      obtain ⟨x89, hx90, h⟩ := ix h
      have e97 := e34.trans (hl39.trans hl80)
      obtain ⟨b91, o92, cs93, hR94, hA95, hI96⟩ := RS.ix (P := Tryz.prog) (RS.mono e97 hu0) hx90
      obtain ⟨Aq98, cq98, rfl, hq98⟩ := TGPred.opn hR94
      refine vl (hI96.r .i64) (sg 1 [va (cGPred x89 (vs Aq98 x89.Args cq98))] _ (hst.f hA95 0 7) ?_)
      obtain ⟨r99, hq100, h⟩ := bs h
      refine cal ((ih k86 (by omega)).c_l36_part hq100 hst hq98) ?_
      rintro _ _ ⟨m101, rfl, hl102, hst⟩
      obtain ⟨hb103, h⟩ := chk_some h
      refine vl (rad hb103) (s0 1 [] (nl (bn (tn (rg (s0 3 [vi (w64 (x60 + 1))] (nl (tn ?_))))))))
      have e104 := hl80.trans hl102
      exact ih83 k86 (by omega) _ _ ⟨_, m101, (((x59 ++ x19) ++ r99)), (w64 (x60 + 1)), au, (by omega), h, e104, hst⟩
     refine wp_exit (tx (tx (bx (tn (qr (s0 2 [] (nl (tn (wp_ret (br (tr (wr [vstr x59] ?_))))))))))))
     have hst := pk0 hst
     have e105 := e34.trans (hl39.trans hl80)
     have h := Option.some.inj h; subst h
     exact ⟨_, rfl, m84, rfl, e105, hst⟩
    refine qr (sg 3 [vp b1 0, vi a0.Op, vb (a0.Op == 2)] _ (hst.q 0 0 1) (nl (tn (cn h (fun h => ?_) (fun h => ?_)))))
    ·refine rg (s0 1 [vstr wx206f7220] (nl (tn ?_)))
     exact ⟨_, k18, m17, (wx206f7220), au, (by omega), h, (Mem.le.refl _), hst⟩
    refine wp_skip (tn ?_)
    exact ⟨_, k18, m17, (wx20616e6420), au, (by omega), h, (Mem.le.refl _), hst⟩
   refine qr (s0 2 [vb (a0.Op == 3)] (nl (tn (cn h (fun h => ?_) (fun h => ?_)))))
   ·refine qr (sg 2 [vp b1 6, vs Au0 a0.Args cu0] _ (hst.q 0 6 1) ?_)
    obtain ⟨x107, hx108, h⟩ := ix h
    have e115 := hl8.trans hl14
    obtain ⟨b109, o110, cs111, hR112, hA113, hI114⟩ := RS.ix (P := Tryz.prog) (RS.mono e115 hu0) hx108
    obtain ⟨Aq116, cq116, rfl, hq116⟩ := TGPred.opn hR112
    refine vl (hI114.r .i64) (sg 1 [va (cGPred x107 (vs Aq116 x107.Args cq116))] _ (hst.f hA113 0 7) ?_)
    obtain ⟨r117, hq118, h⟩ := bs h
    refine cal ((ih k18 (by omega)).c_l36_part hq118 hst hq116) ?_
    rintro _ _ ⟨m119, rfl, hl120, hst⟩
    obtain ⟨hb121, h⟩ := chk_some h
    refine vl (rad hb121) (s0 1 [] (nl (tn (wp_ret (br (tr (wr [vstr (wx6e6f7420 ++ r117)] ?_)))))))
    have hst := pk0 hst
    have e122 := e115.trans hl120
    cases h
    exact ⟨_, rfl, m119, rfl, e122, hst⟩
   refine qr (s0 2 [vb (a0.Op == 4)] (nl (tn (cn h (fun h => ?_) (fun h => ?_)))))
   ·refine qr (sg 2 [vp b1 2, vstr a0.Key] _ (hst.q 0 2 1) ?_)
    obtain ⟨r123, hq124, h⟩ := bs h
    refine cal (c_l36_label hq124 hst) ?_
    rintro _ _ ⟨m125, rfl, hl126, hst⟩
    obtain ⟨hb127, h⟩ := chk_some h
    refine vl (rad hb127) (s0 1 [] (nl (tn (wp_ret (br (tr (wr [vstr (wx68617320 ++ r123)] ?_)))))))
    have hst := pk0 hst
    have e128 := hl8.trans (hl14.trans hl126)
    cases h
    exact ⟨_, rfl, m125, rfl, e128, hst⟩
   refine qr (s0 2 [vb (a0.Op == 5)] (nl (tn (cn h (fun h => ?_) (fun h => ?_)))))
   ·refine qr (s0 1 [] ?_)
    obtain ⟨hb129, h⟩ := chk_some h
    refine vl (rad hb129) (sg 2 [vp b1 3, va (cGValue a0.Value)] _ (hst.q 0 3 3) ?_)
    obtain ⟨r130, hq131, h⟩ := bs h
    refine cal (c_l36_value hq131 hst) ?_
    rintro _ _ ⟨m132, rfl, hl133, hst⟩
    obtain ⟨hb134, h⟩ := chk_some h
    refine vl (rad hb134) (s0 1 [] (nl (tn (wp_ret (br (tr (wr [vstr ((x7 ++ wx203d20) ++ r130)] ?_)))))))
    have hst := pk0 hst
    have e135 := hl8.trans (hl14.trans hl133)
    cases h
    exact ⟨_, rfl, m132, rfl, e135, hst⟩
   refine qr (s0 2 [vb (a0.Op == 6)] (nl (tn (cn h (fun h => ?_) (fun h => ?_)))))
   ·refine qr (s0 1 [] ?_)
    obtain ⟨hb136, h⟩ := chk_some h
    refine vl (rad hb136) (sg 2 [vp b1 3, va (cGValue a0.Value)] _ (hst.q 0 3 3) ?_)
    obtain ⟨r137, hq138, h⟩ := bs h
    refine cal (c_l36_value hq138 hst) ?_
    rintro _ _ ⟨m139, rfl, hl140, hst⟩
    obtain ⟨hb141, h⟩ := chk_some h
    refine vl (rad hb141) (s0 1 [] (nl (tn (wp_ret (br (tr (wr [vstr ((x7 ++ wx203c20) ++ r137)] ?_)))))))
    have hst := pk0 hst
    have e142 := hl8.trans (hl14.trans hl140)
    cases h
    exact ⟨_, rfl, m139, rfl, e142, hst⟩
   refine qr (s0 2 [vb (a0.Op == 7)] (nl (tn (cn h (fun h => ?_) (fun h => ?_)))))
   ·refine qr (s0 1 [] ?_)
    obtain ⟨hb143, h⟩ := chk_some h
    refine vl (rad hb143) (sg 2 [vp b1 3, va (cGValue a0.Value)] _ (hst.q 0 3 3) ?_)
    obtain ⟨r144, hq145, h⟩ := bs h
    refine cal (c_l36_value hq145 hst) ?_
    rintro _ _ ⟨m146, rfl, hl147, hst⟩
    obtain ⟨hb148, h⟩ := chk_some h
    refine vl (rad hb148) (s0 1 [] (nl (tn (wp_ret (br (tr (wr [vstr ((x7 ++ wx2070726566697820) ++ r144)] ?_)))))))
    have hst := pk0 hst
    have e149 := hl8.trans (hl14.trans hl147)
    cases h
    exact ⟨_, rfl, m146, rfl, e149, hst⟩
   refine wp_skip (bn (tn (qr (s0 1 [vstr w_true] (nl (tn (wp_ret (wr [vstr w_true] ?_))))))))
   have hst := pk0 hst
   have e150 := hl8.trans hl14
   have h := Option.some.inj h; subst h
   exact ⟨_, rfl, m17, rfl, e150, hst⟩
  refine qr (s0 2 [vb (a0.Op == 1)] (nl (tn (cn h (fun h => ?_) (fun h => ?_)))))
  ·refine wp_skip (tn ?_)
   exact ⟨_, k12, m11, ((a0.Op == 1)), au, (by omega), h, (Mem.le.refl _), hst⟩
  refine rg (s0 2 [vb (a0.Op == 2)] (nl (tn ?_)))
  exact ⟨_, k12, m11, ((a0.Op == 2)), au, (by omega), h, (Mem.le.refl _), hst⟩
 refine qr (s0 1 [] (vl (re a0.Field w_attr) (nl (tn (cn h (fun h => ?_) (fun h => ?_))))))
 ·refine rg (sg 2 [vp b1 2, vstr a0.Key] _ (hst.q 0 2 1) ?_)
  obtain ⟨r151, hq152, h⟩ := bs h
  refine cal (c_l36_label hq152 hst) ?_
  rintro _ _ ⟨m153, rfl, hl154, hst⟩
  obtain ⟨hb155, h⟩ := chk_some h
  refine vl (rad hb155) (s0 1 [] (nl (tn ?_)))
  exact ⟨_, k1, m153, ((wx617474722e ++ r151)), au, (by omega), h, hl154, hst⟩
 refine wp_skip (tn ?_)
 exact ⟨_, k1, m, (a0.Field), au, (by omega), h, (Mem.le.refl _), hst⟩
theorem s_l36_part (ih : ∀ j, j < k → I_l36_pred j) {a0 : GPred} {r : Str} (h : l36_part k a0 = some r) (hst : St g m (F) w) (hu0 : RS (TGPred) m (vs Au0 a0.Args cu0) a0.Args) :
    Calls Tryz.prog 75 ⟨[va (cGPred a0 (vs Au0 a0.Args cu0))]⟩ w (OPost (R_l36_part g m F) r) := by
 refine calls_enter Tryz.func75 rfl rfl ?_
 obtain _ | k1 := k
 ·simp [l36_part] at h
 rw [l36_part] at h
 refine qr (bo_ (cGPred a0 (vs Au0 a0.Args cu0)) hst (fun b1 _ hst => ?_))
 refine s0 1 [vstr w_0] (nl (tn (sq (qr (sg 4 [vp b1 0, vi a0.Op, vb (a0.Op == 1)] _ (hst.q 0 0 1) ?_)))))
 rcases sp h with ⟨hc2, h⟩ | ⟨hc2, h⟩
 ·rw [hc2]
  refine sk 3 (s0 1 [vb true] (nl (tn (ct (qr (sg 1 [va (cGPred a0 (vs Au0 a0.Args cu0))] _ (hst.q 0 0 7) ?_))))))
  obtain ⟨r3, hq4, h⟩ := bs h
  refine cal ((ih k1 (by omega)).c_l36_pred hq4 hst hu0) ?_
  rintro _ _ ⟨m5, rfl, hl6, hst⟩
  obtain ⟨hb7, h⟩ := chk_some h
  refine vl (rad hb7) ?_
  obtain ⟨hb8, h⟩ := chk_some h
  refine vl (rad hb8) (s0 1 [] (nl (tn (wp_ret (tr (wr [vstr ((wx28 ++ r3) ++ wx29)] ?_))))))
  have hst := pk0 hst
  cases h
  exact ⟨_, rfl, m5, rfl, hl6, hst⟩
 rw [hc2]
 refine sg 4 [vp b1 0, vi a0.Op, vb (a0.Op == 2), vb (a0.Op == 2)] _ (hst.q 0 0 1) (nl (tn (cn h (fun h => ?_) (fun h => ?_))))
 ·refine qr (sg 1 [va (cGPred a0 (vs Au0 a0.Args cu0))] _ (hst.q 0 0 7) ?_)
  obtain ⟨r9, hq10, h⟩ := bs h
  refine cal ((ih k1 (by omega)).c_l36_pred hq10 hst hu0) ?_
  rintro _ _ ⟨m11, rfl, hl12, hst⟩
  obtain ⟨hb13, h⟩ := chk_some h
  refine vl (rad hb13) ?_
  obtain ⟨hb14, h⟩ := chk_some h
  refine vl (rad hb14) (s0 1 [] (nl (tn (wp_ret (tr (wr [vstr ((wx28 ++ r9) ++ wx29)] ?_))))))
  have hst := pk0 hst
  cases h
  exact ⟨_, rfl, m11, rfl, hl12, hst⟩
 refine wp_skip (tn (qr (sg 1 [va (cGPred a0 (vs Au0 a0.Args cu0))] _ (hst.q 0 0 7) ?_)))
 obtain ⟨r15, hq16, h⟩ := bs h
 refine cal ((ih k1 (by omega)).c_l36_pred hq16 hst hu0) ?_
 rintro _ _ ⟨m17, rfl, hl18, hst⟩
 refine s0 1 [] (nl (tn (wp_ret (wr [vstr r15] ?_))))
 have hst := pk0 hst
 have h := Option.some.inj h; subst h
 exact ⟨_, rfl, m17, rfl, hl18, hst⟩
theorem i_l36_pred (k : Nat) : I_l36_pred k := by
  induction k using Nat.strongRecOn with
  | ind k ih => exact ⟨s_l36_pred ih, s_l36_part ih⟩
theorem c_l36_pred {a0 : GPred} {r : Str} (h : l36_pred k a0 = some r) (hst : St g m (F) w) (hu0 : RS (TGPred) m (vs Au0 a0.Args cu0) a0.Args) :
    Calls Tryz.prog 35 ⟨[va (cGPred a0 (vs Au0 a0.Args cu0))]⟩ w (OPost (R_l36_pred g m F) r) := (i_l36_pred k).c_l36_pred h hst hu0
theorem c_l36_part {a0 : GPred} {r : Str} (h : l36_part k a0 = some r) (hst : St g m (F) w) (hu0 : RS (TGPred) m (vs Au0 a0.Args cu0) a0.Args) :
    Calls Tryz.prog 75 ⟨[va (cGPred a0 (vs Au0 a0.Args cu0))]⟩ w (OPost (R_l36_part g m F) r) := (i_l36_pred k).c_l36_part h hst hu0
abbrev R_l36_variable := RBool
theorem c_l36_variable {a0 : Str} {r : Bool} (h : l36_variable k a0 = some r) (hst : St g m (F) w) :
    Calls Tryz.prog 16 ⟨[vstr a0]⟩ w (OPost (R_l36_variable g m F) r) := by
 refine calls_enter Tryz.func16 rfl rfl ?_
 unfold l36_variable at h
 refine qr (s0 1 [vb false] (nl (tn (qr (s0 1 [] ?_)))))
 obtain ⟨r1, hq2, h⟩ := bs h
 refine cal (c_l36_word hq2 hst) ?_
 rintro _ _ ⟨m3, rfl, hl4, hst⟩
 refine s0 1 [] ?_
 rcases sp h with ⟨hc5, h⟩ | ⟨hc5, h⟩
 ·rw [hc5]
  refine s0 5 [vi ((a0).length : Int), vb (decide (((a0).length : Int) ≤ 64)), vb (decide (((a0).length : Int) ≤ 64))] ?_
  rcases sp h with ⟨hc6, h⟩ | ⟨hc6, h⟩
  ·rw [hc6]
   refine s0 1 [] ?_
   obtain ⟨r7, hq8, h⟩ := bs h
   refine cal (c_l36_reserved hq8 hst) ?_
   rintro _ _ ⟨m9, Aq11, cq11, rfl, hl10, hst, hq11⟩
   refine s0 1 [vi ((r7).length : Int)] ?_
   obtain ⟨r12, hq13, h⟩ := bs h
   refine cal (c_l36_among hq13 hst) ?_
   rintro _ _ ⟨m14, rfl, hl15, hst⟩
   refine s0 3 [vb (!r12), vb (!r12)] (nl (tn (wp_ret (wr [vb (!r12)] ?_))))
   have e16 := hl4.trans (hl10.trans hl15)
   cases h
   exact ⟨_, rfl, m14, rfl, e16, hst⟩
  rw [hc6]
  refine sk 5 (s0 2 [vb false] (nl (tn (wp_ret (wr [vb false] ?_)))))
  have h := Option.some.inj h; subst h
  exact ⟨_, rfl, m3, rfl, hl4, hst⟩
 rw [hc5]
 refine sk 3 (s0 2 [vb false] (sk 5 (s0 2 [vb false] (nl (tn (wp_ret (wr [vb false] ?_)))))))
 have h := Option.some.inj h; subst h
 exact ⟨_, rfl, m3, rfl, hl4, hst⟩
def R_l36_relations (g : World) (m : Mem) (F : List Asr) (r : List Str) (v : Value) (w' : World) : Prop := ∃ m' Av0 cv0, v = vs Av0 r cv0 ∧ m.le m' ∧ St g m' (F) w' ∧ RS (TStr) m' (vs Av0 r cv0) r
theorem c_l36_relations {r : List Str} (h : l36_relations = some r) (hst : St g m (F) w) :
    Calls Tryz.prog 83 ⟨[]⟩ w (OPost (R_l36_relations g m F) r) := by
 refine calls_enter Tryz.func83 rfl rfl ?_
 unfold l36_relations at h
 refine qr (s0 1 [vn] (nl (tn (qr (li 9 6 [vstr w_0, vstr w_parent, vstr w_ancestor, vstr w_sibling, vstr w_before, vstr w_link] hst (fun b1 _ hst => ?_))))))
 obtain ⟨m2, hl3, hst, hs4⟩ := hst.obj_slice (T := TStr) (xs := [w_0, w_parent, w_ancestor, w_sibling, w_before, w_link]) (RC.k1 rfl (RC.k1 rfl (RC.k1 rfl (RC.k1 rfl (RC.k1 rfl (RC.k1 rfl (RC.nil _ _))))))) rfl
 refine s0 1 [] (nl (tn (wp_ret (wr [.slice (some ⟨b1, 0, none⟩) 6 6] ?_))))
 cases h
 exact ⟨_, rfl, m2, (some ⟨b1, 0, none⟩), 6, rfl, hl3, hst, hs4⟩
def R_l36_aggregates (g : World) (m : Mem) (F : List Asr) (r : List Str) (v : Value) (w' : World) : Prop := ∃ m' Av0 cv0, v = vs Av0 r cv0 ∧ m.le m' ∧ St g m' (F) w' ∧ RS (TStr) m' (vs Av0 r cv0) r
theorem c_l36_aggregates {r : List Str} (h : l36_aggregates = some r) (hst : St g m (F) w) :
    Calls Tryz.prog 85 ⟨[]⟩ w (OPost (R_l36_aggregates g m F) r) := by
 refine calls_enter Tryz.func85 rfl rfl ?_
 unfold l36_aggregates at h
 refine qr (s0 1 [vn] (nl (tn (qr (li 9 9 [vstr w_0, vstr w_matches, vstr w_traces, vstr w_estimate, vstr w_sum, vstr w_least, vstr w_greatest, vstr w_quantile, vstr w_distinct] hst (fun b1 _ hst => ?_))))))
 obtain ⟨m2, hl3, hst, hs4⟩ := hst.obj_slice (T := TStr) (xs := [w_0, w_matches, w_traces, w_estimate, w_sum, w_least, w_greatest, w_quantile, w_distinct]) (RC.k1 rfl (RC.k1 rfl (RC.k1 rfl (RC.k1 rfl (RC.k1 rfl (RC.k1 rfl (RC.k1 rfl (RC.k1 rfl (RC.k1 rfl (RC.nil _ _)))))))))) rfl
 refine s0 1 [] (nl (tn (wp_ret (wr [.slice (some ⟨b1, 0, none⟩) 9 9] ?_))))
 cases h
 exact ⟨_, rfl, m2, (some ⟨b1, 0, none⟩), 9, rfl, hl3, hst, hs4⟩
abbrev R_l36_checkFirst := RInt
theorem c_l36_checkFirst {a0 : GQuery} {r : Int} (h : l36_checkFirst k a0 = some r) (hst : St g m (F) w) (hu0 : RS (TGVariable) m (vs Au0 a0.Variables cu0) a0.Variables) (hu1 : RS (TGRelation) m (vs Au1 a0.Relations cu1) a0.Relations) (hu2 : RS (TGAbsence) m (vs Au2 a0.Absences cu2) a0.Absences) (hu3 : RS (TGColumn) m (vs Au3 a0.Group cu3) a0.Group) (hu4 : RS (TGAggregate) m (vs Au4 a0.Compute cu4) a0.Compute) (hu5 : RS (TGOrderKey) m (vs Au5 a0.Order cu5) a0.Order) :
    Calls Tryz.prog 80 ⟨[va (cGQuery a0 (vs Au0 a0.Variables cu0) (vs Au1 a0.Relations cu1) (vs Au2 a0.Absences cu2) (vs Au3 a0.Group cu3) (vs Au4 a0.Compute cu4) (vs Au5 a0.Order cu5))]⟩ w (OPost (R_l36_checkFirst g m F) r) := by
 refine calls_enter Tryz.func80 rfl rfl ?_
 unfold l36_checkFirst at h
 refine qr (bo_ (cGQuery a0 (vs Au0 a0.Variables cu0) (vs Au1 a0.Relations cu1) (vs Au2 a0.Absences cu2) (vs Au3 a0.Group cu3) (vs Au4 a0.Compute cu4) (vs Au5 a0.Order cu5)) hst (fun b1 _ hst => ?_))
 refine s0 1 [vi 0] (nl (tn (sq (qr (sg 4 [vp b1 0, vs Au0 a0.Variables cu0, vi ((a0.Variables).length : Int), vb (((a0.Variables).length : Int) == 0)] _ (hst.q 0 0 1) (nl (tn (cn h (fun h => ?_) (fun h => ?_)))))))))
 ·refine qr (s0 1 [vi 7] (nl (tn (wp_ret (tr (wr [vi 7] ?_))))))
  have hst := pk0 hst
  have h := Option.some.inj h; subst h
  exact ⟨_, rfl, m, rfl, (Mem.le.refl _), hst⟩
 refine wp_skip (tn (sq (qr (s0 1 [vi 0] (nl (tn (bk (wc_loop (fun kk a w => ∃ f0 m222 x174, a = act Tryz.f80.ntmps (upds f0 [(1, vp b1 0), (2, vi 0), (3, vi x174)]) ∧ kk ≤ k ∧ l36_checkFirst_l1 kk a0 x174 = some r ∧ m.le m222 ∧ St g m222 (oo b1 36 (cGQuery a0 (vs Au0 a0.Variables cu0) (vs Au1 a0.Relations cu1) (vs Au2 a0.Absences cu2) (vs Au3 a0.Group cu3) (vs Au4 a0.Compute cu4) (vs Au5 a0.Order cu5)) :: F) w) k ?_ ?_))))))))
 ·exact ⟨_, m, (0), au, (Nat.le_refl _), h, (Mem.le.refl _), hst⟩
 rintro k220 ih221 _ _ ⟨f0, m222, x174, rfl, hk219, h, hl218, hst⟩
 obtain _ | k224 := k220
 ·simp [l36_checkFirst_l1] at h
 rw [l36_checkFirst_l1] at h
 refine sq (qr (sg 5 [vp b1 0, vs Au0 a0.Variables cu0, vi ((a0.Variables).length : Int), vb (decide (x174 < ((a0.Variables).length : Int)))] _ (hst.q 0 0 1) (nl (tn (cn h (fun h => ?_) (fun h => ?_))))))
 ·refine wp_skip (tn (sq (bk (sq (qr (sg 3 [vp b1 0, vs Au0 a0.Variables cu0] _ (hst.q 0 0 1) ?_))))))
  obtain ⟨x240, hx241, h⟩ := ix h
  obtain ⟨b242, o243, cs244, hR245, hA246, hI247⟩ := RS.ix (P := Tryz.prog) (RS.mono hl218 hu0) hx241
  obtain ⟨Aq248, cq248, rfl, hq248⟩ := TGVariable.opn hR245
  refine vl (hI247.r .i64) (sg 2 [vp b242 o243, vstr x240.Name] _ (hst.f hA246 0 1) ?_)
  obtain ⟨r249, hq250, h⟩ := bs h
  refine cal (c_l36_variable hq250 hst) ?_
  rintro _ _ ⟨m251, rfl, hl252, hst⟩
  refine s0 1 [vb (!r249)] (nl (tn (cn h (fun h => ?_) (fun h => ?_))))
  ·refine qr (s0 1 [vi 11] (nl (tn (wp_ret (tr (br (tr (tr (br (tr (wr [vi 11] ?_)))))))))))
   have hst := pk0 hst
   have e253 := hl218.trans hl252
   have h := Option.some.inj h; subst h
   exact ⟨_, rfl, m251, rfl, e253, hst⟩
  refine wp_skip (tn (qr (sg 3 [vp b1 0, vs Au0 a0.Variables cu0] _ (hst.q 0 0 1) ?_)))
  obtain ⟨x255, hx256, h⟩ := ix h
  have e263 := hl218.trans hl252
  obtain ⟨b257, o258, cs259, hR260, hA261, hI262⟩ := RS.ix (P := Tryz.prog) (RS.mono e263 hu0) hx256
  obtain ⟨Aq264, cq264, rfl, hq264⟩ := TGVariable.opn hR260
  refine vl (hI262.r .i64) (sg 2 [vp b257 (o258 + 1), va (cGPred x255.Where (vs Aq264 x255.Where.Args cq264))] _ (hst.f hA261 1 7) ?_)
  obtain ⟨r265, hq266, h⟩ := bs h
  refine cal (c_l36_checkPred hq266 hst hq264) ?_
  rintro _ _ ⟨m267, rfl, hl268, hst⟩
  refine s0 1 [] (nl (tn (qr (s0 2 [vb (r265 != 0)] (nl (tn (cn h (fun h => ?_) (fun h => ?_))))))))
  ·refine qr (s0 2 [] (nl (tn (wp_ret (br (tr (tr (br (tr (wr [vi r265] ?_))))))))))
   have hst := pk0 hst
   have e269 := e263.trans hl268
   have h := Option.some.inj h; subst h
   exact ⟨_, rfl, m267, rfl, e269, hst⟩
  refine wp_skip (bn (tn (rg (s0 3 [vi (w64 (x174 + 1))] (nl (tn ?_))))))
  have e270 := e263.trans hl268
  exact ih221 k224 (by omega) _ _ ⟨_, m267, (w64 (x174 + 1)), au, (by omega), h, e270, hst⟩
 refine wp_exit (tx (tx (bx (tn (sq (qr (s0 1 [vi 0] (nl (tn (bk (wc_loop (fun kk a w => ∃ f0 m431 x395, a = act Tryz.f80.ntmps (upds f0 [(1, vp b1 0), (2, vi 0), (5, vi x395)]) ∧ kk ≤ k224 ∧ l36_checkFirst_l7 kk a0 x395 = some r ∧ m222.le m431 ∧ St g m431 (oo b1 36 (cGQuery a0 (vs Au0 a0.Variables cu0) (vs Au1 a0.Relations cu1) (vs Au2 a0.Absences cu2) (vs Au3 a0.Group cu3) (vs Au4 a0.Compute cu4) (vs Au5 a0.Order cu5)) :: F) w) k224 ?_ ?_)))))))))))
 ·exact ⟨_, m222, (0), au, (Nat.le_refl _), h, (Mem.le.refl _), hst⟩
 rintro k429 ih430 _ _ ⟨f0, m431, x395, rfl, hk428, h, hl427, hst⟩
 obtain _ | k433 := k429
 ·simp [l36_checkFirst_l7] at h
 rw [l36_checkFirst_l7] at h
 refine sq (qr (sg 5 [vp b1 1, vs Au1 a0.Relations cu1, vi ((a0.Relations).length : Int), vb (decide (x395 < ((a0.Relations).length : Int)))] _ (hst.q 0 1 1) (nl (tn (cn h (fun h => ?_) (fun h => ?_))))))
 ·refine wp_skip (tn (sq (bk (qr (sg 3 [vp b1 1, vs Au1 a0.Relations cu1] _ (hst.q 0 1 1) ?_)))))
  obtain ⟨x435, hx436, h⟩ := ix h
  have e443 := hl218.trans hl427
  obtain ⟨b437, o438, cs439, hR440, hA441, hI442⟩ := RS.ix (P := Tryz.prog) (RS.mono e443 hu1) hx436
  obtain rfl := TGRelation.open_ hR440
  refine vl (hI442.r .i64) (sg 1 [va (cGRelation x435)] _ (hst.f hA441 0 3) (al [vi 0, vstr w_0, vstr w_0] hst (fun b444 _ hst => ?_)))
  refine so0 0 (cGRelation x435) hst (fun _ hst => ?_)
  refine nl (tn (sq (wc_join (fun a w => ∃ f0 k451 m453 x447 x448 x449, a = act Tryz.f80.ntmps (upds f0 [(1, vp b1 0), (2, vi 0), (5, vi x395), (6, vp b444 0), (39, vi x395), (40, vp b1 1), (41, vs Au1 a0.Relations cu1), (42, vi ((a0.Relations).length : Int)), (43, vb (decide (x395 < ((a0.Relations).length : Int)))), (46, vp b1 1), (47, vs Au1 a0.Relations cu1), (48, vi x395), (50, va (cGRelation x435)), (51, vp b444 0), (52, vi x435.Kind), (53, vb x447), (54, vb x448), (58, vb x449)]) ∧ k451 ≤ k433 ∧ l36_checkFirst_j8 k451 a0 x395 x435 x449 = some r ∧ m431.le m453 ∧ St g m453 (oo b444 104 (cGRelation x435) :: oo b1 36 (cGQuery a0 (vs Au0 a0.Variables cu0) (vs Au1 a0.Relations cu1) (vs Au2 a0.Absences cu2) (vs Au3 a0.Group cu3) (vs Au4 a0.Compute cu4) (vs Au5 a0.Order cu5)) :: F) w) ?_ ?_)))
  ·rintro _ _ ⟨f0, k451, m453, x447, x448, x449, rfl, hk452, h, hl450, hst⟩
   obtain _ | k454 := k451
   ·simp [l36_checkFirst_j8] at h
   rw [l36_checkFirst_j8] at h
   refine cn h (fun h => ?_) (fun h => ?_)
   ·refine qr (s0 1 [vi 12] (nl (tn (wp_ret (tr (br (tr (tr (br (tr (wr [vi 12] ?_)))))))))))
    have hst := pk2 hst
    have e455 := e443.trans hl450
    have h := Option.some.inj h; subst h
    exact ⟨_, rfl, m453, rfl, e455, hst⟩
   refine wp_skip (tn (qr (sg 2 [vp b444 1, vstr x435.A] _ (hst.q 0 1 1) ?_)))
   obtain ⟨r456, hq457, h⟩ := bs h
   refine cal (c_l36_variable hq457 hst) ?_
   rintro _ _ ⟨m458, rfl, hl459, hst⟩
   refine s0 2 [vb (!r456)] ?_
   rcases sp h with ⟨hc460, h⟩ | ⟨hc460, h⟩
   ·rw [hc460]
    refine sk 4 (s0 1 [vb true] (nl (tn (ct (qr (s0 1 [vi 11] (nl (tn (wp_ret (br (tr (tr (br (tr (wr [vi 11] ?_)))))))))))))))
    have hst := pk2 hst
    have e461 := e443.trans (hl450.trans hl459)
    have h := Option.some.inj h; subst h
    exact ⟨_, rfl, m458, rfl, e461, hst⟩
   rw [hc460]
   refine sg 2 [vp b444 2, vstr x435.B] _ (hst.q 0 2 1) ?_
   obtain ⟨r462, hq463, h⟩ := bs h
   refine cal (c_l36_variable hq463 hst) ?_
   rintro _ _ ⟨m464, rfl, hl465, hst⟩
   refine s0 2 [vb (!r462), vb (!r462)] (nl (tn (cn h (fun h => ?_) (fun h => ?_))))
   ·refine qr (s0 1 [vi 11] (nl (tn (wp_ret (br (tr (tr (br (tr (wr [vi 11] ?_))))))))))
    have hst := pk2 hst
    have e466 := e443.trans (hl450.trans (hl459.trans hl465))
    have h := Option.some.inj h; subst h
    exact ⟨_, rfl, m464, rfl, e466, hst⟩
   refine wp_skip (bn (tn (rg (s0 3 [vi (w64 (x395 + 1))] (nl (tn ?_))))))
   have e467 := hl427.trans (hl450.trans (hl459.trans hl465))
   have hst := pk0 hst
   exact ih430 k454 (by omega) _ _ ⟨_, m464, (w64 (x395 + 1)), au, (by omega), h, e467, hst⟩
  refine rg (sg 4 [vp b444 0, vi x435.Kind, vb (decide (x435.Kind < 1))] _ (hst.q 0 0 1) ?_)
  rcases sp h with ⟨hc468, h⟩ | ⟨hc468, h⟩
  ·rw [hc468]
   refine sk 3 (s0 1 [vb true] (nl (tn ?_)))
   exact ⟨_, k433, m431, (true), (true), (true), au, (by omega), h, (Mem.le.refl _), hst⟩
  rw [hc468]
  refine sg 4 [vp b444 0, vi x435.Kind, vb (decide (x435.Kind > 5)), vb (decide (x435.Kind > 5))] _ (hst.q 0 0 1) (nl (tn ?_))
  exact ⟨_, k433, m431, (false), (false), (decide (x435.Kind > 5)), au, (by omega), h, (Mem.le.refl _), hst⟩
 refine wp_exit (tx (tx (bx (tn (sq (qr (s0 1 [vi 0] (nl (tn (bk (wc_loop (fun kk a w => ∃ f0 m560 x512, a = act Tryz.f80.ntmps (upds f0 [(1, vp b1 0), (2, vi 0), (7, vi x512)]) ∧ kk ≤ k433 ∧ l36_checkFirst_l11 kk a0 x512 = some r ∧ m431.le m560 ∧ St g m560 (oo b1 36 (cGQuery a0 (vs Au0 a0.Variables cu0) (vs Au1 a0.Relations cu1) (vs Au2 a0.Absences cu2) (vs Au3 a0.Group cu3) (vs Au4 a0.Compute cu4) (vs Au5 a0.Order cu5)) :: F) w) k433 ?_ ?_)))))))))))
 ·exact ⟨_, m431, (0), au, (Nat.le_refl _), h, (Mem.le.refl _), hst⟩
 rintro k558 ih559 _ _ ⟨f0, m560, x512, rfl, hk557, h, hl556, hst⟩
 obtain _ | k562 := k558
 ·simp [l36_checkFirst_l11] at h
 rw [l36_checkFirst_l11] at h
 refine sq (qr (sg 5 [vp b1 2, vs Au2 a0.Absences cu2, vi ((a0.Absences).length : Int), vb (decide (x512 < ((a0.Absences).length : Int)))] _ (hst.q 0 2 1) (nl (tn (cn h (fun h => ?_) (fun h => ?_))))))
 ·refine wp_skip (tn (sq (bk (qr (sg 3 [vp b1 2, vs Au2 a0.Absences cu2] _ (hst.q 0 2 1) ?_)))))
  obtain ⟨x564, hx565, h⟩ := ix h
  have e572 := hl218.trans (hl427.trans hl556)
  obtain ⟨b566, o567, cs568, hR569, hA570, hI571⟩ := RS.ix (P := Tryz.prog) (RS.mono e572 hu2) hx565
  obtain ⟨Aq573, cq573, rfl, hq573⟩ := TGAbsence.opn hR569
  refine vl (hI571.r .i64) (sg 1 [va (cGAbsence x564 (vs Aq573 x564.Variable.Where.Args cq573))] _ (hst.f hA570 0 11) (al [vstr w_0, vi 0, vstr w_0, vstr w_0, vi 0, vstr w_0, vi 0, vn, vi 0, vstr w_0, vb false] hst (fun b574 _ hst => ?_)))
  refine so0 0 (cGAbsence x564 (vs Aq573 x564.Variable.Where.Args cq573)) hst (fun _ hst => ?_)
  refine nl (tn (sq (qr (sg 3 [vp b574 0, vp b574 0, vstr x564.Variable.Name] _ (hst.q 0 0 1) ?_))))
  obtain ⟨r579, hq580, h⟩ := bs h
  refine cal (c_l36_variable hq580 hst) ?_
  rintro _ _ ⟨m581, rfl, hl582, hst⟩
  refine s0 1 [vb (!r579)] (nl (tn (cn h (fun h => ?_) (fun h => ?_))))
  ·refine qr (s0 1 [vi 11] (nl (tn (wp_ret (tr (br (tr (tr (br (tr (wr [vi 11] ?_)))))))))))
   have hst := pk2 hst
   have e583 := e572.trans hl582
   have h := Option.some.inj h; subst h
   exact ⟨_, rfl, m581, rfl, e583, hst⟩
  refine wp_skip (tn (sq (qr (sg 3 [vp b574 0, vp b574 1, va (cGPred x564.Variable.Where (vs Aq573 x564.Variable.Where.Args cq573))] _ (hst.q 0 1 7) ?_))))
  obtain ⟨r588, hq589, h⟩ := bs h
  refine cal (c_l36_checkPred hq589 hst (RS.mono hl582 hq573)) ?_
  rintro _ _ ⟨m590, rfl, hl591, hst⟩
  refine s0 1 [] (nl (tn (qr (s0 2 [vb (r588 != 0)] (nl (tn (cn h (fun h => ?_) (fun h => ?_))))))))
  ·refine qr (s0 2 [] (nl (tn (wp_ret (tr (br (tr (tr (br (tr (wr [vi r588] ?_)))))))))))
   have hst := pk2 hst
   have e592 := e572.trans (hl582.trans hl591)
   have h := Option.some.inj h; subst h
   exact ⟨_, rfl, m590, rfl, e592, hst⟩
  refine wp_skip (tn (sq (wc_join (fun a w => ∃ f0 k598 m600 x594 x595 x596, a = act Tryz.f80.ntmps (upds f0 [(1, vp b1 0), (2, vi 0), (7, vi x512), (8, vp b574 0), (9, vi r588), (69, vi x512), (70, vp b1 2), (71, vs Au2 a0.Absences cu2), (72, vi ((a0.Absences).length : Int)), (73, vb (decide (x512 < ((a0.Absences).length : Int)))), (76, vp b1 2), (77, vs Au2 a0.Absences cu2), (78, vi x512), (80, va (cGAbsence x564 (vs Aq573 x564.Variable.Where.Args cq573))), (81, vp b574 0), (82, vp b574 0), (83, vstr x564.Variable.Name), (84, vb r579), (85, vb (!r579)), (86, vp b574 0), (87, vp b574 1), (88, va (cGPred x564.Variable.Where (vs Aq573 x564.Variable.Where.Args cq573))), (89, vi r588), (90, vi r588), (91, vb (r588 != 0)), (93, vp b574 8), (94, vi x564.Kind), (95, vb x594), (96, vb x595), (100, vb x596)]) ∧ k598 ≤ k562 ∧ l36_checkFirst_j12 k598 a0 x512 x564 x596 = some r ∧ m590.le m600 ∧ St g m600 (oo b574 106 (cGAbsence x564 (vs Aq573 x564.Variable.Where.Args cq573)) :: oo b1 36 (cGQuery a0 (vs Au0 a0.Variables cu0) (vs Au1 a0.Relations cu1) (vs Au2 a0.Absences cu2) (vs Au3 a0.Group cu3) (vs Au4 a0.Compute cu4) (vs Au5 a0.Order cu5)) :: F) w) ?_ ?_)))
  ·rintro _ _ ⟨f0, k598, m600, x594, x595, x596, rfl, hk599, h, hl597, hst⟩
   obtain _ | k601 := k598
   ·simp [l36_checkFirst_j12] at h
   rw [l36_checkFirst_j12] at h
   refine cn h (fun h => ?_) (fun h => ?_)
   ·refine qr (s0 1 [vi 12] (nl (tn (wp_ret (tr (br (tr (tr (br (tr (wr [vi 12] ?_)))))))))))
    have hst := pk2 hst
    have e602 := e572.trans (hl582.trans (hl591.trans hl597))
    have h := Option.some.inj h; subst h
    exact ⟨_, rfl, m600, rfl, e602, hst⟩
   refine wp_skip (tn (qr (sg 2 [vp b574 9, vstr x564.Other] _ (hst.q 0 9 1) ?_)))
   obtain ⟨r603, hq604, h⟩ := bs h
   refine cal (c_l36_variable hq604 hst) ?_
   rintro _ _ ⟨m605, rfl, hl606, hst⟩
   refine s0 1 [vb (!r603)] (nl (tn (cn h (fun h => ?_) (fun h => ?_))))
   ·refine qr (s0 1 [vi 11] (nl (tn (wp_ret (br (tr (tr (br (tr (wr [vi 11] ?_))))))))))
    have hst := pk2 hst
    have e607 := e572.trans (hl582.trans (hl591.trans (hl597.trans hl606)))
    have h := Option.some.inj h; subst h
    exact ⟨_, rfl, m605, rfl, e607, hst⟩
   refine wp_skip (bn (tn (rg (s0 3 [vi (w64 (x512 + 1))] (nl (tn ?_))))))
   have e608 := hl556.trans (hl582.trans (hl591.trans (hl597.trans hl606)))
   have hst := pk0 hst
   exact ih559 k601 (by omega) _ _ ⟨_, m605, (w64 (x512 + 1)), au, (by omega), h, e608, hst⟩
  refine rg (sg 4 [vp b574 8, vi x564.Kind, vb (decide (x564.Kind < 1))] _ (hst.q 0 8 1) ?_)
  rcases sp h with ⟨hc609, h⟩ | ⟨hc609, h⟩
  ·rw [hc609]
   refine sk 3 (s0 1 [vb true] (nl (tn ?_)))
   exact ⟨_, k562, m590, (true), (true), (true), au, (by omega), h, (Mem.le.refl _), hst⟩
  rw [hc609]
  refine sg 4 [vp b574 8, vi x564.Kind, vb (decide (x564.Kind > 5)), vb (decide (x564.Kind > 5))] _ (hst.q 0 8 1) (nl (tn ?_))
  exact ⟨_, k562, m590, (false), (false), (decide (x564.Kind > 5)), au, (by omega), h, (Mem.le.refl _), hst⟩
 refine wp_exit (tx (tx (bx (tn (qr (s0 1 [vi 0] (nl (tn (wp_ret (wr [vi 0] ?_))))))))))
 have hst := pk0 hst
 have e610 := hl218.trans (hl427.trans hl556)
 have h := Option.some.inj h; subst h
 exact ⟨_, rfl, m560, rfl, e610, hst⟩
abbrev R_l36_checkColumn := RInt
theorem c_l36_checkColumn {a0 : GColumn} {r : Int} (h : l36_checkColumn k a0 = some r) (hst : St g m (F) w) :
    Calls Tryz.prog 81 ⟨[va (cGColumn a0)]⟩ w (OPost (R_l36_checkColumn g m F) r) := by
 refine calls_enter Tryz.func81 rfl rfl ?_
 unfold l36_checkColumn at h
 refine qr (bo_ (cGColumn a0) hst (fun b1 _ hst => ?_))
 refine s0 1 [vi 0] (nl (tn (sq (qr (sg 2 [vp b1 0, vstr a0.Var] _ (hst.q 0 0 1) ?_)))))
 obtain ⟨r2, hq3, h⟩ := bs h
 refine cal (c_l36_variable hq3 hst) ?_
 rintro _ _ ⟨m4, rfl, hl5, hst⟩
 refine s0 2 [vb (!r2)] ?_
 rcases sp h with ⟨hc6, h⟩ | ⟨hc6, h⟩
 ·rw [hc6]
  refine sk 19 (s0 1 [vb true] (nl (tn (ct (qr (s0 1 [vi 11] (nl (tn (wp_ret (tr (wr [vi 11] ?_)))))))))))
  have hst := pk0 hst
  have h := Option.some.inj h; subst h
  exact ⟨_, rfl, m4, rfl, hl5, hst⟩
 rw [hc6]
 refine sg 2 [vp b1 1, vstr a0.Field] _ (hst.q 0 1 1) ?_
 obtain ⟨r7, hq8, h⟩ := bs h
 refine cal (c_l36_field hq8 hst) ?_
 rintro _ _ ⟨m9, rfl, hl10, hst⟩
 refine s0 1 [] ?_
 rcases sp h with ⟨hc11, h⟩ | ⟨hc11, h⟩
 ·rw [hc11]
  refine sg 2 [vp b1 2, vstr a0.Key] _ (hst.q 0 2 1) (vl (re a0.Key w_0) (s0 2 [vb (a0.Key == w_0)] ?_))
  rcases sp h with ⟨hc12, h⟩ | ⟨hc12, h⟩
  ·rw [hc12]
   refine sk 8 (s0 3 [vb true, vb false, vb false] (nl (tn (cf (wp_skip (tn (qr (s0 1 [vi 0] (nl (tn (wp_ret (wr [vi 0] ?_))))))))))))
   have hst := pk0 hst
   have e13 := hl5.trans hl10
   have h := Option.some.inj h; subst h
   exact ⟨_, rfl, m9, rfl, e13, hst⟩
  rw [hc12]
  refine sg 2 [vp b1 1, vstr a0.Field] _ (hst.q 0 1 1) (vl (re a0.Field w_attr) (s0 1 [] ?_))
  rcases sp h with ⟨hc14, h⟩ | ⟨hc14, h⟩
  ·rw [hc14]
   refine sg 2 [vp b1 2, vstr a0.Key] _ (hst.q 0 2 1) ?_
   obtain ⟨r15, hq16, h⟩ := bs h
   refine cal (c_attribute_IsName hq16 hst) ?_
   rintro _ _ ⟨m17, rfl, hl18, hst⟩
   refine s0 4 [vb r15, vb r15, vb (!r15), vb (!r15)] (nl (tn (cn h (fun h => ?_) (fun h => ?_))))
   ·refine qr (s0 1 [vi 11] (nl (tn (wp_ret (tr (wr [vi 11] ?_))))))
    have hst := pk0 hst
    have e19 := hl5.trans (hl10.trans hl18)
    have h := Option.some.inj h; subst h
    exact ⟨_, rfl, m17, rfl, e19, hst⟩
   refine wp_skip (tn (qr (s0 1 [vi 0] (nl (tn (wp_ret (wr [vi 0] ?_)))))))
   have hst := pk0 hst
   have e20 := hl5.trans (hl10.trans hl18)
   have h := Option.some.inj h; subst h
   exact ⟨_, rfl, m17, rfl, e20, hst⟩
  rw [hc14]
  refine sk 3 (s0 4 [vb false, vb false, vb true, vb true] (nl (tn (ct (qr (s0 1 [vi 11] (nl (tn (wp_ret (tr (wr [vi 11] ?_)))))))))))
  have hst := pk0 hst
  have e21 := hl5.trans hl10
  have h := Option.some.inj h; subst h
  exact ⟨_, rfl, m9, rfl, e21, hst⟩
 rw [hc11]
 refine sk 3 (sg 4 [vb false, vp b1 1, vstr a0.Field] _ (hst.q 0 1 1) (vl (re a0.Field w_attr) (s0 1 [] ?_)))
 rcases sp h with ⟨hc22, h⟩ | ⟨hc22, h⟩
 ·rw [hc22]
  refine sg 2 [vp b1 2, vstr a0.Key] _ (hst.q 0 2 1) ?_
  obtain ⟨r23, hq24, h⟩ := bs h
  refine cal (c_attribute_IsName hq24 hst) ?_
  rintro _ _ ⟨m25, rfl, hl26, hst⟩
  refine s0 4 [vb r23, vb r23, vb (!r23), vb (!r23)] (nl (tn (cn h (fun h => ?_) (fun h => ?_))))
  ·refine qr (s0 1 [vi 11] (nl (tn (wp_ret (tr (wr [vi 11] ?_))))))
   have hst := pk0 hst
   have e27 := hl5.trans (hl10.trans hl26)
   have h := Option.some.inj h; subst h
   exact ⟨_, rfl, m25, rfl, e27, hst⟩
  refine wp_skip (tn (qr (s0 1 [vi 0] (nl (tn (wp_ret (wr [vi 0] ?_)))))))
  have hst := pk0 hst
  have e28 := hl5.trans (hl10.trans hl26)
  have h := Option.some.inj h; subst h
  exact ⟨_, rfl, m25, rfl, e28, hst⟩
 rw [hc22]
 refine sk 3 (s0 4 [vb false, vb false, vb true, vb true] (nl (tn (ct (qr (s0 1 [vi 11] (nl (tn (wp_ret (tr (wr [vi 11] ?_)))))))))))
 have hst := pk0 hst
 have e29 := hl5.trans hl10
 have h := Option.some.inj h; subst h
 exact ⟨_, rfl, m9, rfl, e29, hst⟩
abbrev R_l36_checkAggregate := RInt
theorem c_l36_checkAggregate {a0 : GAggregate} {r : Int} (h : l36_checkAggregate k a0 = some r) (hst : St g m (F) w) :
    Calls Tryz.prog 82 ⟨[va (cGAggregate a0)]⟩ w (OPost (R_l36_checkAggregate g m F) r) := by
 refine calls_enter Tryz.func82 rfl rfl ?_
 unfold l36_checkAggregate at h
 refine qr (bo_ (cGAggregate a0) hst (fun b1 _ hst => ?_))
 refine s0 1 [vi 0] (nl (tn (sq (wc_join (fun a w => ∃ f0 k6 m8 x4, a = act Tryz.f82.ntmps (upds f0 [(1, vp b1 0), (2, vi 0), (11, vb x4)]) ∧ k6 ≤ k ∧ l36_checkAggregate_j1 k6 a0 x4 = some r ∧ m.le m8 ∧ St g m8 (oo b1 110 (cGAggregate a0) :: F) w) ?_ ?_))))
 ·rintro _ _ ⟨f0, k6, m8, x4, rfl, hk7, h, hl5, hst⟩
  unfold l36_checkAggregate_j1 at h
  refine cn h (fun h => ?_) (fun h => ?_)
  ·refine qr (s0 1 [vi 12] (nl (tn (wp_ret (tr (wr [vi 12] ?_))))))
   have hst := pk0 hst
   have h := Option.some.inj h; subst h
   exact ⟨_, rfl, m8, rfl, hl5, hst⟩
  refine wp_skip (tn (qr (s0 1 [va [vstr w_0, vstr w_0, vstr w_0]] (al [vstr w_0, vstr w_0, vstr w_0] hst (fun b9 _ hst => ?_)))))
  refine so0 0 [vstr w_0, vstr w_0, vstr w_0] hst (fun _ hst => ?_)
  refine nl (tn (wc_join (fun a w => ∃ f0 k15 m17, a = act Tryz.f82.ntmps (upds f0 [(1, vp b1 0), (2, vi 0)]) ∧ k15 ≤ k6 ∧ l36_checkAggregate_j2 k15 a0 = some r ∧ m8.le m17 ∧ St g m17 (oo b9 101 [vstr w_0, vstr w_0, vstr w_0] :: oo b1 110 (cGAggregate a0) :: F) w) ?_ ?_))
  ·rintro _ _ ⟨f0, k15, m17, rfl, hk16, h, hl14, hst⟩
   unfold l36_checkAggregate_j2 at h
   have hst := pk0 hst
   refine wc_join (fun a w => ∃ f0 m26, a = act Tryz.f82.ntmps (upds f0 [(1, vp b1 0), (2, vi 0)]) ∧ l36_checkAggregate_j3 a0 = some r ∧ m17.le m26 ∧ St g m26 (oo b1 110 (cGAggregate a0) :: F) w) ?_ ?_
   ·rintro _ _ ⟨f0, m26, rfl, h, hl23, hst⟩
    unfold l36_checkAggregate_j3 at h
    refine sq (qr (sg 4 [vp b1 0, vi a0.Kind, vb (a0.Kind == 7)] _ (hst.q 0 0 1) ?_))
    rcases sp h with ⟨hc27, h⟩ | ⟨hc27, h⟩
    ·rw [hc27]
     refine sg 5 [vp b1 4, vp b1 4, vi a0.Q.Num, vb (decide (a0.Q.Num < 0))] _ (hst.q 0 4 1) ?_
     rcases sp h with ⟨hc28, h⟩ | ⟨hc28, h⟩
     ·rw [hc28]
      refine sk 4 (s0 2 [vb true] (sk 4 (s0 2 [vb true] (sk 4 (s0 2 [vb true, vb true] (nl (tn (ct (qr (s0 1 [vi 2] (nl (tn (wp_ret (tr (wr [vi 2] ?_)))))))))))))))
      have hst := pk0 hst
      have e29 := hl5.trans (hl14.trans hl23)
      have h := Option.some.inj h; subst h
      exact ⟨_, rfl, m26, rfl, e29, hst⟩
     rw [hc28]
     refine sg 6 [vp b1 4, vp b1 4, vi a0.Q.Num, vb (decide (a0.Q.Num > 1048576)), vb (decide (a0.Q.Num > 1048576))] _ (hst.q 0 4 1) ?_
     rcases sp h with ⟨hc30, h⟩ | ⟨hc30, h⟩
     ·rw [hc30]
      refine sk 4 (s0 2 [vb true] (sk 4 (s0 2 [vb true, vb true] (nl (tn (ct (qr (s0 1 [vi 2] (nl (tn (wp_ret (tr (wr [vi 2] ?_)))))))))))))
      have hst := pk0 hst
      have e31 := hl5.trans (hl14.trans hl23)
      have h := Option.some.inj h; subst h
      exact ⟨_, rfl, m26, rfl, e31, hst⟩
     rw [hc30]
     refine sg 6 [vp b1 4, vp b1 5, vi a0.Q.Den, vb (decide (a0.Q.Den < 1)), vb (decide (a0.Q.Den < 1))] _ (hst.q 0 5 1) ?_
     rcases sp h with ⟨hc32, h⟩ | ⟨hc32, h⟩
     ·rw [hc32]
      refine sk 4 (s0 2 [vb true, vb true] (nl (tn (ct (qr (s0 1 [vi 2] (nl (tn (wp_ret (tr (wr [vi 2] ?_)))))))))))
      have hst := pk0 hst
      have e33 := hl5.trans (hl14.trans hl23)
      have h := Option.some.inj h; subst h
      exact ⟨_, rfl, m26, rfl, e33, hst⟩
     rw [hc32]
     refine sg 6 [vp b1 4, vp b1 5, vi a0.Q.Den, vb (decide (a0.Q.Den > 1048576)), vb (decide (a0.Q.Den > 1048576)), vb (decide (a0.Q.Den > 1048576))] _ (hst.q 0 5 1) (nl (tn (cn h (fun h => ?_) (fun h => ?_))))
     ·refine qr (s0 1 [vi 2] (nl (tn (wp_ret (tr (wr [vi 2] ?_))))))
      have hst := pk0 hst
      have e34 := hl5.trans (hl14.trans hl23)
      have h := Option.some.inj h; subst h
      exact ⟨_, rfl, m26, rfl, e34, hst⟩
     refine wp_skip (tn (qr (s0 1 [vi 0] (nl (tn (wp_ret (wr [vi 0] ?_)))))))
     have hst := pk0 hst
     have e35 := hl5.trans (hl14.trans hl23)
     have h := Option.some.inj h; subst h
     exact ⟨_, rfl, m26, rfl, e35, hst⟩
    rw [hc27]
    refine sk 22 (s0 1 [vb false] (nl (tn (cf (wp_skip (tn (qr (s0 1 [vi 0] (nl (tn (wp_ret (wr [vi 0] ?_))))))))))))
    have hst := pk0 hst
    have e36 := hl5.trans (hl14.trans hl23)
    have h := Option.some.inj h; subst h
    exact ⟨_, rfl, m26, rfl, e36, hst⟩
   refine qr (sg 4 [vp b1 0, vi a0.Kind, vb (decide (a0.Kind > 3))] _ (hst.q 0 0 1) ?_)
   rcases sp h with ⟨hc37, h⟩ | ⟨hc37, h⟩
   ·rw [hc37]
    refine sg 2 [vp b1 1, va (cGColumn a0.Column)] _ (hst.q 0 1 3) ?_
    obtain ⟨r38, hq39, h⟩ := bs h
    refine cal (c_l36_checkColumn hq39 hst) ?_
    rintro _ _ ⟨m40, rfl, hl41, hst⟩
    refine s0 2 [vb (r38 != 0), vb (r38 != 0)] (nl (tn (cn h (fun h => ?_) (fun h => ?_))))
    ·refine qr (s0 1 [vi 11] (nl (tn (wp_ret (tr (wr [vi 11] ?_))))))
     have hst := pk0 hst
     have e42 := hl5.trans (hl14.trans hl41)
     have h := Option.some.inj h; subst h
     exact ⟨_, rfl, m40, rfl, e42, hst⟩
    refine wp_skip (tn ?_)
    exact ⟨_, m40, au, h, hl41, hst⟩
   rw [hc37]
   refine sk 4 (s0 1 [vb false] (nl (tn (cf (wp_skip (tn ?_))))))
   exact ⟨_, m17, au, h, (Mem.le.refl _), hst⟩
  refine qr (sg 4 [vp b1 0, vi a0.Kind, vb (decide (a0.Kind ≤ 3))] _ (hst.q 1 0 1) ?_)
  rcases sp h with ⟨hc43, h⟩ | ⟨hc43, h⟩
  ·rw [hc43]
   refine sg 3 [vp b1 1, va (cGColumn a0.Column), va [vstr w_0, vstr w_0, vstr w_0]] _ (AllC.app (hst.q 1 1 3) (hst.q 0 0 3)) (vl (ran ((a0.Column.Var == w_0) && ((a0.Column.Field == w_0) && ((a0.Column.Key == w_0) && true))) (cGColumn a0.Column) [vstr w_0, vstr w_0, vstr w_0]) (s0 2 [vb (!((a0.Column.Var == w_0) && ((a0.Column.Field == w_0) && ((a0.Column.Key == w_0) && true))))] ?_))
   rcases sp h with ⟨hc44, h⟩ | ⟨hc44, h⟩
   ·rw [hc44]
    refine sk 13 (s0 1 [vb true] (nl (tn (ct (qr (s0 1 [vi 3] (nl (tn (wp_ret (tr (wr [vi 3] ?_)))))))))))
    have hst := pk2 hst
    have h := Option.some.inj h; subst h
    exact ⟨_, rfl, m8, rfl, hl5, hst⟩
   rw [hc44]
   refine sg 4 [vp b1 0, vi a0.Kind, vb (a0.Kind != 7)] _ (hst.q 1 0 1) ?_
   rcases sp h with ⟨hc45, h⟩ | ⟨hc45, h⟩
   ·rw [hc45]
    refine sg 10 [vp b1 4, vp b1 4, vi a0.Q.Num, vp b1 4, vp b1 5, vi a0.Q.Den, vi (orI .i64 a0.Q.Num a0.Q.Den), vb ((orI .i64 a0.Q.Num a0.Q.Den) != 0), vb ((orI .i64 a0.Q.Num a0.Q.Den) != 0), vb ((orI .i64 a0.Q.Num a0.Q.Den) != 0)] _ (hst.q 1 4 2) (nl (tn (cn h (fun h => ?_) (fun h => ?_))))
    ·refine qr (s0 1 [vi 3] (nl (tn (wp_ret (tr (wr [vi 3] ?_))))))
     have hst := pk2 hst
     have h := Option.some.inj h; subst h
     exact ⟨_, rfl, m8, rfl, hl5, hst⟩
    refine wp_skip (tn ?_)
    exact ⟨_, k6, m8, au, (by omega), h, (Mem.le.refl _), hst⟩
   rw [hc45]
   refine sk 8 (s0 2 [vb false, vb false] (nl (tn (cf (wp_skip (tn ?_))))))
   exact ⟨_, k6, m8, au, (by omega), h, (Mem.le.refl _), hst⟩
  rw [hc43]
  refine sk 4 (sg 6 [vb false, vp b1 0, vi a0.Kind, vb (a0.Kind != 7)] _ (hst.q 1 0 1) ?_)
  rcases sp h with ⟨hc46, h⟩ | ⟨hc46, h⟩
  ·rw [hc46]
   refine sg 10 [vp b1 4, vp b1 4, vi a0.Q.Num, vp b1 4, vp b1 5, vi a0.Q.Den, vi (orI .i64 a0.Q.Num a0.Q.Den), vb ((orI .i64 a0.Q.Num a0.Q.Den) != 0), vb ((orI .i64 a0.Q.Num a0.Q.Den) != 0), vb ((orI .i64 a0.Q.Num a0.Q.Den) != 0)] _ (hst.q 1 4 2) (nl (tn (cn h (fun h => ?_) (fun h => ?_))))
   ·refine qr (s0 1 [vi 3] (nl (tn (wp_ret (tr (wr [vi 3] ?_))))))
    have hst := pk2 hst
    have h := Option.some.inj h; subst h
    exact ⟨_, rfl, m8, rfl, hl5, hst⟩
   refine wp_skip (tn ?_)
   exact ⟨_, k6, m8, au, (by omega), h, (Mem.le.refl _), hst⟩
  rw [hc46]
  refine sk 8 (s0 2 [vb false, vb false] (nl (tn (cf (wp_skip (tn ?_))))))
  exact ⟨_, k6, m8, au, (by omega), h, (Mem.le.refl _), hst⟩
 refine rg (sg 4 [vp b1 0, vi a0.Kind, vb (decide (a0.Kind < 1))] _ (hst.q 0 0 1) ?_)
 rcases sp h with ⟨hc47, h⟩ | ⟨hc47, h⟩
 ·rw [hc47]
  refine sk 3 (s0 1 [vb true] (nl (tn ?_)))
  exact ⟨_, k, m, (true), au, (by omega), h, (Mem.le.refl _), hst⟩
 rw [hc47]
 refine sg 4 [vp b1 0, vi a0.Kind, vb (decide (a0.Kind > 8)), vb (decide (a0.Kind > 8))] _ (hst.q 0 0 1) (nl (tn ?_))
 exact ⟨_, k, m, (decide (a0.Kind > 8)), au, (by omega), h, (Mem.le.refl _), hst⟩
abbrev R_l36_columnText := RStr
theorem c_l36_columnText {a0 : GColumn} {r : Str} (h : l36_columnText k a0 = some r) (hst : St g m (F) w) :
    Calls Tryz.prog 84 ⟨[va (cGColumn a0)]⟩ w (OPost (R_l36_columnText g m F) r) := by
 refine calls_enter Tryz.func84 rfl rfl ?_
 unfold l36_columnText at h
 refine qr (bo_ (cGColumn a0) hst (fun b1 _ hst => ?_))
 refine s0 1 [vstr w_0] (nl (tn (sq (qr (sg 2 [vp b1 1, vstr a0.Field] _ (hst.q 0 1 1) (vl (re a0.Field w_attr) (nl (tn (cn h (fun h => ?_) (fun h => ?_))))))))))
 ·refine sq (dr false (fun x => Rd m (oo b1 101 (cGColumn a0) :: []) x) ?_)
  have hst := hst.drew
  refine gs [0, 3, 1, 4] [vp b1 0, vp b1 2, vstr a0.Var, vstr a0.Key] _ 4 (pqt (pqt pqb)) (hst.rd.with_ 0 rfl (hst.rd.none_)) (fun x hx => (AllC.app (hx.q 0 0 1) (hx.q 0 2 1))) ?_
  obtain ⟨hb8, h⟩ := chk_some h
  refine gv 2 (pqt (pqt pqb)) (hst.rd.with_ 0 rfl (hst.rd.none_)) rfl (fun x hx => rad hb8) ?_
  refine ge 5 rfl ?_
  obtain ⟨r9, hq10, h⟩ := bs h
  refine cal (c_l36_label hq10 hst) ?_
  rintro _ _ ⟨m11, rfl, hl12, hst⟩
  refine gn (Rd.lower hl12 (hst.rd.with_ 0 rfl (hst.rd.none_))) ?_
  obtain ⟨hb13, h⟩ := chk_some h
  refine wpG_strong (S2 := fun x => Rd m11 (oo b1 101 (cGColumn a0) :: []) x) (fun x hx => Rd.lower hl12 hx) ?_
  refine gv 6 (pqt (pqt pqb)) (hst.rd.with_ 0 rfl (hst.rd.none_)) rfl (fun x hx => rad hb13) ?_
  refine ge 7 rfl (sg 1 [] [] trivial (nl (tn (⟨_, fun _ h => h, .inl ⟨rfl, allListed_of _ (by kernel_rfl)⟩, ?_⟩))))
  refine gd (tn (wp_ret (tr (wr [vstr ((a0.Var ++ wx2e617474722e) ++ r9)] ?_))))
  have hst := pk0 hst
  cases h
  exact ⟨_, rfl, m11, rfl, hl12, hst⟩
 refine wp_skip (tn (qr (sg 2 [vp b1 0, vstr a0.Var] _ (hst.q 0 0 1) ?_)))
 obtain ⟨hb14, h⟩ := chk_some h
 refine vl (rad hb14) (sg 2 [vp b1 1, vstr a0.Field] _ (hst.q 0 1 1) ?_)
 obtain ⟨hb15, h⟩ := chk_some h
 refine vl (rad hb15) (s0 1 [] (nl (tn (wp_ret (wr [vstr ((a0.Var ++ wx2e) ++ a0.Field)] ?_)))))
 have hst := pk0 hst
 cases h
 exact ⟨_, rfl, m, rfl, (Mem.le.refl _), hst⟩
abbrev R_l36_list := RStr
theorem c_l36_list {a0 : Str} {a1 : List Str} {r : Str} (h : l36_list k a0 a1 = some r) (hst : St g m (F) w) (hu0 : RS (TStr) m (vs Au0 a1 cu0) a1) :
    Calls Tryz.prog 87 ⟨[vstr a0, vs Au0 a1 cu0]⟩ w (OPost (R_l36_list g m F) r) := by
 refine calls_enter Tryz.func87 rfl rfl ?_
 unfold l36_list at h
 refine qr (s0 1 [vstr w_0] (nl (tn (qr (s0 1 [vstr w_0] (nl (tn (sq (qr (s0 1 [vi 0] (nl (tn (bk (wc_loop (fun kk a w => ∃ f0 m45 x20 x21, a = act Tryz.f87.ntmps (upds f0 [(0, vstr a0), (1, vs Au0 a1 cu0), (4, vstr w_0), (5, vstr x20), (6, vi x21)]) ∧ kk ≤ k ∧ l36_list_l3 kk a0 a1 x20 x21 = some r ∧ m.le m45 ∧ St g m45 (F) w) k ?_ ?_))))))))))))))
 ·exact ⟨_, m, (w_0), (0), au, (Nat.le_refl _), h, (Mem.le.refl _), hst⟩
 rintro k43 ih44 _ _ ⟨f0, m45, x20, x21, rfl, hk42, h, hl41, hst⟩
 obtain _ | k47 := k43
 ·simp [l36_list_l3] at h
 rw [l36_list_l3] at h
 refine sq (qr (s0 4 [vi ((a1).length : Int), vb (decide (x21 < ((a1).length : Int)))] (nl (tn (cn h (fun h => ?_) (fun h => ?_))))))
 ·refine wp_skip (tn (sq (bk (wc_join (fun a w => ∃ f0 k51 m53 x49, a = act Tryz.f87.ntmps (upds f0 [(0, vstr a0), (1, vs Au0 a1 cu0), (4, vstr w_0), (5, vstr x49), (6, vi x21), (7, vi x21), (8, vs Au0 a1 cu0), (9, vi ((a1).length : Int)), (10, vb (decide (x21 < ((a1).length : Int)))), (13, vi x21), (14, vb (x21 == 0))]) ∧ k51 ≤ k47 ∧ l36_list_j4 k51 a0 a1 x21 x49 = some r ∧ m45.le m53 ∧ St g m53 (F) w) ?_ ?_))))
  ·rintro _ _ ⟨f0, k51, m53, x49, rfl, hk52, h, hl50, hst⟩
   obtain _ | k54 := k51
   ·simp [l36_list_j4] at h
   rw [l36_list_j4] at h
   refine rg (s0 3 [] ?_)
   obtain ⟨x56, hx57, h⟩ := ix h
   have e64 := hl41.trans hl50
   obtain ⟨b58, o59, cs60, hR61, hA62, hI63⟩ := RS.ix (P := Tryz.prog) (RS.mono e64 hu0) hx57
   obtain rfl : cs60 = [vstr x56] := hR61
   refine vl (hI63.r .i64) (sg 1 [vstr x56] _ (hst.f hA62 0 1) ?_)
   obtain ⟨hb65, h⟩ := chk_some h
   refine vl (rad hb65) (s0 1 [] (nl (bn (tn (rg (s0 3 [vi (w64 (x21 + 1))] (nl (tn ?_))))))))
   exact ih44 k54 (by omega) _ _ ⟨_, m53, ((x49 ++ x56)), (w64 (x21 + 1)), au, (by omega), h, e64, hst⟩
  refine qr (s0 2 [vb (x21 == 0)] (nl (tn (cn h (fun h => ?_) (fun h => ?_)))))
  ·refine rg (s0 2 [] (nl (tn ?_)))
   exact ⟨_, k47, m45, (a0), au, (by omega), h, (Mem.le.refl _), hst⟩
  refine rg (s0 1 [] ?_)
  obtain ⟨hb66, h⟩ := chk_some h
  refine vl (rad hb66) (s0 1 [] (nl (tn ?_)))
  exact ⟨_, k47, m45, ((x20 ++ wx2c20)), au, (by omega), h, (Mem.le.refl _), hst⟩
 refine wp_exit (tx (tx (bx (tn (qr (s0 2 [] (nl (tn (wp_ret (wr [vstr x20] ?_))))))))))
 have h := Option.some.inj h; subst h
 exact ⟨_, rfl, m45, rfl, hl41, hst⟩
abbrev R_l36_query := RStr
theorem c_l36_query {a0 : GQuery} {r : Str} (h : l36_query k a0 = some r) (hst : St g m (F) w) (hu0 : RS (TGVariable) m (vs Au0 a0.Variables cu0) a0.Variables) (hu1 : RS (TGRelation) m (vs Au1 a0.Relations cu1) a0.Relations) (hu2 : RS (TGAbsence) m (vs Au2 a0.Absences cu2) a0.Absences) (hu3 : RS (TGColumn) m (vs Au3 a0.Group cu3) a0.Group) (hu4 : RS (TGAggregate) m (vs Au4 a0.Compute cu4) a0.Compute) (hu5 : RS (TGOrderKey) m (vs Au5 a0.Order cu5) a0.Order) :
    Calls Tryz.prog 40 ⟨[va (cGQuery a0 (vs Au0 a0.Variables cu0) (vs Au1 a0.Relations cu1) (vs Au2 a0.Absences cu2) (vs Au3 a0.Group cu3) (vs Au4 a0.Compute cu4) (vs Au5 a0.Order cu5))]⟩ w (OPost (R_l36_query g m F) r) := by
 refine calls_enter Tryz.func40 rfl rfl ?_
 unfold l36_query at h
 refine qr (bo_ (cGQuery a0 (vs Au0 a0.Variables cu0) (vs Au1 a0.Relations cu1) (vs Au2 a0.Absences cu2) (vs Au3 a0.Group cu3) (vs Au4 a0.Compute cu4) (vs Au5 a0.Order cu5)) hst (fun b1 _ hst => ?_))
 refine s0 1 [vstr w_0] (nl (tn (qr ?_)))
 have hrc3 := RC.nil (TStr) m
 have hst := hst.nil_row 9 1
 refine s0 1 [vn] ?_
 have hrc5 := RC.nil (TStr) m
 have hst := hst.nil_row 9 1
 refine s0 1 [vn] ?_
 have hrc7 := RC.nil (TStr) m
 have hst := hst.nil_row 9 1
 refine s0 1 [vn] ?_
 have hrc9 := RC.nil (TStr) m
 have hst := hst.nil_row 9 1
 refine s0 1 [vn] ?_
 have hrc11 := RC.nil (TStr) m
 have hst := hst.nil_row 9 1
 refine s0 1 [vn] (nl (tn (sq (qr (s0 1 [vi 0] (nl (tn (bk (wc_loop (fun kk a w => ∃ f0 m382 x300 A301 c302 cs303 x305, a = act Tryz.f40.ntmps (upds f0 [(1, vp b1 0), (2, vstr w_0), (3, vs A301 x300 c302), (4, vn), (5, vn), (6, vn), (7, vn), (8, vi x305)]) ∧ kk ≤ k ∧ l36_query_l1 kk a0 x300 x305 = some r ∧ m.le m382 ∧ St g m382 (rn 9 1 :: rn 9 1 :: rn 9 1 :: rn 9 1 :: rw_ 9 1 A301 x300 c302 cs303 :: oo b1 36 (cGQuery a0 (vs Au0 a0.Variables cu0) (vs Au1 a0.Relations cu1) (vs Au2 a0.Absences cu2) (vs Au3 a0.Group cu3) (vs Au4 a0.Compute cu4) (vs Au5 a0.Order cu5)) :: F) w ∧ RC (TStr) m382 x300 cs303) k ?_ ?_)))))))))
 ·exact ⟨_, m, ([]), none, 0, [], (0), au, (Nat.le_refl _), h, (Mem.le.refl _), hst, hrc3⟩
 rintro k380 ih381 _ _ ⟨f0, m382, x300, A301, c302, cs303, x305, rfl, hk379, h, hl378, hst, hrc304⟩
 obtain _ | k384 := k380
 ·simp [l36_query_l1] at h
 rw [l36_query_l1] at h
 refine sq (qr (sg 5 [vp b1 0, vs Au0 a0.Variables cu0, vi ((a0.Variables).length : Int), vb (decide (x305 < ((a0.Variables).length : Int)))] _ (hst.q 5 0 1) (nl (tn (cn h (fun h => ?_) (fun h => ?_))))))
 ·refine wp_skip (tn (sq (bk (dr false (fun x => Rd m382 (oo b1 36 (cGQuery a0 (vs Au0 a0.Variables cu0) (vs Au1 a0.Relations cu1) (vs Au2 a0.Absences cu2) (vs Au3 a0.Group cu3) (vs Au4 a0.Compute cu4) (vs Au5 a0.Order cu5)) :: []) x) ?_))))
  have hst := hst.drew
  refine gs [0, 1, 3, 8, 10, 2, 9] [vp b1 0, vp b1 0, vs Au0 a0.Variables cu0, vs Au0 a0.Variables cu0] _ 13 (pqk (pqt (pqt (pqk (pqt pqb))))) (hst.rd.with_ 5 rfl (hst.rd.none_)) (fun x hx => (AllC.app (hx.q 0 0 1) (hx.q 0 0 1))) ?_
  obtain ⟨x419, hx420, h⟩ := ix h
  obtain ⟨b421, o422, cs423, hR424, hA425, hI426⟩ := RS.ix (P := Tryz.prog) (RS.mono hl378 hu0) hx420
  obtain ⟨Aq427, cq427, rfl, hq427⟩ := TGVariable.opn hR424
  refine gv 4 (pqk (pqt (pqt (pqk (pqt pqb))))) (hst.rd.with_ 5 rfl (hst.rd.none_)) rfl (fun x hx => hI426.r .i64) ?_
  refine gs [5] [vp b421 o422] [] 11 (pqk (pqt (pqt (pqk (pqt pqb))))) (hst.rd.with_ 5 rfl (hst.rd.none_)) (fun x hx => trivial) ?_
  obtain ⟨x429, hx430, h⟩ := ix h
  obtain ⟨b431, o432, cs433, hR434, hA435, hI436⟩ := RS.ix (P := Tryz.prog) (RS.mono hl378 hu0) hx430
  obtain ⟨Aq437, cq437, rfl, hq437⟩ := TGVariable.opn hR434
  refine gv 11 (pqk (pqt (pqt (pqk (pqt pqb))))) (hst.rd.with_ 5 rfl (hst.rd.none_)) rfl (fun x hx => hI436.r .i64) ?_
  refine gs [6, 12] [vstr x419.Name, vp b431 (o432 + 1)] _ 8 (pqk (pqt (pqt (pqk (pqt pqb))))) (hst.rd.with_ 5 rfl (hst.rd.none_)) (fun x hx => (hx.f hA425 0 1)) ?_
  obtain ⟨hb438, h⟩ := chk_some h
  refine gv 7 (pqk (pqt (pqt (pqk (pqt pqb))))) (hst.rd.with_ 5 rfl (hst.rd.none_)) rfl (fun x hx => rad hb438) ?_
  refine gs [13] [va (cGPred x429.Where (vs Aq437 x429.Where.Args cq437))] _ 6 (pqk (pqt (pqt (pqk (pqt pqb))))) (hst.rd.with_ 5 rfl (hst.rd.none_)) (fun x hx => (hx.f hA435 1 7)) ?_
  refine ge 14 rfl ?_
  obtain ⟨r439, hq440, h⟩ := bs h
  refine cal (c_l36_pred hq440 hst hq437) ?_
  rintro _ _ ⟨m441, rfl, hl442, hst⟩
  refine gn (Rd.lower hl442 (hst.rd.with_ 5 rfl (hst.rd.none_))) ?_
  obtain ⟨hb443, h⟩ := chk_some h
  refine wpG_strong (S2 := fun x => Rd m441 (oo b1 36 (cGQuery a0 (vs Au0 a0.Variables cu0) (vs Au1 a0.Relations cu1) (vs Au2 a0.Absences cu2) (vs Au3 a0.Group cu3) (vs Au4 a0.Compute cu4) (vs Au5 a0.Order cu5)) :: []) x) (fun x hx => Rd.lower hl442 hx) ?_
  refine gv 15 (pqk (pqt (pqt (pqk (pqt pqb))))) (hst.rd.with_ 5 rfl (hst.rd.none_)) rfl (fun x hx => rad hb443) ?_
  obtain ⟨hb444, h⟩ := chk_some h
  refine gv 16 (pqk (pqt (pqt (pqk (pqt pqb))))) (hst.rd.with_ 5 rfl (hst.rd.none_)) rfl (fun x hx => rad hb444) ?_
  refine ge 17 rfl (li 9 1 [vstr (((x419.Name ++ wx7b) ++ r439) ++ wx7d)] hst (fun b445 _ hst => ?_))
  refine gn (hst.rd.with_ 6 rfl (hst.rd.none_)) (ge 18 rfl ?_)
  obtain ⟨hb446, h⟩ := chk_some h
  refine ap5 (TStr) (xs := x300) (ys := [(((x419.Name ++ wx7b) ++ r439) ++ wx7d)]) 16 1 0 hst (RC.mono hl442 hrc304) (RC.k1 rfl (RC.nil _ _)) hb446 (fun A447 c448 cs449 _ hrc450 hst => ?_)
  have hst := pk0 hst
  refine gn (hst.rd.with_ 5 rfl (hst.rd.none_)) (ge 19 rfl (sg 1 [] [] trivial (nl (tn (⟨_, fun _ h => h, .inl ⟨rfl, allListed_of _ (by kernel_rfl)⟩, ?_⟩)))))
  refine gd (bn (tn (rg (s0 3 [vi (w64 (x305 + 1))] (nl (tn ?_))))))
  have e451 := hl378.trans hl442
  exact ih381 k384 (by omega) _ _ ⟨_, m441, ((x300 ++ [(((x419.Name ++ wx7b) ++ r439) ++ wx7d)])), A447, c448, cs449, (w64 (x305 + 1)), au, (by omega), h, e451, hst, hrc450⟩
 refine wp_exit (tx (tx (bx (tn (sq (qr (s0 1 [vi 0] (nl (tn (bk (wc_loop (fun kk a w => ∃ f0 m792 x716 A717 c718 cs719 x721, a = act Tryz.f40.ntmps (upds f0 [(1, vp b1 0), (2, vstr w_0), (3, vs A301 x300 c302), (4, vs A717 x716 c718), (5, vn), (6, vn), (7, vn), (9, vi x721)]) ∧ kk ≤ k384 ∧ l36_query_l2 kk a0 x300 x716 x721 = some r ∧ m382.le m792 ∧ St g m792 (rn 9 1 :: rn 9 1 :: rn 9 1 :: rw_ 9 1 A717 x716 c718 cs719 :: rw_ 9 1 A301 x300 c302 cs303 :: oo b1 36 (cGQuery a0 (vs Au0 a0.Variables cu0) (vs Au1 a0.Relations cu1) (vs Au2 a0.Absences cu2) (vs Au3 a0.Group cu3) (vs Au4 a0.Compute cu4) (vs Au5 a0.Order cu5)) :: F) w ∧ RC (TStr) m792 x716 cs719) k384 ?_ ?_)))))))))))
 ·exact ⟨_, m382, ([]), none, 0, [], (0), au, (Nat.le_refl _), h, (Mem.le.refl _), hst, (RC.mono hl378 hrc5)⟩
 rintro k790 ih791 _ _ ⟨f0, m792, x716, A717, c718, cs719, x721, rfl, hk789, h, hl788, hst, hrc720⟩
 obtain _ | k794 := k790
 ·simp [l36_query_l2] at h
 rw [l36_query_l2] at h
 refine sq (qr (sg 5 [vp b1 1, vs Au1 a0.Relations cu1, vi ((a0.Relations).length : Int), vb (decide (x721 < ((a0.Relations).length : Int)))] _ (hst.q 5 1 1) (nl (tn (cn h (fun h => ?_) (fun h => ?_))))))
 ·refine wp_skip (tn (sq (bk (qr (sg 3 [vp b1 1, vs Au1 a0.Relations cu1] _ (hst.q 5 1 1) ?_)))))
  obtain ⟨x796, hx797, h⟩ := ix h
  have e804 := hl378.trans hl788
  obtain ⟨b798, o799, cs800, hR801, hA802, hI803⟩ := RS.ix (P := Tryz.prog) (RS.mono e804 hu1) hx797
  obtain rfl := TGRelation.open_ hR801
  refine vl (hI803.r .i64) (sg 1 [va (cGRelation x796)] _ (hst.f hA802 0 3) (al [vi 0, vstr w_0, vstr w_0] hst (fun b805 _ hst => ?_)))
  refine so0 0 (cGRelation x796) hst (fun _ hst => ?_)
  refine nl (tn (dr false (fun x => Rd m792 (oo b805 104 (cGRelation x796) :: []) x) ?_))
  have hst := hst.drew
  refine gs [0, 1, 5, 11, 2, 6, 12] [vp b805 1, vp b805 0, vp b805 2, vstr x796.A, vi x796.Kind, vstr x796.B] _ 10 (pqk (pqt (pqt (pqk (pqt pqb))))) (hst.rd.with_ 0 rfl (hst.rd.none_)) (fun x hx => (AllC.app (hx.q 0 1 1) (AllC.app (hx.q 0 0 1) (hx.q 0 2 1)))) ?_
  obtain ⟨hb830, h⟩ := chk_some h
  refine gv 3 (pqk (pqt (pqt (pqk (pqt pqb))))) (hst.rd.with_ 0 rfl (hst.rd.none_)) rfl (fun x hx => rad hb830) ?_
  refine ge 4 rfl ?_
  obtain ⟨r831, hq832, h⟩ := bs h
  refine cal (c_l36_relations hq832 hst) ?_
  rintro _ _ ⟨m833, Aq835, cq835, rfl, hl834, hst, hq835⟩
  refine gn (Rd.lower hl834 (hst.rd.with_ 0 rfl (hst.rd.none_))) ?_
  obtain ⟨x837, hx838, h⟩ := ix h
  obtain ⟨b839, o840, cs841, hR842, hA843, hI844⟩ := RS.ix (P := Tryz.prog) hq835 hx838
  obtain rfl : cs841 = [vstr x837] := hR842
  refine wpG_strong (S2 := fun x => Rd m833 (oo b805 104 (cGRelation x796) :: []) x) (fun x hx => Rd.lower hl834 hx) ?_
  refine gv 7 (pqk (pqt (pqt (pqk (pqt pqb))))) (hst.rd.with_ 0 rfl (hst.rd.none_)) rfl (fun x hx => hI844.r .i64) ?_
  refine gs [8] [vstr x837] _ 6 (pqk (pqt (pqt (pqk (pqt pqb))))) (hst.rd.with_ 0 rfl (hst.rd.none_)) (fun x hx => (hx.f hA843 0 1)) ?_
  obtain ⟨hb845, h⟩ := chk_some h
  refine gv 9 (pqk (pqt (pqt (pqk (pqt pqb))))) (hst.rd.with_ 0 rfl (hst.rd.none_)) rfl (fun x hx => rad hb845) ?_
  obtain ⟨hb846, h⟩ := chk_some h
  refine gv 10 (pqk (pqt (pqt (pqk (pqt pqb))))) (hst.rd.with_ 0 rfl (hst.rd.none_)) rfl (fun x hx => rad hb846) ?_
  obtain ⟨hb847, h⟩ := chk_some h
  refine gv 13 (pqk (pqt (pqt (pqk (pqt pqb))))) (hst.rd.with_ 0 rfl (hst.rd.none_)) rfl (fun x hx => rad hb847) ?_
  refine ge 14 rfl (li 9 1 [vstr ((((x796.A ++ wx20) ++ x837) ++ wx20) ++ x796.B)] hst (fun b848 _ hst => ?_))
  refine gn (hst.rd.with_ 1 rfl (hst.rd.none_)) (ge 15 rfl ?_)
  obtain ⟨hb849, h⟩ := chk_some h
  refine ap5 (TStr) (xs := x716) (ys := [((((x796.A ++ wx20) ++ x837) ++ wx20) ++ x796.B)]) 16 1 0 hst (RC.mono hl834 hrc720) (RC.k1 rfl (RC.nil _ _)) hb849 (fun A850 c851 cs852 _ hrc853 hst => ?_)
  have hst := pk0 hst
  refine gn (hst.rd.with_ 0 rfl (hst.rd.none_)) (ge 16 rfl (sg 1 [] [] trivial (nl (tn (⟨_, fun _ h => h, .inl ⟨rfl, allListed_of _ (by kernel_rfl)⟩, ?_⟩)))))
  refine gd (bn (tn (rg (s0 3 [vi (w64 (x721 + 1))] (nl (tn ?_))))))
  have e854 := hl788.trans hl834
  have hst := pk0 hst
  exact ih791 k794 (by omega) _ _ ⟨_, m833, ((x716 ++ [((((x796.A ++ wx20) ++ x837) ++ wx20) ++ x796.B)])), A850, c851, cs852, (w64 (x721 + 1)), au, (by omega), h, e854, hst, hrc853⟩
 refine wp_exit (tx (tx (bx (tn (sq (qr (s0 1 [vi 0] (nl (tn (bk (wc_loop (fun kk a w => ∃ f0 m1285 x1191 A1192 c1193 cs1194 x1196, a = act Tryz.f40.ntmps (upds f0 [(1, vp b1 0), (2, vstr w_0), (3, vs A301 x300 c302), (4, vs A1192 x1191 c1193), (5, vn), (6, vn), (7, vn), (11, vi x1196)]) ∧ kk ≤ k794 ∧ l36_query_l3 kk a0 x300 x1191 x1196 = some r ∧ m792.le m1285 ∧ St g m1285 (rn 9 1 :: rn 9 1 :: rn 9 1 :: rw_ 9 1 A1192 x1191 c1193 cs1194 :: rw_ 9 1 A301 x300 c302 cs303 :: oo b1 36 (cGQuery a0 (vs Au0 a0.Variables cu0) (vs Au1 a0.Relations cu1) (vs Au2 a0.Absences cu2) (vs Au3 a0.Group cu3) (vs Au4 a0.Compute cu4) (vs Au5 a0.Order cu5)) :: F) w ∧ RC (TStr) m1285 x1191 cs1194) k794 ?_ ?_)))))))))))
 ·exact ⟨_, m792, (x716), A717, c718, cs719, (0), au, (Nat.le_refl _), h, (Mem.le.refl _), hst, hrc720⟩
 rintro k1283 ih1284 _ _ ⟨f0, m1285, x1191, A1192, c1193, cs1194, x1196, rfl, hk1282, h, hl1281, hst, hrc1195⟩
 obtain _ | k1287 := k1283
 ·simp [l36_query_l3] at h
 rw [l36_query_l3] at h
 refine sq (qr (sg 5 [vp b1 2, vs Au2 a0.Absences cu2, vi ((a0.Absences).length : Int), vb (decide (x1196 < ((a0.Absences).length : Int)))] _ (hst.q 5 2 1) (nl (tn (cn h (fun h => ?_) (fun h => ?_))))))
 ·refine wp_skip (tn (sq (bk (qr (sg 3 [vp b1 2, vs Au2 a0.Absences cu2] _ (hst.q 5 2 1) ?_)))))
  obtain ⟨x1289, hx1290, h⟩ := ix h
  have e1297 := hl378.trans (hl788.trans hl1281)
  obtain ⟨b1291, o1292, cs1293, hR1294, hA1295, hI1296⟩ := RS.ix (P := Tryz.prog) (RS.mono e1297 hu2) hx1290
  obtain ⟨Aq1298, cq1298, rfl, hq1298⟩ := TGAbsence.opn hR1294
  refine vl (hI1296.r .i64) (sg 1 [va (cGAbsence x1289 (vs Aq1298 x1289.Variable.Where.Args cq1298))] _ (hst.f hA1295 0 11) (al [vstr w_0, vi 0, vstr w_0, vstr w_0, vi 0, vstr w_0, vi 0, vn, vi 0, vstr w_0, vb false] hst (fun b1299 _ hst => ?_)))
  refine so0 0 (cGAbsence x1289 (vs Aq1298 x1289.Variable.Where.Args cq1298)) hst (fun _ hst => ?_)
  refine nl (tn (sq (dr false (fun x => Rd m1285 (oo b1299 106 (cGAbsence x1289 (vs Aq1298 x1289.Variable.Where.Args cq1298)) :: []) x) ?_)))
  have hst := hst.drew
  refine gs [0, 5, 12, 1, 6, 13, 2, 7] [vp b1299 0, vp b1299 0, vp b1299 8, vp b1299 0, vp b1299 1, vi x1289.Kind, vstr x1289.Variable.Name, va (cGPred x1289.Variable.Where (vs Aq1298 x1289.Variable.Where.Args cq1298))] _ 12 (pqt (pqk (pqt (pqt (pqk (pqt pqb)))))) (hst.rd.with_ 0 rfl (hst.rd.none_)) (fun x hx => (AllC.app (hx.q 0 8 1) (hx.q 0 0 8))) ?_
  obtain ⟨hb1324, h⟩ := chk_some h
  refine gv 3 (pqt (pqk (pqt (pqt (pqk (pqt pqb)))))) (hst.rd.with_ 0 rfl (hst.rd.none_)) rfl (fun x hx => rad hb1324) ?_
  obtain ⟨hb1325, h⟩ := chk_some h
  refine gv 4 (pqt (pqk (pqt (pqt (pqk (pqt pqb)))))) (hst.rd.with_ 0 rfl (hst.rd.none_)) rfl (fun x hx => rad hb1325) ?_
  refine ge 8 rfl ?_
  obtain ⟨r1326, hq1327, h⟩ := bs h
  refine cal (c_l36_pred hq1327 hst hq1298) ?_
  rintro _ _ ⟨m1328, rfl, hl1329, hst⟩
  refine gn (Rd.lower hl1329 (hst.rd.with_ 0 rfl (hst.rd.none_))) ?_
  obtain ⟨hb1330, h⟩ := chk_some h
  refine wpG_strong (S2 := fun x => Rd m1328 (oo b1299 106 (cGAbsence x1289 (vs Aq1298 x1289.Variable.Where.Args cq1298)) :: []) x) (fun x hx => Rd.lower hl1329 hx) ?_
  refine gv 9 (pqt (pqk (pqt (pqt (pqk (pqt pqb)))))) (hst.rd.with_ 0 rfl (hst.rd.none_)) rfl (fun x hx => rad hb1330) ?_
  obtain ⟨hb1331, h⟩ := chk_some h
  refine gv 10 (pqt (pqk (pqt (pqt (pqk (pqt pqb)))))) (hst.rd.with_ 0 rfl (hst.rd.none_)) rfl (fun x hx => rad hb1331) ?_
  refine ge 11 rfl ?_
  obtain ⟨r1332, hq1333, h⟩ := bs h
  refine cal (c_l36_relations hq1333 hst) ?_
  rintro _ _ ⟨m1334, Aq1336, cq1336, rfl, hl1335, hst, hq1336⟩
  refine gn (Rd.lower hl1335 (hst.rd.with_ 0 rfl (hst.rd.none_))) ?_
  obtain ⟨x1338, hx1339, h⟩ := ix h
  obtain ⟨b1340, o1341, cs1342, hR1343, hA1344, hI1345⟩ := RS.ix (P := Tryz.prog) hq1336 hx1339
  obtain rfl : cs1342 = [vstr x1338] := hR1343
  refine wpG_strong (S2 := fun x => Rd m1334 (oo b1299 106 (cGAbsence x1289 (vs Aq1298 x1289.Variable.Where.Args cq1298)) :: []) x) (fun x hx => Rd.lower hl1335 hx) ?_
  refine gv 14 (pqt (pqk (pqt (pqt (pqk (pqt pqb)))))) (hst.rd.with_ 0 rfl (hst.rd.none_)) rfl (fun x hx => hI1345.r .i64) ?_
  refine gs [15, 18] [vstr x1338] _ 3 (pqt (pqk (pqt (pqt (pqk (pqt pqb)))))) (hst.rd.with_ 0 rfl (hst.rd.none_)) (fun x hx => (hx.f hA1344 0 1)) ?_
  obtain ⟨hb1346, h⟩ := chk_some h
  refine gv 16 (pqt (pqk (pqt (pqt (pqk (pqt pqb)))))) (hst.rd.with_ 0 rfl (hst.rd.none_)) rfl (fun x hx => rad hb1346) ?_
  obtain ⟨hb1347, h⟩ := chk_some h
  refine gv 17 (pqt (pqk (pqt (pqt (pqk (pqt pqb)))))) (hst.rd.with_ 0 rfl (hst.rd.none_)) rfl (fun x hx => rad hb1347) ?_
  refine ge 19 rfl (sg 1 [] [] trivial (nl (tn (⟨_, fun _ h => h, .inl ⟨rfl, allListed_of _ (by kernel_rfl)⟩, ?_⟩))))
  refine gd (tn (qr (sg 2 [vp b1299 10, vb x1289.First] _ (hst.q 0 10 1) (nl (tn (cn h (fun h => ?_) (fun h => ?_)))))))
  ·refine rg (s0 3 [] ?_)
   obtain ⟨hb1348, h⟩ := chk_some h
   refine vl (rad hb1348) (sg 2 [vp b1299 9, vstr x1289.Other] _ (hst.q 0 9 1) ?_)
   obtain ⟨hb1349, h⟩ := chk_some h
   refine vl (rad hb1349) (li 9 1 [vstr ((((((wx6e6f7420 ++ x1289.Variable.Name) ++ wx7b) ++ r1326) ++ wx7d) ++ ((wx20 ++ x1338) ++ wx20)) ++ x1289.Other)] hst (fun b1350 _ hst => ?_))
   obtain ⟨hb1351, h⟩ := chk_some h
   have e1356 := hl1329.trans hl1335
   refine ap5 (TStr) (xs := x1191) (ys := [((((((wx6e6f7420 ++ x1289.Variable.Name) ++ wx7b) ++ r1326) ++ wx7d) ++ ((wx20 ++ x1338) ++ wx20)) ++ x1289.Other)]) 16 1 0 hst (RC.mono e1356 hrc1195) (RC.k1 rfl (RC.nil _ _)) hb1351 (fun A1352 c1353 cs1354 _ hrc1355 hst => ?_)
   have hst := pk0 hst
   refine s0 1 [] (nl (bn (tn (rg (s0 3 [vi (w64 (x1196 + 1))] (nl (tn ?_)))))))
   have e1357 := hl1281.trans (hl1329.trans hl1335)
   have hst := pk0 hst
   exact ih1284 k1287 (by omega) _ _ ⟨_, m1334, ((x1191 ++ [((((((wx6e6f7420 ++ x1289.Variable.Name) ++ wx7b) ++ r1326) ++ wx7d) ++ ((wx20 ++ x1338) ++ wx20)) ++ x1289.Other)])), A1352, c1353, cs1354, (w64 (x1196 + 1)), au, (by omega), h, e1357, hst, hrc1355⟩
  refine rg (sg 4 [vp b1299 9, vstr x1289.Other] _ (hst.q 0 9 1) ?_)
  obtain ⟨hb1358, h⟩ := chk_some h
  refine vl (rad hb1358) (s0 1 [] ?_)
  obtain ⟨hb1359, h⟩ := chk_some h
  refine vl (rad hb1359) (li 9 1 [vstr ((x1289.Other ++ ((wx20 ++ x1338) ++ wx20)) ++ ((((wx6e6f7420 ++ x1289.Variable.Name) ++ wx7b) ++ r1326) ++ wx7d))] hst (fun b1360 _ hst => ?_))
  obtain ⟨hb1361, h⟩ := chk_some h
  have e1366 := hl1329.trans hl1335
  refine ap5 (TStr) (xs := x1191) (ys := [((x1289.Other ++ ((wx20 ++ x1338) ++ wx20)) ++ ((((wx6e6f7420 ++ x1289.Variable.Name) ++ wx7b) ++ r1326) ++ wx7d))]) 16 1 0 hst (RC.mono e1366 hrc1195) (RC.k1 rfl (RC.nil _ _)) hb1361 (fun A1362 c1363 cs1364 _ hrc1365 hst => ?_)
  have hst := pk0 hst
  refine s0 1 [] (nl (bn (tn (rg (s0 3 [vi (w64 (x1196 + 1))] (nl (tn ?_)))))))
  have e1367 := hl1281.trans (hl1329.trans hl1335)
  have hst := pk0 hst
  exact ih1284 k1287 (by omega) _ _ ⟨_, m1334, ((x1191 ++ [((x1289.Other ++ ((wx20 ++ x1338) ++ wx20)) ++ ((((wx6e6f7420 ++ x1289.Variable.Name) ++ wx7b) ++ r1326) ++ wx7d))])), A1362, c1363, cs1364, (w64 (x1196 + 1)), au, (by omega), h, e1367, hst, hrc1365⟩
 refine wp_exit (tx (tx (bx (tn (sq (qr (s0 1 [vi 0] (nl (tn (bk (wc_loop (fun kk a w => ∃ f0 m1513 x1476 A1477 c1478 cs1479 x1481, a = act Tryz.f40.ntmps (upds f0 [(1, vp b1 0), (2, vstr w_0), (3, vs A301 x300 c302), (4, vs A1192 x1191 c1193), (5, vs A1477 x1476 c1478), (6, vn), (7, vn), (15, vi x1481)]) ∧ kk ≤ k1287 ∧ l36_query_l4 kk a0 x300 x1191 x1476 x1481 = some r ∧ m1285.le m1513 ∧ St g m1513 (rn 9 1 :: rn 9 1 :: rw_ 9 1 A1477 x1476 c1478 cs1479 :: rw_ 9 1 A1192 x1191 c1193 cs1194 :: rw_ 9 1 A301 x300 c302 cs303 :: oo b1 36 (cGQuery a0 (vs Au0 a0.Variables cu0) (vs Au1 a0.Relations cu1) (vs Au2 a0.Absences cu2) (vs Au3 a0.Group cu3) (vs Au4 a0.Compute cu4) (vs Au5 a0.Order cu5)) :: F) w ∧ RC (TStr) m1513 x1476 cs1479) k1287 ?_ ?_)))))))))))
 ·have e2588 := hl378.trans (hl788.trans hl1281)
  exact ⟨_, m1285, ([]), none, 0, [], (0), au, (Nat.le_refl _), h, (Mem.le.refl _), hst, (RC.mono e2588 hrc7)⟩
 rintro k1511 ih1512 _ _ ⟨f0, m1513, x1476, A1477, c1478, cs1479, x1481, rfl, hk1510, h, hl1509, hst, hrc1480⟩
 obtain _ | k1515 := k1511
 ·simp [l36_query_l4] at h
 rw [l36_query_l4] at h
 refine sq (qr (sg 5 [vp b1 5, vs Au3 a0.Group cu3, vi ((a0.Group).length : Int), vb (decide (x1481 < ((a0.Group).length : Int)))] _ (hst.q 5 5 1) (nl (tn (cn h (fun h => ?_) (fun h => ?_))))))
 ·refine wp_skip (tn (sq (bk (rg (sg 4 [vp b1 5, vs Au3 a0.Group cu3] _ (hst.q 5 5 1) ?_)))))
  obtain ⟨x1517, hx1518, h⟩ := ix h
  have e1525 := hl378.trans (hl788.trans (hl1281.trans hl1509))
  obtain ⟨b1519, o1520, cs1521, hR1522, hA1523, hI1524⟩ := RS.ix (P := Tryz.prog) (RS.mono e1525 hu3) hx1518
  obtain rfl := TGColumn.open_ hR1522
  refine vl (hI1524.r .i64) (sg 1 [va (cGColumn x1517)] _ (hst.f hA1523 0 3) ?_)
  obtain ⟨r1526, hq1527, h⟩ := bs h
  refine cal (c_l36_columnText hq1527 hst) ?_
  rintro _ _ ⟨m1528, rfl, hl1529, hst⟩
  refine li 9 1 [vstr r1526] hst (fun b1530 _ hst => ?_)
  obtain ⟨hb1531, h⟩ := chk_some h
  refine ap3 (TStr) (xs := x1476) (ys := [r1526]) 16 1 0 hst (RC.mono hl1529 hrc1480) (RC.k1 rfl (RC.nil _ _)) hb1531 (fun A1532 c1533 cs1534 _ hrc1535 hst => ?_)
  have hst := pk0 hst
  refine s0 1 [] (nl (bn (tn (rg (s0 3 [vi (w64 (x1481 + 1))] (nl (tn ?_)))))))
  have e1536 := hl1509.trans hl1529
  exact ih1512 k1515 (by omega) _ _ ⟨_, m1528, ((x1476 ++ [r1526])), A1532, c1533, cs1534, (w64 (x1481 + 1)), au, (by omega), h, e1536, hst, hrc1535⟩
 refine wp_exit (tx (tx (bx (tn (sq (qr (s0 1 [vi 0] (nl (tn (bk (wc_loop (fun kk a w => ∃ f0 m2102 x1981 A1982 c1983 cs1984 x1986, a = act Tryz.f40.ntmps (upds f0 [(1, vp b1 0), (2, vstr w_0), (3, vs A301 x300 c302), (4, vs A1192 x1191 c1193), (5, vs A1477 x1476 c1478), (6, vs A1982 x1981 c1983), (7, vn), (16, vi x1986)]) ∧ kk ≤ k1515 ∧ l36_query_l5 kk a0 x300 x1191 x1476 x1981 x1986 = some r ∧ m1513.le m2102 ∧ St g m2102 (rn 9 1 :: rw_ 9 1 A1982 x1981 c1983 cs1984 :: rw_ 9 1 A1477 x1476 c1478 cs1479 :: rw_ 9 1 A1192 x1191 c1193 cs1194 :: rw_ 9 1 A301 x300 c302 cs303 :: oo b1 36 (cGQuery a0 (vs Au0 a0.Variables cu0) (vs Au1 a0.Relations cu1) (vs Au2 a0.Absences cu2) (vs Au3 a0.Group cu3) (vs Au4 a0.Compute cu4) (vs Au5 a0.Order cu5)) :: F) w ∧ RC (TStr) m2102 x1981 cs1984) k1515 ?_ ?_)))))))))))
 ·have e2587 := hl378.trans (hl788.trans (hl1281.trans hl1509))
  exact ⟨_, m1513, ([]), none, 0, [], (0), au, (Nat.le_refl _), h, (Mem.le.refl _), hst, (RC.mono e2587 hrc9)⟩
 rintro k2100 ih2101 _ _ ⟨f0, m2102, x1981, A1982, c1983, cs1984, x1986, rfl, hk2099, h, hl2098, hst, hrc1985⟩
 obtain _ | k2104 := k2100
 ·simp [l36_query_l5] at h
 rw [l36_query_l5] at h
 refine sq (qr (sg 5 [vp b1 6, vs Au4 a0.Compute cu4, vi ((a0.Compute).length : Int), vb (decide (x1986 < ((a0.Compute).length : Int)))] _ (hst.q 5 6 1) (nl (tn (cn h (fun h => ?_) (fun h => ?_))))))
 ·refine wp_skip (tn (sq (bk (qr (sg 3 [vp b1 6, vs Au4 a0.Compute cu4] _ (hst.q 5 6 1) ?_)))))
  obtain ⟨x2106, hx2107, h⟩ := ix h
  have e2114 := hl378.trans (hl788.trans (hl1281.trans (hl1509.trans hl2098)))
  obtain ⟨b2108, o2109, cs2110, hR2111, hA2112, hI2113⟩ := RS.ix (P := Tryz.prog) (RS.mono e2114 hu4) hx2107
  obtain rfl := TGAggregate.open_ hR2111
  refine vl (hI2113.r .i64) (sg 1 [va (cGAggregate x2106)] _ (hst.f hA2112 0 6) (al [vi 0, vstr w_0, vstr w_0, vstr w_0, vi 0, vi 0] hst (fun b2115 _ hst => ?_)))
  refine so0 0 (cGAggregate x2106) hst (fun _ hst => ?_)
  refine nl (tn (sq (dr false (fun x => Rd m2102 (oo b2115 110 (cGAggregate x2106) :: []) x) ?_)))
  have hst := hst.drew
  refine gs [1, 2] [vp b2115 0, vi x2106.Kind] _ 4 (pqt (pqk (pqt (pqt (pqk (pqt pqb)))))) (hst.rd.with_ 0 rfl (hst.rd.none_)) (fun x hx => (hx.q 0 0 1)) ?_
  refine ge 0 rfl ?_
  obtain ⟨r2130, hq2131, h⟩ := bs h
  refine cal (c_l36_aggregates hq2131 hst) ?_
  rintro _ _ ⟨m2132, Aq2134, cq2134, rfl, hl2133, hst, hq2134⟩
  refine gn (Rd.lower hl2133 (hst.rd.with_ 0 rfl (hst.rd.none_))) ?_
  obtain ⟨x2136, hx2137, h⟩ := ix h
  obtain ⟨b2138, o2139, cs2140, hR2141, hA2142, hI2143⟩ := RS.ix (P := Tryz.prog) hq2134 hx2137
  obtain rfl : cs2140 = [vstr x2136] := hR2141
  refine wpG_strong (S2 := fun x => Rd m2132 (oo b2115 110 (cGAggregate x2106) :: []) x) (fun x hx => Rd.lower hl2133 hx) ?_
  refine gv 3 (pqt (pqk (pqt (pqt (pqk (pqt pqb)))))) (hst.rd.with_ 0 rfl (hst.rd.none_)) rfl (fun x hx => hI2143.r .i64) ?_
  refine gs [4] [vstr x2136] _ 1 (pqt (pqk (pqt (pqt (pqk (pqt pqb)))))) (hst.rd.with_ 0 rfl (hst.rd.none_)) (fun x hx => (hx.f hA2142 0 1)) ?_
  refine ge 5 rfl (sg 1 [] [] trivial (nl (tn (⟨_, fun _ h => h, .inl ⟨rfl, allListed_of _ (by kernel_rfl)⟩, ?_⟩))))
  refine gd (tn (sq (qr (sg 3 [vp b2115 0, vi x2106.Kind, vb (x2106.Kind == 7)] _ (hst.q 0 0 1) (nl (tn (cn h (fun h => ?_) (fun h => ?_))))))))
  ·refine dr false (fun x => Rd m2132 (oo b2115 110 (cGAggregate x2106) :: []) x) ?_
   have hst := hst.drew
   refine gs [0, 2, 8, 14] [vp b2115 4, vp b2115 4, vp b2115 1] [] 16 (pqt (pqk (pqt (pqt (pqk (pqt pqb)))))) (hst.rd.with_ 0 rfl (hst.rd.none_)) (fun x hx => trivial) ?_
   obtain ⟨hb2163, h⟩ := chk_some h
   refine gv 1 (pqt (pqk (pqt (pqt (pqk (pqt pqb)))))) (hst.rd.with_ 0 rfl (hst.rd.none_)) rfl (fun x hx => rad hb2163) ?_
   refine gs [3, 9, 15, 4, 10] [vp b2115 4, vp b2115 5, va (cGColumn x2106.Column), vi x2106.Q.Num, vi x2106.Q.Den] _ 10 (pqt (pqk (pqt (pqt (pqk (pqt pqb)))))) (hst.rd.with_ 0 rfl (hst.rd.none_)) (fun x hx => (hx.q 0 1 5)) ?_
   refine ge 5 rfl ?_
   obtain ⟨r2164, hq2165, h⟩ := bs h
   refine cal (c_l36_decimal hq2165 hst) ?_
   rintro _ _ ⟨m2166, rfl, hl2167, hst⟩
   refine gn (Rd.lower hl2167 (hst.rd.with_ 0 rfl (hst.rd.none_))) ?_
   obtain ⟨hb2168, h⟩ := chk_some h
   refine wpG_strong (S2 := fun x => Rd m2166 (oo b2115 110 (cGAggregate x2106) :: []) x) (fun x hx => Rd.lower hl2167 hx) ?_
   refine gv 6 (pqt (pqk (pqt (pqt (pqk (pqt pqb)))))) (hst.rd.with_ 0 rfl (hst.rd.none_)) rfl (fun x hx => rad hb2168) ?_
   obtain ⟨hb2169, h⟩ := chk_some h
   refine gv 7 (pqt (pqk (pqt (pqt (pqk (pqt pqb)))))) (hst.rd.with_ 0 rfl (hst.rd.none_)) rfl (fun x hx => rad hb2169) ?_
   refine ge 11 rfl ?_
   obtain ⟨r2170, hq2171, h⟩ := bs h
   refine cal (c_l36_decimal hq2171 hst) ?_
   rintro _ _ ⟨m2172, rfl, hl2173, hst⟩
   refine gn (Rd.lower hl2173 (hst.rd.with_ 0 rfl (hst.rd.none_))) ?_
   obtain ⟨hb2174, h⟩ := chk_some h
   refine wpG_strong (S2 := fun x => Rd m2172 (oo b2115 110 (cGAggregate x2106) :: []) x) (fun x hx => Rd.lower hl2173 hx) ?_
   refine gv 12 (pqt (pqk (pqt (pqt (pqk (pqt pqb)))))) (hst.rd.with_ 0 rfl (hst.rd.none_)) rfl (fun x hx => rad hb2174) ?_
   obtain ⟨hb2175, h⟩ := chk_some h
   refine gv 13 (pqt (pqk (pqt (pqt (pqk (pqt pqb)))))) (hst.rd.with_ 0 rfl (hst.rd.none_)) rfl (fun x hx => rad hb2175) ?_
   refine ge 16 rfl ?_
   obtain ⟨r2176, hq2177, h⟩ := bs h
   refine cal (c_l36_columnText hq2177 hst) ?_
   rintro _ _ ⟨m2178, rfl, hl2179, hst⟩
   refine gn (Rd.lower hl2179 (hst.rd.with_ 0 rfl (hst.rd.none_))) ?_
   obtain ⟨hb2180, h⟩ := chk_some h
   refine wpG_strong (S2 := fun x => Rd m2178 (oo b2115 110 (cGAggregate x2106) :: []) x) (fun x hx => Rd.lower hl2179 hx) ?_
   refine gv 17 (pqt (pqk (pqt (pqt (pqk (pqt pqb)))))) (hst.rd.with_ 0 rfl (hst.rd.none_)) rfl (fun x hx => rad hb2180) ?_
   obtain ⟨hb2181, h⟩ := chk_some h
   refine gv 18 (pqt (pqk (pqt (pqt (pqk (pqt pqb)))))) (hst.rd.with_ 0 rfl (hst.rd.none_)) rfl (fun x hx => rad hb2181) ?_
   refine ge 19 rfl (sg 1 [] [] trivial (nl (tn (⟨_, fun _ h => h, .inl ⟨rfl, allListed_of _ (by kernel_rfl)⟩, ?_⟩))))
   refine gd (tn (rg (s0 2 [] (li 9 1 [vstr (((((((x2136 ++ wx28) ++ r2164) ++ wx2f) ++ r2170) ++ wx2c20) ++ r2176) ++ wx29)] hst (fun b2182 _ hst => ?_)))))
   obtain ⟨hb2183, h⟩ := chk_some h
   have e2188 := hl2133.trans (hl2167.trans (hl2173.trans hl2179))
   refine ap3 (TStr) (xs := x1981) (ys := [(((((((x2136 ++ wx28) ++ r2164) ++ wx2f) ++ r2170) ++ wx2c20) ++ r2176) ++ wx29)]) 16 1 0 hst (RC.mono e2188 hrc1985) (RC.k1 rfl (RC.nil _ _)) hb2183 (fun A2184 c2185 cs2186 _ hrc2187 hst => ?_)
   have hst := pk0 hst
   refine s0 1 [] (nl (bn (tn (rg (s0 3 [vi (w64 (x1986 + 1))] (nl (tn ?_)))))))
   have e2189 := hl2098.trans (hl2133.trans (hl2167.trans (hl2173.trans hl2179)))
   have hst := pk0 hst
   exact ih2101 k2104 (by omega) _ _ ⟨_, m2178, ((x1981 ++ [(((((((x2136 ++ wx28) ++ r2164) ++ wx2f) ++ r2170) ++ wx2c20) ++ r2176) ++ wx29)])), A2184, c2185, cs2186, (w64 (x1986 + 1)), au, (by omega), h, e2189, hst, hrc2187⟩
  refine qr (sg 3 [vp b2115 0, vi x2106.Kind, vb (decide (x2106.Kind > 3))] _ (hst.q 0 0 1) (nl (tn (cn h (fun h => ?_) (fun h => ?_)))))
  ·refine rg (s0 1 [] ?_)
   obtain ⟨hb2190, h⟩ := chk_some h
   refine vl (rad hb2190) (sg 2 [vp b2115 1, va (cGColumn x2106.Column)] _ (hst.q 0 1 3) ?_)
   obtain ⟨r2191, hq2192, h⟩ := bs h
   refine cal (c_l36_columnText hq2192 hst) ?_
   rintro _ _ ⟨m2193, rfl, hl2194, hst⟩
   obtain ⟨hb2195, h⟩ := chk_some h
   refine vl (rad hb2195) ?_
   obtain ⟨hb2196, h⟩ := chk_some h
   refine vl (rad hb2196) (s0 1 [] (nl (tn (rg (s0 2 [] (li 9 1 [vstr (((x2136 ++ wx28) ++ r2191) ++ wx29)] hst (fun b2197 _ hst => ?_)))))))
   obtain ⟨hb2198, h⟩ := chk_some h
   have e2203 := hl2133.trans hl2194
   refine ap3 (TStr) (xs := x1981) (ys := [(((x2136 ++ wx28) ++ r2191) ++ wx29)]) 16 1 0 hst (RC.mono e2203 hrc1985) (RC.k1 rfl (RC.nil _ _)) hb2198 (fun A2199 c2200 cs2201 _ hrc2202 hst => ?_)
   have hst := pk0 hst
   refine s0 1 [] (nl (bn (tn (rg (s0 3 [vi (w64 (x1986 + 1))] (nl (tn ?_)))))))
   have e2204 := hl2098.trans (hl2133.trans hl2194)
   have hst := pk0 hst
   exact ih2101 k2104 (by omega) _ _ ⟨_, m2193, ((x1981 ++ [(((x2136 ++ wx28) ++ r2191) ++ wx29)])), A2199, c2200, cs2201, (w64 (x1986 + 1)), au, (by omega), h, e2204, hst, hrc2202⟩
  refine wp_skip (tn (rg (s0 2 [] (li 9 1 [vstr x2136] hst (fun b2205 _ hst => ?_)))))
  obtain ⟨hb2206, h⟩ := chk_some h
  refine ap3 (TStr) (xs := x1981) (ys := [x2136]) 16 1 0 hst (RC.mono hl2133 hrc1985) (RC.k1 rfl (RC.nil _ _)) hb2206 (fun A2207 c2208 cs2209 _ hrc2210 hst => ?_)
  have hst := pk0 hst
  refine s0 1 [] (nl (bn (tn (rg (s0 3 [vi (w64 (x1986 + 1))] (nl (tn ?_)))))))
  have e2211 := hl2098.trans hl2133
  have hst := pk0 hst
  exact ih2101 k2104 (by omega) _ _ ⟨_, m2132, ((x1981 ++ [x2136])), A2207, c2208, cs2209, (w64 (x1986 + 1)), au, (by omega), h, e2211, hst, hrc2210⟩
 refine wp_exit (tx (tx (bx (tn (sq (qr (s0 1 [vi 0] (nl (tn (bk (wc_loop (fun kk a w => ∃ f0 m2437 x2384 A2385 c2386 cs2387 x2389, a = act Tryz.f40.ntmps (upds f0 [(1, vp b1 0), (2, vstr w_0), (3, vs A301 x300 c302), (4, vs A1192 x1191 c1193), (5, vs A1477 x1476 c1478), (6, vs A1982 x1981 c1983), (7, vs A2385 x2384 c2386), (19, vi x2389)]) ∧ kk ≤ k2104 ∧ l36_query_l6 kk a0 x300 x1191 x1476 x1981 x2384 x2389 = some r ∧ m2102.le m2437 ∧ St g m2437 (rw_ 9 1 A2385 x2384 c2386 cs2387 :: rw_ 9 1 A1982 x1981 c1983 cs1984 :: rw_ 9 1 A1477 x1476 c1478 cs1479 :: rw_ 9 1 A1192 x1191 c1193 cs1194 :: rw_ 9 1 A301 x300 c302 cs303 :: oo b1 36 (cGQuery a0 (vs Au0 a0.Variables cu0) (vs Au1 a0.Relations cu1) (vs Au2 a0.Absences cu2) (vs Au3 a0.Group cu3) (vs Au4 a0.Compute cu4) (vs Au5 a0.Order cu5)) :: F) w ∧ RC (TStr) m2437 x2384 cs2387) k2104 ?_ ?_)))))))))))
 ·have e2586 := hl378.trans (hl788.trans (hl1281.trans (hl1509.trans hl2098)))
  exact ⟨_, m2102, ([]), none, 0, [], (0), au, (Nat.le_refl _), h, (Mem.le.refl _), hst, (RC.mono e2586 hrc11)⟩
 rintro k2435 ih2436 _ _ ⟨f0, m2437, x2384, A2385, c2386, cs2387, x2389, rfl, hk2434, h, hl2433, hst, hrc2388⟩
 obtain _ | k2439 := k2435
 ·simp [l36_query_l6] at h
 rw [l36_query_l6] at h
 refine sq (qr (sg 5 [vp b1 7, vs Au5 a0.Order cu5, vi ((a0.Order).length : Int), vb (decide (x2389 < ((a0.Order).length : Int)))] _ (hst.q 5 7 1) (nl (tn (cn h (fun h => ?_) (fun h => ?_))))))
 ·refine wp_skip (tn (sq (bk (qr (sg 3 [vp b1 7, vs Au5 a0.Order cu5] _ (hst.q 5 7 1) ?_)))))
  obtain ⟨x2441, hx2442, h⟩ := ix h
  have e2449 := hl378.trans (hl788.trans (hl1281.trans (hl1509.trans (hl2098.trans hl2433))))
  obtain ⟨b2443, o2444, cs2445, hR2446, hA2447, hI2448⟩ := RS.ix (P := Tryz.prog) (RS.mono e2449 hu5) hx2442
  obtain rfl := TGOrderKey.open_ hR2446
  refine vl (hI2448.r .i64) (sg 2 [vp b2443 o2444, vi x2441.Index] _ (hst.f hA2447 0 1) ?_)
  obtain ⟨r2450, hq2451, h⟩ := bs h
  refine cal (c_l36_decimal hq2451 hst) ?_
  rintro _ _ ⟨m2452, rfl, hl2453, hst⟩
  refine s0 1 [] (nl (tn (sq (qr (sg 3 [vp b1 7, vs Au5 a0.Order cu5] _ (hst.q 5 7 1) ?_)))))
  obtain ⟨x2455, hx2456, h⟩ := ix h
  have e2463 := e2449.trans hl2453
  obtain ⟨b2457, o2458, cs2459, hR2460, hA2461, hI2462⟩ := RS.ix (P := Tryz.prog) (RS.mono e2463 hu5) hx2456
  obtain rfl := TGOrderKey.open_ hR2460
  refine vl (hI2462.r .i64) (sg 2 [vp b2457 (o2458 + 1), vb x2455.Descending] _ (hst.f hA2461 1 1) (nl (tn (cn h (fun h => ?_) (fun h => ?_)))))
  ·refine rg (s0 1 [] ?_)
   obtain ⟨hb2464, h⟩ := chk_some h
   refine vl (rad hb2464) (s0 1 [] (nl (tn (rg (s0 2 [] (li 9 1 [vstr (r2450 ++ wx2064657363)] hst (fun b2465 _ hst => ?_)))))))
   obtain ⟨hb2466, h⟩ := chk_some h
   refine ap1 (TStr) (xs := x2384) (ys := [(r2450 ++ wx2064657363)]) 16 1 0 hst (RC.mono hl2453 hrc2388) (RC.k1 rfl (RC.nil _ _)) hb2466 (fun A2467 c2468 cs2469 _ hrc2470 hst => ?_)
   have hst := pk0 hst
   refine s0 1 [] (nl (bn (tn (rg (s0 3 [vi (w64 (x2389 + 1))] (nl (tn ?_)))))))
   have e2471 := hl2433.trans hl2453
   exact ih2436 k2439 (by omega) _ _ ⟨_, m2452, ((x2384 ++ [(r2450 ++ wx2064657363)])), A2467, c2468, cs2469, (w64 (x2389 + 1)), au, (by omega), h, e2471, hst, hrc2470⟩
  refine wp_skip (tn (rg (s0 2 [] (li 9 1 [vstr r2450] hst (fun b2472 _ hst => ?_)))))
  obtain ⟨hb2473, h⟩ := chk_some h
  refine ap1 (TStr) (xs := x2384) (ys := [r2450]) 16 1 0 hst (RC.mono hl2453 hrc2388) (RC.k1 rfl (RC.nil _ _)) hb2473 (fun A2474 c2475 cs2476 _ hrc2477 hst => ?_)
  have hst := pk0 hst
  refine s0 1 [] (nl (bn (tn (rg (s0 3 [vi (w64 (x2389 + 1))] (nl (tn ?_)))))))
  have e2478 := hl2433.trans hl2453
  exact ih2436 k2439 (by omega) _ _ ⟨_, m2452, ((x2384 ++ [r2450])), A2474, c2475, cs2476, (w64 (x2389 + 1)), au, (by omega), h, e2478, hst, hrc2477⟩
 refine wp_exit (tx (tx (bx (tn (qr (s0 1 [] ?_))))))
 have hst := pk8 hst
 have e2482 := hl788.trans (hl1281.trans (hl1509.trans (hl2098.trans hl2433)))
 obtain ⟨m2479, hl2480, hst, hs2481⟩ := hst.seal_row (T := TStr) (xs := x300) rfl (RC.mono e2482 hrc304)
 obtain ⟨r2483, hq2484, h⟩ := bs h
 refine cal (c_l36_list hq2484 hst hs2481) ?_
 rintro _ _ ⟨m2485, rfl, hl2486, hst⟩
 refine s0 1 [] ?_
 have hst := pk17 hst
 have e2490 := hl1509.trans (hl2098.trans (hl2433.trans (hl2480.trans hl2486)))
 obtain ⟨m2487, hl2488, hst, hs2489⟩ := hst.seal_row (T := TStr) (xs := x1191) rfl (RC.mono e2490 hrc1195)
 obtain ⟨r2491, hq2492, h⟩ := bs h
 refine cal (c_l36_list hq2492 hst hs2489) ?_
 rintro _ _ ⟨m2493, rfl, hl2494, hst⟩
 obtain ⟨hb2495, h⟩ := chk_some h
 refine vl (rad hb2495) (s0 1 [] (nl (tn (wc_join (fun a w => ∃ f0 k2522 m2524 x2520, a = act Tryz.f40.ntmps (upds f0 [(1, vp b1 0), (2, vstr w_0), (5, vs A1477 x1476 c1478), (6, vs A1982 x1981 c1983), (7, vs A2385 x2384 c2386), (21, vstr x2520)]) ∧ k2522 ≤ k2439 ∧ l36_query_j7 k2522 a0 x1476 x1981 x2384 x2520 = some r ∧ m2493.le m2524 ∧ St g m2524 (rw_ 9 1 A2385 x2384 c2386 cs2387 :: rw_ 9 1 A1982 x1981 c1983 cs1984 :: rw_ 9 1 A1477 x1476 c1478 cs1479 :: oo b1 36 (cGQuery a0 (vs Au0 a0.Variables cu0) (vs Au1 a0.Relations cu1) (vs Au2 a0.Absences cu2) (vs Au3 a0.Group cu3) (vs Au4 a0.Compute cu4) (vs Au5 a0.Order cu5)) :: F) w) ?_ ?_))))
 ·rintro _ _ ⟨f0, k2522, m2524, x2520, rfl, hk2523, h, hl2521, hst⟩
  obtain _ | k2525 := k2522
  ·simp [l36_query_j7] at h
  rw [l36_query_j7] at h
  refine qr (s0 2 [] ?_)
  have hst := pk5 hst
  have e2529 := hl2098.trans (hl2433.trans (hl2480.trans (hl2486.trans (hl2488.trans (hl2494.trans hl2521)))))
  obtain ⟨m2526, hl2527, hst, hs2528⟩ := hst.seal_row (T := TStr) (xs := x1476) rfl (RC.mono e2529 hrc1480)
  obtain ⟨r2530, hq2531, h⟩ := bs h
  refine cal (c_l36_list hq2531 hst hs2528) ?_
  rintro _ _ ⟨m2532, rfl, hl2533, hst⟩
  obtain ⟨hb2534, h⟩ := chk_some h
  refine vl (rad hb2534) (s0 1 [] ?_)
  have hst := pk1 hst
  have e2538 := hl2433.trans (hl2480.trans (hl2486.trans (hl2488.trans (hl2494.trans (hl2521.trans (hl2527.trans hl2533))))))
  obtain ⟨m2535, hl2536, hst, hs2537⟩ := hst.seal_row (T := TStr) (xs := x1981) rfl (RC.mono e2538 hrc1985)
  obtain ⟨r2539, hq2540, h⟩ := bs h
  refine cal (c_l36_list hq2540 hst hs2537) ?_
  rintro _ _ ⟨m2541, rfl, hl2542, hst⟩
  obtain ⟨hb2543, h⟩ := chk_some h
  refine vl (rad hb2543) (s0 1 [] ?_)
  have e2547 := hl2480.trans (hl2486.trans (hl2488.trans (hl2494.trans (hl2521.trans (hl2527.trans (hl2533.trans (hl2536.trans hl2542)))))))
  obtain ⟨m2544, hl2545, hst, hs2546⟩ := hst.seal_row (T := TStr) (xs := x2384) rfl (RC.mono e2547 hrc2388)
  obtain ⟨r2548, hq2549, h⟩ := bs h
  refine cal (c_l36_list hq2549 hst hs2546) ?_
  rintro _ _ ⟨m2550, rfl, hl2551, hst⟩
  obtain ⟨hb2552, h⟩ := chk_some h
  refine vl (rad hb2552) (s0 1 [] (nl (tn (sq (qr (sg 3 [vp b1 8, vi a0.Limit, vb (a0.Limit != 0)] _ (hst.q 0 8 1) (nl (tn (cn h (fun h => ?_) (fun h => ?_))))))))))
  ·refine rg (s0 1 [] ?_)
   obtain ⟨hb2553, h⟩ := chk_some h
   refine vl (rad hb2553) (sg 2 [vp b1 8, vi a0.Limit] _ (hst.q 0 8 1) ?_)
   obtain ⟨r2554, hq2555, h⟩ := bs h
   refine cal (c_l36_decimal hq2555 hst) ?_
   rintro _ _ ⟨m2556, rfl, hl2557, hst⟩
   obtain ⟨hb2558, h⟩ := chk_some h
   refine vl (rad hb2558) (s0 1 [] (nl (tn (qr (s0 2 [] (nl (tn (wp_ret (wr [vstr (((((x2520 ++ r2530) ++ r2539) ++ r2548) ++ wx206c696d697420) ++ r2554)] ?_)))))))))
   have hst := pk0 hst
   have e2559 := hl378.trans (hl788.trans (hl1281.trans (hl1509.trans (hl2098.trans (hl2433.trans (hl2480.trans (hl2486.trans (hl2488.trans (hl2494.trans (hl2521.trans (hl2527.trans (hl2533.trans (hl2536.trans (hl2542.trans (hl2545.trans (hl2551.trans hl2557))))))))))))))))
   cases h
   exact ⟨_, rfl, m2556, rfl, e2559, hst⟩
  refine wp_skip (tn (qr (s0 2 [] (nl (tn (wp_ret (wr [vstr (((x2520 ++ r2530) ++ r2539) ++ r2548)] ?_)))))))
  have hst := pk0 hst
  have e2560 := hl378.trans (hl788.trans (hl1281.trans (hl1509.trans (hl2098.trans (hl2433.trans (hl2480.trans (hl2486.trans (hl2488.trans (hl2494.trans (hl2521.trans (hl2527.trans (hl2533.trans (hl2536.trans (hl2542.trans (hl2545.trans hl2551)))))))))))))))
  cases h
  exact ⟨_, rfl, m2550, rfl, e2560, hst⟩
 refine qr (sg 8 [vp b1 3, vp b1 3, vi a0.Slots.From, vp b1 3, vp b1 4, vi a0.Slots.To, vi (orI .i64 a0.Slots.From a0.Slots.To), vb ((orI .i64 a0.Slots.From a0.Slots.To) != 0)] _ (hst.q 3 3 2) (nl (tn (cn h (fun h => ?_) (fun h => ?_)))))
 ·refine dr false (fun x => Rd m2493 (oo b1 36 (cGQuery a0 (vs Au0 a0.Variables cu0) (vs Au1 a0.Relations cu1) (vs Au2 a0.Absences cu2) (vs Au3 a0.Group cu3) (vs Au4 a0.Compute cu4) (vs Au5 a0.Order cu5)) :: []) x) ?_
  have hst := hst.drew
  refine gs [0, 2, 8] [vp b1 3, vp b1 3] [] 11 (pqt pqb) (hst.rd.with_ 3 rfl (hst.rd.none_)) (fun x hx => trivial) ?_
  obtain ⟨hb2573, h⟩ := chk_some h
  refine gv 1 (pqt pqb) (hst.rd.with_ 3 rfl (hst.rd.none_)) rfl (fun x hx => rad hb2573) ?_
  refine gs [3, 9, 4, 10] [vp b1 3, vp b1 4, vi a0.Slots.From, vi a0.Slots.To] _ 6 (pqt pqb) (hst.rd.with_ 3 rfl (hst.rd.none_)) (fun x hx => (hx.q 0 3 2)) ?_
  refine ge 5 rfl ?_
  obtain ⟨r2574, hq2575, h⟩ := bs h
  refine cal (c_l36_decimal hq2575 hst) ?_
  rintro _ _ ⟨m2576, rfl, hl2577, hst⟩
  refine gn (Rd.lower hl2577 (hst.rd.with_ 3 rfl (hst.rd.none_))) ?_
  obtain ⟨hb2578, h⟩ := chk_some h
  refine wpG_strong (S2 := fun x => Rd m2576 (oo b1 36 (cGQuery a0 (vs Au0 a0.Variables cu0) (vs Au1 a0.Relations cu1) (vs Au2 a0.Absences cu2) (vs Au3 a0.Group cu3) (vs Au4 a0.Compute cu4) (vs Au5 a0.Order cu5)) :: []) x) (fun x hx => Rd.lower hl2577 hx) ?_
  refine gv 6 (pqt pqb) (hst.rd.with_ 3 rfl (hst.rd.none_)) rfl (fun x hx => rad hb2578) ?_
  obtain ⟨hb2579, h⟩ := chk_some h
  refine gv 7 (pqt pqb) (hst.rd.with_ 3 rfl (hst.rd.none_)) rfl (fun x hx => rad hb2579) ?_
  refine ge 11 rfl ?_
  obtain ⟨r2580, hq2581, h⟩ := bs h
  refine cal (c_l36_decimal hq2581 hst) ?_
  rintro _ _ ⟨m2582, rfl, hl2583, hst⟩
  refine gn (Rd.lower hl2583 (hst.rd.with_ 3 rfl (hst.rd.none_))) ?_
  obtain ⟨hb2584, h⟩ := chk_some h
  refine wpG_strong (S2 := fun x => Rd m2582 (oo b1 36 (cGQuery a0 (vs Au0 a0.Variables cu0) (vs Au1 a0.Relations cu1) (vs Au2 a0.Absences cu2) (vs Au3 a0.Group cu3) (vs Au4 a0.Compute cu4) (vs Au5 a0.Order cu5)) :: []) x) (fun x hx => Rd.lower hl2583 hx) ?_
  refine gv 12 (pqt pqb) (hst.rd.with_ 3 rfl (hst.rd.none_)) rfl (fun x hx => rad hb2584) ?_
  refine ge 13 rfl (sg 1 [] [] trivial (nl (tn (⟨_, fun _ h => h, .inl ⟨rfl, allListed_of _ (by kernel_rfl)⟩, ?_⟩))))
  refine gd (tn ?_)
  have e2585 := hl2577.trans hl2583
  exact ⟨_, k2439, m2582, ((((((r2483 ++ r2491) ++ wx20736c6f747320) ++ r2574) ++ wx2e2e) ++ r2580)), au, (by omega), h, e2585, hst⟩
 refine wp_skip (tn ?_)
 exact ⟨_, k2439, m2493, ((r2483 ++ r2491)), au, (by omega), h, (Mem.le.refl _), hst⟩
abbrev R_l36_check := RInt
theorem c_l36_check {a0 : GQuery} {r : Int} (h : l36_check k a0 = some r) (hst : St g m (F) w) (hu0 : RS (TGVariable) m (vs Au0 a0.Variables cu0) a0.Variables) (hu1 : RS (TGRelation) m (vs Au1 a0.Relations cu1) a0.Relations) (hu2 : RS (TGAbsence) m (vs Au2 a0.Absences cu2) a0.Absences) (hu3 : RS (TGColumn) m (vs Au3 a0.Group cu3) a0.Group) (hu4 : RS (TGAggregate) m (vs Au4 a0.Compute cu4) a0.Compute) (hu5 : RS (TGOrderKey) m (vs Au5 a0.Order cu5) a0.Order) :
    Calls Tryz.prog 39 ⟨[va (cGQuery a0 (vs Au0 a0.Variables cu0) (vs Au1 a0.Relations cu1) (vs Au2 a0.Absences cu2) (vs Au3 a0.Group cu3) (vs Au4 a0.Compute cu4) (vs Au5 a0.Order cu5))]⟩ w (OPost (R_l36_check g m F) r) := by
 refine calls_enter Tryz.func39 rfl rfl ?_
 unfold l36_check at h
 refine qr (bo_ (cGQuery a0 (vs Au0 a0.Variables cu0) (vs Au1 a0.Relations cu1) (vs Au2 a0.Absences cu2) (vs Au3 a0.Group cu3) (vs Au4 a0.Compute cu4) (vs Au5 a0.Order cu5)) hst (fun b1 _ hst => ?_))
 refine s0 1 [vi 0] (nl (tn (sq (qr (sg 1 [va (cGQuery a0 (vs Au0 a0.Variables cu0) (vs Au1 a0.Relations cu1) (vs Au2 a0.Absences cu2) (vs Au3 a0.Group cu3) (vs Au4 a0.Compute cu4) (vs Au5 a0.Order cu5))] _ (hst.q 0 0 9) ?_)))))
 obtain ⟨r6, hq7, h⟩ := bs h
 refine cal (c_l36_checkFirst hq7 hst hu0 hu1 hu2 hu3 hu4 hu5) ?_
 rintro _ _ ⟨m8, rfl, hl9, hst⟩
 refine s0 1 [] (nl (tn (qr (s0 2 [vb (r6 != 0)] (nl (tn (cn h (fun h => ?_) (fun h => ?_))))))))
 ·refine qr (s0 2 [] (nl (tn (wp_ret (tr (wr [vi r6] ?_))))))
  have hst := pk0 hst
  have h := Option.some.inj h; subst h
  exact ⟨_, rfl, m8, rfl, hl9, hst⟩
 refine wp_skip (tn (sq (wc_join (fun a w => ∃ f0 k18 m20 x16, a = act Tryz.f39.ntmps (upds f0 [(1, vp b1 0), (2, vi 0), (35, vb x16)]) ∧ k18 ≤ k ∧ l36_check_j1 k18 a0 x16 = some r ∧ m8.le m20 ∧ St g m20 (oo b1 36 (cGQuery a0 (vs Au0 a0.Variables cu0) (vs Au1 a0.Relations cu1) (vs Au2 a0.Absences cu2) (vs Au3 a0.Group cu3) (vs Au4 a0.Compute cu4) (vs Au5 a0.Order cu5)) :: F) w) ?_ ?_)))
 ·rintro _ _ ⟨f0, k18, m20, x16, rfl, hk19, h, hl17, hst⟩
  unfold l36_check_j1 at h
  refine cn h (fun h => ?_) (fun h => ?_)
  ·refine qr (s0 1 [vi 2] (nl (tn (wp_ret (tr (wr [vi 2] ?_))))))
   have hst := pk0 hst
   have e21 := hl9.trans hl17
   have h := Option.some.inj h; subst h
   exact ⟨_, rfl, m20, rfl, e21, hst⟩
  refine wp_skip (tn (sq (qr (s0 1 [vi 0] (nl (tn (bk (wc_loop (fun kk a w => ∃ f0 m102 x82, a = act Tryz.f39.ntmps (upds f0 [(1, vp b1 0), (2, vi 0), (4, vi x82)]) ∧ kk ≤ k18 ∧ l36_check_l2 kk a0 x82 = some r ∧ m20.le m102 ∧ St g m102 (oo b1 36 (cGQuery a0 (vs Au0 a0.Variables cu0) (vs Au1 a0.Relations cu1) (vs Au2 a0.Absences cu2) (vs Au3 a0.Group cu3) (vs Au4 a0.Compute cu4) (vs Au5 a0.Order cu5)) :: F) w) k18 ?_ ?_))))))))
  ·exact ⟨_, m20, (0), au, (Nat.le_refl _), h, (Mem.le.refl _), hst⟩
  rintro k100 ih101 _ _ ⟨f0, m102, x82, rfl, hk99, h, hl98, hst⟩
  obtain _ | k104 := k100
  ·simp [l36_check_l2] at h
  rw [l36_check_l2] at h
  refine sq (qr (sg 5 [vp b1 5, vs Au3 a0.Group cu3, vi ((a0.Group).length : Int), vb (decide (x82 < ((a0.Group).length : Int)))] _ (hst.q 0 5 1) (nl (tn (cn h (fun h => ?_) (fun h => ?_))))))
  ·refine wp_skip (tn (sq (bk (qr (sg 3 [vp b1 5, vs Au3 a0.Group cu3] _ (hst.q 0 5 1) ?_)))))
   obtain ⟨x106, hx107, h⟩ := ix h
   have e114 := hl9.trans (hl17.trans hl98)
   obtain ⟨b108, o109, cs110, hR111, hA112, hI113⟩ := RS.ix (P := Tryz.prog) (RS.mono e114 hu3) hx107
   obtain rfl := TGColumn.open_ hR111
   refine vl (hI113.r .i64) (sg 1 [va (cGColumn x106)] _ (hst.f hA112 0 3) ?_)
   obtain ⟨r115, hq116, h⟩ := bs h
   refine cal (c_l36_checkColumn hq116 hst) ?_
   rintro _ _ ⟨m117, rfl, hl118, hst⟩
   refine s0 1 [] (nl (tn (qr (s0 2 [vb (r115 != 0)] (nl (tn (cn h (fun h => ?_) (fun h => ?_))))))))
   ·refine qr (s0 2 [] (nl (tn (wp_ret (br (tr (tr (br (tr (wr [vi r115] ?_))))))))))
    have hst := pk0 hst
    have e119 := e114.trans hl118
    have h := Option.some.inj h; subst h
    exact ⟨_, rfl, m117, rfl, e119, hst⟩
   refine wp_skip (bn (tn (rg (s0 3 [vi (w64 (x82 + 1))] (nl (tn ?_))))))
   have e120 := hl98.trans hl118
   exact ih101 k104 (by omega) _ _ ⟨_, m117, (w64 (x82 + 1)), au, (by omega), h, e120, hst⟩
  refine wp_exit (tx (tx (bx (tn (sq (qr (s0 1 [vi 0] (nl (tn (bk (wc_loop (fun kk a w => ∃ f0 m201 x181, a = act Tryz.f39.ntmps (upds f0 [(1, vp b1 0), (2, vi 0), (6, vi x181)]) ∧ kk ≤ k104 ∧ l36_check_l3 kk a0 x181 = some r ∧ m102.le m201 ∧ St g m201 (oo b1 36 (cGQuery a0 (vs Au0 a0.Variables cu0) (vs Au1 a0.Relations cu1) (vs Au2 a0.Absences cu2) (vs Au3 a0.Group cu3) (vs Au4 a0.Compute cu4) (vs Au5 a0.Order cu5)) :: F) w) k104 ?_ ?_)))))))))))
  ·exact ⟨_, m102, (0), au, (Nat.le_refl _), h, (Mem.le.refl _), hst⟩
  rintro k199 ih200 _ _ ⟨f0, m201, x181, rfl, hk198, h, hl197, hst⟩
  obtain _ | k203 := k199
  ·simp [l36_check_l3] at h
  rw [l36_check_l3] at h
  refine sq (qr (sg 5 [vp b1 6, vs Au4 a0.Compute cu4, vi ((a0.Compute).length : Int), vb (decide (x181 < ((a0.Compute).length : Int)))] _ (hst.q 0 6 1) (nl (tn (cn h (fun h => ?_) (fun h => ?_))))))
  ·refine wp_skip (tn (sq (bk (qr (sg 3 [vp b1 6, vs Au4 a0.Compute cu4] _ (hst.q 0 6 1) ?_)))))
   obtain ⟨x205, hx206, h⟩ := ix h
   have e213 := hl9.trans (hl17.trans (hl98.trans hl197))
   obtain ⟨b207, o208, cs209, hR210, hA211, hI212⟩ := RS.ix (P := Tryz.prog) (RS.mono e213 hu4) hx206
   obtain rfl := TGAggregate.open_ hR210
   refine vl (hI212.r .i64) (sg 1 [va (cGAggregate x205)] _ (hst.f hA211 0 6) ?_)
   obtain ⟨r214, hq215, h⟩ := bs h
   refine cal (c_l36_checkAggregate hq215 hst) ?_
   rintro _ _ ⟨m216, rfl, hl217, hst⟩
   refine s0 1 [] (nl (tn (qr (s0 2 [vb (r214 != 0)] (nl (tn (cn h (fun h => ?_) (fun h => ?_))))))))
   ·refine qr (s0 2 [] (nl (tn (wp_ret (br (tr (tr (br (tr (wr [vi r214] ?_))))))))))
    have hst := pk0 hst
    have e218 := e213.trans hl217
    have h := Option.some.inj h; subst h
    exact ⟨_, rfl, m216, rfl, e218, hst⟩
   refine wp_skip (bn (tn (rg (s0 3 [vi (w64 (x181 + 1))] (nl (tn ?_))))))
   have e219 := hl197.trans hl217
   exact ih200 k203 (by omega) _ _ ⟨_, m216, (w64 (x181 + 1)), au, (by omega), h, e219, hst⟩
  refine wp_exit (tx (tx (bx (tn (sq (qr (s0 1 [vi 0] (nl (tn (bk (wc_loop (fun kk a w => ∃ f0 m330 x304, a = act Tryz.f39.ntmps (upds f0 [(1, vp b1 0), (2, vi 0), (8, vi x304)]) ∧ kk ≤ k203 ∧ l36_check_l4 kk a0 x304 = some r ∧ m201.le m330 ∧ St g m330 (oo b1 36 (cGQuery a0 (vs Au0 a0.Variables cu0) (vs Au1 a0.Relations cu1) (vs Au2 a0.Absences cu2) (vs Au3 a0.Group cu3) (vs Au4 a0.Compute cu4) (vs Au5 a0.Order cu5)) :: F) w) k203 ?_ ?_)))))))))))
  ·exact ⟨_, m201, (0), au, (Nat.le_refl _), h, (Mem.le.refl _), hst⟩
  rintro k328 ih329 _ _ ⟨f0, m330, x304, rfl, hk327, h, hl326, hst⟩
  obtain _ | k332 := k328
  ·simp [l36_check_l4] at h
  rw [l36_check_l4] at h
  refine sq (qr (sg 5 [vp b1 7, vs Au5 a0.Order cu5, vi ((a0.Order).length : Int), vb (decide (x304 < ((a0.Order).length : Int)))] _ (hst.q 0 7 1) (nl (tn (cn h (fun h => ?_) (fun h => ?_))))))
  ·refine wp_skip (tn (sq (bk (qr (sg 3 [vp b1 7, vs Au5 a0.Order cu5] _ (hst.q 0 7 1) ?_)))))
   obtain ⟨x334, hx335, h⟩ := ix h
   have e342 := hl9.trans (hl17.trans (hl98.trans (hl197.trans hl326)))
   obtain ⟨b336, o337, cs338, hR339, hA340, hI341⟩ := RS.ix (P := Tryz.prog) (RS.mono e342 hu5) hx335
   obtain rfl := TGOrderKey.open_ hR339
   refine vl (hI341.r .i64) (sg 4 [vp b336 o337, vi x334.Index, vb (decide (x334.Index < 0))] _ (hst.f hA340 0 1) ?_)
   rcases sp h with ⟨hc343, h⟩ | ⟨hc343, h⟩
   ·rw [hc343]
    refine sk 7 (s0 1 [vb true] (nl (tn (ct (qr (s0 1 [vi 2] (nl (tn (wp_ret (br (tr (tr (br (tr (wr [vi 2] ?_)))))))))))))))
    have hst := pk0 hst
    have h := Option.some.inj h; subst h
    exact ⟨_, rfl, m330, rfl, e342, hst⟩
   rw [hc343]
   refine sg 3 [vp b1 7, vs Au5 a0.Order cu5] _ (hst.q 0 7 1) ?_
   obtain ⟨x345, hx346, h⟩ := ix h
   obtain ⟨b347, o348, cs349, hR350, hA351, hI352⟩ := RS.ix (P := Tryz.prog) (RS.mono e342 hu5) hx346
   obtain rfl := TGOrderKey.open_ hR350
   refine vl (hI352.r .i64) (sg 4 [vp b347 o348, vi x345.Index, vb (decide (x345.Index > 1048576)), vb (decide (x345.Index > 1048576))] _ (hst.f hA351 0 1) (nl (tn (cn h (fun h => ?_) (fun h => ?_)))))
   ·refine qr (s0 1 [vi 2] (nl (tn (wp_ret (br (tr (tr (br (tr (wr [vi 2] ?_))))))))))
    have hst := pk0 hst
    have h := Option.some.inj h; subst h
    exact ⟨_, rfl, m330, rfl, e342, hst⟩
   refine wp_skip (bn (tn (rg (s0 3 [vi (w64 (x304 + 1))] (nl (tn ?_))))))
   exact ih329 k332 (by omega) _ _ ⟨_, m330, (w64 (x304 + 1)), au, (by omega), h, hl326, hst⟩
  refine wp_exit (tx (tx (bx (tn (sq (qr (sg 4 [vp b1 8, vi a0.Limit, vb (decide (a0.Limit < 0))] _ (hst.q 0 8 1) ?_)))))))
  rcases sp h with ⟨hc353, h⟩ | ⟨hc353, h⟩
  ·rw [hc353]
   refine sk 3 (s0 1 [vb true] (nl (tn (ct (qr (s0 1 [vi 2] (nl (tn (wp_ret (tr (wr [vi 2] ?_)))))))))))
   have hst := pk0 hst
   have e354 := hl9.trans (hl17.trans (hl98.trans (hl197.trans hl326)))
   have h := Option.some.inj h; subst h
   exact ⟨_, rfl, m330, rfl, e354, hst⟩
  rw [hc353]
  refine sg 4 [vp b1 8, vi a0.Limit, vb (decide (a0.Limit > 1048576)), vb (decide (a0.Limit > 1048576))] _ (hst.q 0 8 1) (nl (tn (cn h (fun h => ?_) (fun h => ?_))))
  ·refine qr (s0 1 [vi 2] (nl (tn (wp_ret (tr (wr [vi 2] ?_))))))
   have hst := pk0 hst
   have e355 := hl9.trans (hl17.trans (hl98.trans (hl197.trans hl326)))
   have h := Option.some.inj h; subst h
   exact ⟨_, rfl, m330, rfl, e355, hst⟩
  refine wp_skip (tn (sq (qr (sg 1 [va (cGQuery a0 (vs Au0 a0.Variables cu0) (vs Au1 a0.Relations cu1) (vs Au2 a0.Absences cu2) (vs Au3 a0.Group cu3) (vs Au4 a0.Compute cu4) (vs Au5 a0.Order cu5))] _ (hst.q 0 0 9) ?_))))
  have e356 := hl9.trans (hl17.trans (hl98.trans (hl197.trans hl326)))
  obtain ⟨r357, hq358, h⟩ := bs h
  refine cal (c_l36_query hq358 hst (RS.mono e356 hu0) (RS.mono e356 hu1) (RS.mono e356 hu2) (RS.mono e356 hu3) (RS.mono e356 hu4) (RS.mono e356 hu5)) ?_
  rintro _ _ ⟨m359, rfl, hl360, hst⟩
  refine s0 2 [vi ((r357).length : Int), vb (decide (((r357).length : Int) > 4096))] (nl (tn (cn h (fun h => ?_) (fun h => ?_))))
  ·refine qr (s0 1 [vi 5] (nl (tn (wp_ret (tr (wr [vi 5] ?_))))))
   have hst := pk0 hst
   have e361 := e356.trans hl360
   have h := Option.some.inj h; subst h
   exact ⟨_, rfl, m359, rfl, e361, hst⟩
  refine wp_skip (tn (qr (s0 1 [vi 0] (nl (tn (wp_ret (wr [vi 0] ?_)))))))
  have hst := pk0 hst
  have e362 := e356.trans hl360
  have h := Option.some.inj h; subst h
  exact ⟨_, rfl, m359, rfl, e362, hst⟩
 refine rg (sg 5 [vp b1 3, vp b1 3, vi a0.Slots.From, vb (decide (a0.Slots.From < 0))] _ (hst.q 0 3 1) ?_)
 rcases sp h with ⟨hc363, h⟩ | ⟨hc363, h⟩
 ·rw [hc363]
  refine sk 4 (s0 2 [vb true] (sk 4 (s0 2 [vb true] (sk 4 (s0 1 [vb true] (nl (tn ?_)))))))
  exact ⟨_, k, m8, (true), au, (by omega), h, (Mem.le.refl _), hst⟩
 rw [hc363]
 refine sg 6 [vp b1 3, vp b1 3, vi a0.Slots.From, vb (decide (a0.Slots.From > 1048576)), vb (decide (a0.Slots.From > 1048576))] _ (hst.q 0 3 1) ?_
 rcases sp h with ⟨hc364, h⟩ | ⟨hc364, h⟩
 ·rw [hc364]
  refine sk 4 (s0 2 [vb true] (sk 4 (s0 1 [vb true] (nl (tn ?_)))))
  exact ⟨_, k, m8, (true), au, (by omega), h, (Mem.le.refl _), hst⟩
 rw [hc364]
 refine sg 6 [vp b1 3, vp b1 4, vi a0.Slots.To, vb (decide (a0.Slots.To < 0)), vb (decide (a0.Slots.To < 0))] _ (hst.q 0 4 1) ?_
 rcases sp h with ⟨hc365, h⟩ | ⟨hc365, h⟩
 ·rw [hc365]
  refine sk 4 (s0 1 [vb true] (nl (tn ?_)))
  exact ⟨_, k, m8, (true), au, (by omega), h, (Mem.le.refl _), hst⟩
 rw [hc365]
 refine sg 5 [vp b1 3, vp b1 4, vi a0.Slots.To, vb (decide (a0.Slots.To > 1048576)), vb (decide (a0.Slots.To > 1048576))] _ (hst.q 0 4 1) (nl (tn ?_))
 exact ⟨_, k, m8, (decide (a0.Slots.To > 1048576)), au, (by omega), h, (Mem.le.refl _), hst⟩
abbrev R_l36_smallPred := RBool
structure I_l36_smallPred (k : Nat) : Prop where
  c_l36_smallPred : ∀ {a0 : GPred} {a1 : Int} {r : Bool} {g : World} {m : Mem} {F : List Asr} {w : World} {Au0 : Option Addr} {cu0 : Nat} (h : l36_smallPred k a0 a1 = some r) (hst : St g m (F) w) (hu0 : RS (TGPred) m (vs Au0 a0.Args cu0) a0.Args),
    Calls Tryz.prog 37 ⟨[va (cGPred a0 (vs Au0 a0.Args cu0)), vi a1]⟩ w (OPost (R_l36_smallPred g m F) r)
theorem s_l36_smallPred (ih : ∀ j, j < k → I_l36_smallPred j) {a0 : GPred} {a1 : Int} {r : Bool} (h : l36_smallPred k a0 a1 = some r) (hst : St g m (F) w) (hu0 : RS (TGPred) m (vs Au0 a0.Args cu0) a0.Args) :
    Calls Tryz.prog 37 ⟨[va (cGPred a0 (vs Au0 a0.Args cu0)), vi a1]⟩ w (OPost (R_l36_smallPred g m F) r) := by
 refine calls_enter Tryz.func37 rfl rfl ?_
 obtain _ | k1 := k
 ·simp [l36_smallPred] at h
 rw [l36_smallPred] at h
 refine qr (bo_ (cGPred a0 (vs Au0 a0.Args cu0)) hst (fun b1 _ hst => ?_))
 refine s0 1 [vb false] (nl (tn (sq (wc_join (fun a w => ∃ f0 k8 m10 x6, a = act Tryz.f37.ntmps (upds f0 [(1, vi a1), (2, vp b1 0), (4, vb false), (28, vb x6)]) ∧ k8 ≤ k1 ∧ l36_smallPred_j1 k8 a0 a1 x6 = some r ∧ m.le m10 ∧ St g m10 (oo b1 44 (cGPred a0 (vs Au0 a0.Args cu0)) :: F) w) ?_ ?_))))
 ·rintro _ _ ⟨f0, k8, m10, x6, rfl, hk9, h, hl7, hst⟩
  obtain _ | k11 := k8
  ·simp [l36_smallPred_j1] at h
  rw [l36_smallPred_j1] at h
  refine cn h (fun h => ?_) (fun h => ?_)
  ·refine qr (s0 1 [vb false] (nl (tn (wp_ret (tr (wr [vb false] ?_))))))
   have hst := pk0 hst
   have h := Option.some.inj h; subst h
   exact ⟨_, rfl, m10, rfl, hl7, hst⟩
  refine wp_skip (tn (sq (qr (s0 1 [vi 0] (nl (tn (bk (wc_loop (fun kk a w => ∃ f0 m47 x27, a = act Tryz.f37.ntmps (upds f0 [(1, vi a1), (2, vp b1 0), (4, vb false), (5, vi x27)]) ∧ kk ≤ k11 ∧ l36_smallPred_l2 kk a0 a1 x27 = some r ∧ m10.le m47 ∧ St g m47 (oo b1 44 (cGPred a0 (vs Au0 a0.Args cu0)) :: F) w) k11 ?_ ?_))))))))
  ·exact ⟨_, m10, (0), au, (Nat.le_refl _), h, (Mem.le.refl _), hst⟩
  rintro k45 ih46 _ _ ⟨f0, m47, x27, rfl, hk44, h, hl43, hst⟩
  obtain _ | k49 := k45
  ·simp [l36_smallPred_l2] at h
  rw [l36_smallPred_l2] at h
  refine sq (qr (sg 5 [vp b1 6, vs Au0 a0.Args cu0, vi ((a0.Args).length : Int), vb (decide (x27 < ((a0.Args).length : Int)))] _ (hst.q 0 6 1) (nl (tn (cn h (fun h => ?_) (fun h => ?_))))))
  ·refine wp_skip (tn (sq (bk (qr (sg 3 [vp b1 6, vs Au0 a0.Args cu0] _ (hst.q 0 6 1) ?_)))))
   obtain ⟨x51, hx52, h⟩ := ix h
   have e59 := hl7.trans hl43
   obtain ⟨b53, o54, cs55, hR56, hA57, hI58⟩ := RS.ix (P := Tryz.prog) (RS.mono e59 hu0) hx52
   obtain ⟨Aq60, cq60, rfl, hq60⟩ := TGPred.opn hR56
   refine vl (hI58.r .i64) (sg 3 [va (cGPred x51 (vs Aq60 x51.Args cq60)), vi (w64 (a1 - 1))] _ (hst.f hA57 0 7) ?_)
   obtain ⟨r61, hq62, h⟩ := bs h
   refine cal ((ih k49 (by omega)).c_l36_smallPred hq62 hst hq60) ?_
   rintro _ _ ⟨m63, rfl, hl64, hst⟩
   refine s0 1 [vb (!r61)] (nl (tn (cn h (fun h => ?_) (fun h => ?_))))
   ·refine qr (s0 1 [vb false] (nl (tn (wp_ret (br (tr (tr (br (tr (wr [vb false] ?_))))))))))
    have hst := pk0 hst
    have e65 := e59.trans hl64
    have h := Option.some.inj h; subst h
    exact ⟨_, rfl, m63, rfl, e65, hst⟩
   refine wp_skip (bn (tn (rg (s0 3 [vi (w64 (x27 + 1))] (nl (tn ?_))))))
   have e66 := hl43.trans hl64
   exact ih46 k49 (by omega) _ _ ⟨_, m63, (w64 (x27 + 1)), au, (by omega), h, e66, hst⟩
  refine wp_exit (tx (tx (bx (tn (qr (s0 1 [vb true] (nl (tn (wp_ret (wr [vb true] ?_))))))))))
  have hst := pk0 hst
  have e67 := hl7.trans hl43
  have h := Option.some.inj h; subst h
  exact ⟨_, rfl, m47, rfl, e67, hst⟩
 refine rg (s0 3 [vb (a1 == 0)] ?_)
 rcases sp h with ⟨hc68, h⟩ | ⟨hc68, h⟩
 ·rw [hc68]
  refine sk 4 (s0 2 [vb true] (sk 13 (s0 1 [vb true] (nl (tn ?_)))))
  exact ⟨_, k1, m, (true), au, (by omega), h, (Mem.le.refl _), hst⟩
 rw [hc68]
 refine sg 6 [vp b1 6, vs Au0 a0.Args cu0, vi ((a0.Args).length : Int), vb (decide (((a0.Args).length : Int) > 4)), vb (decide (((a0.Args).length : Int) > 4))] _ (hst.q 0 6 1) ?_
 rcases sp h with ⟨hc69, h⟩ | ⟨hc69, h⟩
 ·rw [hc69]
  refine sk 13 (s0 1 [vb true] (nl (tn ?_)))
  exact ⟨_, k1, m, (true), au, (by omega), h, (Mem.le.refl _), hst⟩
 rw [hc69]
 refine sg 14 [vp b1 1, vstr a0.Field, vi ((a0.Field).length : Int), vp b1 2, vstr a0.Key, vi ((a0.Key).length : Int), vi (w64 (((a0.Field).length : Int) + ((a0.Key).length : Int))), vp b1 3, vp b1 4, vstr a0.Value.Text, vi ((a0.Value.Text).length : Int), vi (w64 ((w64 (((a0.Field).length : Int) + ((a0.Key).length : Int))) + ((a0.Value.Text).length : Int))), vb (decide ((w64 ((w64 (((a0.Field).length : Int) + ((a0.Key).length : Int))) + ((a0.Value.Text).length : Int))) > 80)), vb (decide ((w64 ((w64 (((a0.Field).length : Int) + ((a0.Key).length : Int))) + ((a0.Value.Text).length : Int))) > 80))] _ (AllC.app (hst.q 0 1 2) (hst.q 0 4 1)) (nl (tn ?_))
 exact ⟨_, k1, m, (decide ((w64 ((w64 (((a0.Field).length : Int) + ((a0.Key).length : Int))) + ((a0.Value.Text).length : Int))) > 80)), au, (by omega), h, (Mem.le.refl _), hst⟩
theorem i_l36_smallPred (k : Nat) : I_l36_smallPred k := by
  induction k using Nat.strongRecOn with
  | ind k ih => exact ⟨s_l36_smallPred ih⟩
theorem c_l36_smallPred {a0 : GPred} {a1 : Int} {r : Bool} (h : l36_smallPred k a0 a1 = some r) (hst : St g m (F) w) (hu0 : RS (TGPred) m (vs Au0 a0.Args cu0) a0.Args) :
    Calls Tryz.prog 37 ⟨[va (cGPred a0 (vs Au0 a0.Args cu0)), vi a1]⟩ w (OPost (R_l36_smallPred g m F) r) := (i_l36_smallPred k).c_l36_smallPred h hst hu0
abbrev R_syntax_EqualPred := RBool
abbrev R_slices_EqualFunc_api_Pred := RBool
structure I_syntax_EqualPred (k : Nat) : Prop where
  c_syntax_EqualPred : ∀ {a0 : GPred} {a1 : GPred} {r : Bool} {g : World} {m : Mem} {F : List Asr} {w : World} {Au0 : Option Addr} {cu0 : Nat} {Au1 : Option Addr} {cu1 : Nat} (h : syntax_EqualPred k a0 a1 = some r) (hst : St g m (F) w) (hu0 : RS (TGPred) m (vs Au0 a0.Args cu0) a0.Args) (hu1 : RS (TGPred) m (vs Au1 a1.Args cu1) a1.Args),
    Calls Tryz.prog 36 ⟨[va (cGPred a0 (vs Au0 a0.Args cu0)), va (cGPred a1 (vs Au1 a1.Args cu1))]⟩ w (OPost (R_syntax_EqualPred g m F) r)
  c_slices_EqualFunc_api_Pred : ∀ {a0 : List GPred} {a1 : List GPred} {r : Bool} {g : World} {m : Mem} {F : List Asr} {w : World} {Au0 : Option Addr} {cu0 : Nat} {Au1 : Option Addr} {cu1 : Nat} (h : slices_EqualFunc_api_Pred k a0 a1 = some r) (hst : St g m (F) w) (hu0 : RS (TGPred) m (vs Au0 a0 cu0) a0) (hu1 : RS (TGPred) m (vs Au1 a1 cu1) a1),
    Calls Tryz.prog 77 ⟨[vs Au0 a0 cu0, vs Au1 a1 cu1, vf 36 [] []]⟩ w (OPost (R_slices_EqualFunc_api_Pred g m F) r)
theorem s_syntax_EqualPred (ih : ∀ j, j < k → I_syntax_EqualPred j) {a0 : GPred} {a1 : GPred} {r : Bool} (h : syntax_EqualPred k a0 a1 = some r) (hst : St g m (F) w) (hu0 : RS (TGPred) m (vs Au0 a0.Args cu0) a0.Args) (hu1 : RS (TGPred) m (vs Au1 a1.Args cu1) a1.Args) :
    Calls Tryz.prog 36 ⟨[va (cGPred a0 (vs Au0 a0.Args cu0)), va (cGPred a1 (vs Au1 a1.Args cu1))]⟩ w (OPost (R_syntax_EqualPred g m F) r) := by
 refine calls_enter Tryz.func36 rfl rfl ?_
 obtain _ | k1 := k
 ·simp [syntax_EqualPred] at h
 rw [syntax_EqualPred] at h
 refine qr (bo_ (cGPred a0 (vs Au0 a0.Args cu0)) hst (fun b1 _ hst => ?_))
 refine bo_ (cGPred a1 (vs Au1 a1.Args cu1)) hst (fun b2 _ hst => ?_)
 refine s0 1 [vb false] (nl (tn (qr (sg 6 [vp b1 0, vi a0.Op, vp b2 0, vi a1.Op, vb (a0.Op == a1.Op)] _ (AllC.app (hst.q 1 0 1) (hst.q 0 0 1)) ?_))))
 rcases sp h with ⟨hc3, h⟩ | ⟨hc3, h⟩
 ·rw [hc3]
  refine sg 4 [vp b1 1, vstr a0.Field, vp b2 1, vstr a1.Field] _ (AllC.app (hst.q 1 1 1) (hst.q 0 1 1)) (vl (re a0.Field a1.Field) (s0 2 [vb (a0.Field == a1.Field)] ?_))
  rcases sp h with ⟨hc4, h⟩ | ⟨hc4, h⟩
  ·rw [hc4]
   refine sg 4 [vp b1 2, vstr a0.Key, vp b2 2, vstr a1.Key] _ (AllC.app (hst.q 1 2 1) (hst.q 0 2 1)) (vl (re a0.Key a1.Key) (s0 2 [vb (a0.Key == a1.Key)] ?_))
   rcases sp h with ⟨hc5, h⟩ | ⟨hc5, h⟩
   ·rw [hc5]
    refine sg 4 [vp b1 3, va (cGValue a0.Value), vp b2 3, va (cGValue a1.Value)] _ (AllC.app (hst.q 1 3 3) (hst.q 0 3 3)) (vl (rae ((a0.Value.Kind == a1.Value.Kind) && ((a0.Value.Text == a1.Value.Text) && ((a0.Value.Int == a1.Value.Int) && true))) (cGValue a0.Value) (cGValue a1.Value)) (s0 2 [vb ((a0.Value.Kind == a1.Value.Kind) && ((a0.Value.Text == a1.Value.Text) && ((a0.Value.Int == a1.Value.Int) && true)))] ?_))
    rcases sp h with ⟨hc6, h⟩ | ⟨hc6, h⟩
    ·rw [hc6]
     refine sg 4 [vp b1 6, vs Au0 a0.Args cu0, vp b2 6, vs Au1 a1.Args cu1] _ (AllC.app (hst.q 1 6 1) (hst.q 0 6 1)) ?_
     obtain ⟨r7, hq8, h⟩ := bs h
     refine cal ((ih k1 (by omega)).c_slices_EqualFunc_api_Pred hq8 hst hu0 hu1) ?_
     rintro _ _ ⟨m9, rfl, hl10, hst⟩
     refine s0 2 [vb r7] (nl (tn (wp_ret (wr [vb r7] ?_))))
     have hst := pk2 hst
     have h := Option.some.inj h; subst h
     exact ⟨_, rfl, m9, rfl, hl10, hst⟩
    rw [hc6]
    refine sk 5 (s0 2 [vb false] (nl (tn (wp_ret (wr [vb false] ?_)))))
    have hst := pk2 hst
    have h := Option.some.inj h; subst h
    exact ⟨_, rfl, m, rfl, (Mem.le.refl _), hst⟩
   rw [hc5]
   refine sk 5 (s0 2 [vb false] (sk 5 (s0 2 [vb false] (nl (tn (wp_ret (wr [vb false] ?_)))))))
   have hst := pk2 hst
   have h := Option.some.inj h; subst h
   exact ⟨_, rfl, m, rfl, (Mem.le.refl _), hst⟩
  rw [hc4]
  refine sk 5 (s0 2 [vb false] (sk 5 (s0 2 [vb false] (sk 5 (s0 2 [vb false] (nl (tn (wp_ret (wr [vb false] ?_)))))))))
  have hst := pk2 hst
  have h := Option.some.inj h; subst h
  exact ⟨_, rfl, m, rfl, (Mem.le.refl _), hst⟩
 rw [hc3]
 refine sk 5 (s0 2 [vb false] (sk 5 (s0 2 [vb false] (sk 5 (s0 2 [vb false] (sk 5 (s0 2 [vb false] (nl (tn (wp_ret (wr [vb false] ?_)))))))))))
 have hst := pk2 hst
 have h := Option.some.inj h; subst h
 exact ⟨_, rfl, m, rfl, (Mem.le.refl _), hst⟩
theorem s_slices_EqualFunc_api_Pred (ih : ∀ j, j < k → I_syntax_EqualPred j) {a0 : List GPred} {a1 : List GPred} {r : Bool} (h : slices_EqualFunc_api_Pred k a0 a1 = some r) (hst : St g m (F) w) (hu0 : RS (TGPred) m (vs Au0 a0 cu0) a0) (hu1 : RS (TGPred) m (vs Au1 a1 cu1) a1) :
    Calls Tryz.prog 77 ⟨[vs Au0 a0 cu0, vs Au1 a1 cu1, vf 36 [] []]⟩ w (OPost (R_slices_EqualFunc_api_Pred g m F) r) := by
 refine calls_enter Tryz.func77 rfl rfl ?_
 obtain _ | k1 := k
 ·simp [slices_EqualFunc_api_Pred] at h
 rw [slices_EqualFunc_api_Pred] at h
 refine qr (s0 1 [vb false] (nl (tn (sq (qr (s0 5 [vi ((a0).length : Int), vi ((a1).length : Int), vb (((a0).length : Int) != ((a1).length : Int))] (nl (tn (cn h (fun h => ?_) (fun h => ?_))))))))))
 ·refine qr (s0 1 [vb false] (nl (tn (wp_ret (tr (wr [vb false] ?_))))))
  have h := Option.some.inj h; subst h
  exact ⟨_, rfl, m, rfl, (Mem.le.refl _), hst⟩
 refine wp_skip (tn (sq (qr (s0 3 [vi ((a0).length : Int), vi 0] (nl (tn (bk (wc_loop (fun kk a w => ∃ f0 m68 x32, a = act Tryz.f77.ntmps (upds f0 [(1, vs Au1 a1 cu1), (2, vf 36 [] []), (6, vb false), (15, vs Au0 a0 cu0), (16, vi ((a0).length : Int)), (17, vi x32)]) ∧ kk ≤ k1 ∧ slices_EqualFunc_api_Pred_l1 kk a0 a1 x32 = some r ∧ m.le m68 ∧ St g m68 (F) w) k1 ?_ ?_))))))))
 ·exact ⟨_, m, (0), au, (Nat.le_refl _), h, (Mem.le.refl _), hst⟩
 rintro k66 ih67 _ _ ⟨f0, m68, x32, rfl, hk65, h, hl64, hst⟩
 obtain _ | k70 := k66
 ·simp [slices_EqualFunc_api_Pred_l1] at h
 rw [slices_EqualFunc_api_Pred_l1] at h
 refine qr (s0 1 [vb (decide (x32 < ((a0).length : Int)))] (nl (tn (sq (cn h (fun h => ?_) (fun h => ?_))))))
 ·refine wp_skip (tn (sq (bk (qr (s0 1 [] ?_)))))
  obtain ⟨x72, hx73, h⟩ := ix h
  obtain ⟨b74, o75, cs76, hR77, hA78, hI79⟩ := RS.ix (P := Tryz.prog) (RS.mono hl64 hu0) hx73
  obtain ⟨Aq80, cq80, rfl, hq80⟩ := TGPred.opn hR77
  refine vl (hI79.r .i64) (sg 1 [va (cGPred x72 (vs Aq80 x72.Args cq80))] _ (hst.f hA78 0 7) (al [vi 0, vstr w_0, vstr w_0, vi 0, vstr w_0, vi 0, vn] hst (fun b81 _ hst => ?_)))
  have hrc83 := RC.nil (TGPred) m68
  have hst := hst.nil_row 44 7
  refine s0 1 [] (so1 0 (cGPred x72 (vs Aq80 x72.Args cq80)) hst (fun _ hst => ?_))
  refine nl (tn (qr (s0 2 [] ?_)))
  obtain ⟨x85, hx86, h⟩ := ix h
  obtain ⟨b87, o88, cs89, hR90, hA91, hI92⟩ := RS.ix (P := Tryz.prog) (RS.mono hl64 hu1) hx86
  obtain ⟨Aq93, cq93, rfl, hq93⟩ := TGPred.opn hR90
  refine vl (hI92.r .i64) (sg 1 [va (cGPred x85 (vs Aq93 x85.Args cq93))] _ (hst.f hA91 0 7) (al [vi 0, vstr w_0, vstr w_0, vi 0, vstr w_0, vi 0, vn] hst (fun b94 _ hst => ?_)))
  have hrc96 := RC.nil (TGPred) m68
  have hst := hst.nil_row 44 7
  refine so1 0 (cGPred x85 (vs Aq93 x85.Args cq93)) hst (fun _ hst => ?_)
  refine nl (tn (qr ?_))
  have hst := pk15 hst
  refine sg 3 [va (cGPred x72 (vs Aq80 x72.Args cq80)), va (cGPred x85 (vs Aq93 x85.Args cq93))] _ (AllC.app (hst.q 1 0 7) (hst.q 0 0 7)) ?_
  obtain ⟨r97, hq98, h⟩ := bs h
  refine cal ((ih k70 (by omega)).c_syntax_EqualPred hq98 hst hq80 hq93) ?_
  rintro _ _ ⟨m99, rfl, hl100, hst⟩
  refine s0 1 [vb (!r97)] (nl (tn (cn h (fun h => ?_) (fun h => ?_))))
  ·refine qr (s0 1 [vb false] (nl (tn (wp_ret (br (tr (tr (br (tr (wr [vb false] ?_))))))))))
   have hst := pk2 hst
   have e101 := hl64.trans hl100
   have h := Option.some.inj h; subst h
   exact ⟨_, rfl, m99, rfl, e101, hst⟩
  refine wp_skip (bn (tn (rg (s0 2 [vi (w64 (x32 + 1))] (nl (tn ?_))))))
  have e102 := hl64.trans hl100
  have hst := pk2 hst
  exact ih67 k70 (by omega) _ _ ⟨_, m99, (w64 (x32 + 1)), au, (by omega), h, e102, hst⟩
 refine wp_exit (tx (tx (bx (tn (qr (s0 1 [vb true] (nl (tn (wp_ret (wr [vb true] ?_))))))))))
 have h := Option.some.inj h; subst h
 exact ⟨_, rfl, m68, rfl, hl64, hst⟩
theorem i_syntax_EqualPred (k : Nat) : I_syntax_EqualPred k := by
  induction k using Nat.strongRecOn with
  | ind k ih => exact ⟨s_syntax_EqualPred ih, s_slices_EqualFunc_api_Pred ih⟩
theorem c_syntax_EqualPred {a0 : GPred} {a1 : GPred} {r : Bool} (h : syntax_EqualPred k a0 a1 = some r) (hst : St g m (F) w) (hu0 : RS (TGPred) m (vs Au0 a0.Args cu0) a0.Args) (hu1 : RS (TGPred) m (vs Au1 a1.Args cu1) a1.Args) :
    Calls Tryz.prog 36 ⟨[va (cGPred a0 (vs Au0 a0.Args cu0)), va (cGPred a1 (vs Au1 a1.Args cu1))]⟩ w (OPost (R_syntax_EqualPred g m F) r) := (i_syntax_EqualPred k).c_syntax_EqualPred h hst hu0 hu1
theorem c_slices_EqualFunc_api_Pred {a0 : List GPred} {a1 : List GPred} {r : Bool} (h : slices_EqualFunc_api_Pred k a0 a1 = some r) (hst : St g m (F) w) (hu0 : RS (TGPred) m (vs Au0 a0 cu0) a0) (hu1 : RS (TGPred) m (vs Au1 a1 cu1) a1) :
    Calls Tryz.prog 77 ⟨[vs Au0 a0 cu0, vs Au1 a1 cu1, vf 36 [] []]⟩ w (OPost (R_slices_EqualFunc_api_Pred g m F) r) := (i_syntax_EqualPred k).c_slices_EqualFunc_api_Pred h hst hu0 hu1
abbrev R_syntax_equalVariables := RBool
theorem c_syntax_equalVariables {a0 : GVariable} {a1 : GVariable} {r : Bool} (h : syntax_equalVariables k a0 a1 = some r) (hst : St g m (F) w) (hu0 : RS (TGPred) m (vs Au0 a0.Where.Args cu0) a0.Where.Args) (hu1 : RS (TGPred) m (vs Au1 a1.Where.Args cu1) a1.Where.Args) :
    Calls Tryz.prog 89 ⟨[va (cGVariable a0 (vs Au0 a0.Where.Args cu0)), va (cGVariable a1 (vs Au1 a1.Where.Args cu1))]⟩ w (OPost (R_syntax_equalVariables g m F) r) := by
 refine calls_enter Tryz.func89 rfl rfl ?_
 unfold syntax_equalVariables at h
 refine qr (bo_ (cGVariable a0 (vs Au0 a0.Where.Args cu0)) hst (fun b1 _ hst => ?_))
 refine bo_ (cGVariable a1 (vs Au1 a1.Where.Args cu1)) hst (fun b2 _ hst => ?_)
 refine s0 1 [vb false] (nl (tn (qr (sg 4 [vp b1 0, vstr a0.Name, vp b2 0, vstr a1.Name] _ (AllC.app (hst.q 1 0 1) (hst.q 0 0 1)) (vl (re a0.Name a1.Name) (s0 1 [] ?_))))))
 rcases sp h with ⟨hc3, h⟩ | ⟨hc3, h⟩
 ·rw [hc3]
  refine sg 4 [vp b1 1, va (cGPred a0.Where (vs Au0 a0.Where.Args cu0)), vp b2 1, va (cGPred a1.Where (vs Au1 a1.Where.Args cu1))] _ (AllC.app (hst.q 1 1 7) (hst.q 0 1 7)) ?_
  obtain ⟨r4, hq5, h⟩ := bs h
  refine cal (c_syntax_EqualPred hq5 hst hu0 hu1) ?_
  rintro _ _ ⟨m6, rfl, hl7, hst⟩
  refine s0 2 [vb r4] (nl (tn (wp_ret (wr [vb r4] ?_))))
  have hst := pk2 hst
  have h := Option.some.inj h; subst h
  exact ⟨_, rfl, m6, rfl, hl7, hst⟩
 rw [hc3]
 refine sk 5 (s0 2 [vb false] (nl (tn (wp_ret (wr [vb false] ?_)))))
 have hst := pk2 hst
 have h := Option.some.inj h; subst h
 exact ⟨_, rfl, m, rfl, (Mem.le.refl _), hst⟩
abbrev R_slices_EqualFunc_api_Variable := RBool
theorem c_slices_EqualFunc_api_Variable {a0 : List GVariable} {a1 : List GVariable} {r : Bool} (h : slices_EqualFunc_api_Variable k a0 a1 = some r) (hst : St g m (F) w) (hu0 : RS (TGVariable) m (vs Au0 a0 cu0) a0) (hu1 : RS (TGVariable) m (vs Au1 a1 cu1) a1) :
    Calls Tryz.prog 90 ⟨[vs Au0 a0 cu0, vs Au1 a1 cu1, vf 89 [] []]⟩ w (OPost (R_slices_EqualFunc_api_Variable g m F) r) := by
 refine calls_enter Tryz.func90 rfl rfl ?_
 unfold slices_EqualFunc_api_Variable at h
 refine qr (s0 1 [vb false] (nl (tn (sq (qr (s0 5 [vi ((a0).length : Int), vi ((a1).length : Int), vb (((a0).length : Int) != ((a1).length : Int))] (nl (tn (cn h (fun h => ?_) (fun h => ?_))))))))))
 ·refine qr (s0 1 [vb false] (nl (tn (wp_ret (tr (wr [vb false] ?_))))))
  have h := Option.some.inj h; subst h
  exact ⟨_, rfl, m, rfl, (Mem.le.refl _), hst⟩
 refine wp_skip (tn (sq (qr (s0 3 [vi ((a0).length : Int), vi 0] (nl (tn (bk (wc_loop (fun kk a w => ∃ f0 m60 x28, a = act Tryz.f90.ntmps (upds f0 [(1, vs Au1 a1 cu1), (2, vf 89 [] []), (6, vb false), (15, vs Au0 a0 cu0), (16, vi ((a0).length : Int)), (17, vi x28)]) ∧ kk ≤ k ∧ slices_EqualFunc_api_Variable_l1 kk a0 a1 x28 = some r ∧ m.le m60 ∧ St g m60 (F) w) k ?_ ?_))))))))
 ·exact ⟨_, m, (0), au, (Nat.le_refl _), h, (Mem.le.refl _), hst⟩
 rintro k58 ih59 _ _ ⟨f0, m60, x28, rfl, hk57, h, hl56, hst⟩
 obtain _ | k62 := k58
 ·simp [slices_EqualFunc_api_Variable_l1] at h
 rw [slices_EqualFunc_api_Variable_l1] at h
 refine qr (s0 1 [vb (decide (x28 < ((a0).length : Int)))] (nl (tn (sq (cn h (fun h => ?_) (fun h => ?_))))))
 ·refine wp_skip (tn (sq (bk (qr (s0 1 [] ?_)))))
  obtain ⟨x64, hx65, h⟩ := ix h
  obtain ⟨b66, o67, cs68, hR69, hA70, hI71⟩ := RS.ix (P := Tryz.prog) (RS.mono hl56 hu0) hx65
  obtain ⟨Aq72, cq72, rfl, hq72⟩ := TGVariable.opn hR69
  refine vl (hI71.r .i64) (sg 1 [va (cGVariable x64 (vs Aq72 x64.Where.Args cq72))] _ (hst.f hA70 0 8) (al [vstr w_0, vi 0, vstr w_0, vstr w_0, vi 0, vstr w_0, vi 0, vn] hst (fun b73 _ hst => ?_)))
  refine s0 1 [] (so0 0 (cGVariable x64 (vs Aq72 x64.Where.Args cq72)) hst (fun _ hst => ?_))
  refine nl (tn (qr (s0 2 [] ?_)))
  obtain ⟨x75, hx76, h⟩ := ix h
  obtain ⟨b77, o78, cs79, hR80, hA81, hI82⟩ := RS.ix (P := Tryz.prog) (RS.mono hl56 hu1) hx76
  obtain ⟨Aq83, cq83, rfl, hq83⟩ := TGVariable.opn hR80
  refine vl (hI82.r .i64) (sg 1 [va (cGVariable x75 (vs Aq83 x75.Where.Args cq83))] _ (hst.f hA81 0 8) (al [vstr w_0, vi 0, vstr w_0, vstr w_0, vi 0, vstr w_0, vi 0, vn] hst (fun b84 _ hst => ?_)))
  refine so0 0 (cGVariable x75 (vs Aq83 x75.Where.Args cq83)) hst (fun _ hst => ?_)
  refine nl (tn (qr (sg 3 [va (cGVariable x64 (vs Aq72 x64.Where.Args cq72)), va (cGVariable x75 (vs Aq83 x75.Where.Args cq83))] _ (AllC.app (hst.q 1 0 8) (hst.q 0 0 8)) ?_)))
  obtain ⟨r85, hq86, h⟩ := bs h
  refine cal (c_syntax_equalVariables hq86 hst hq72 hq83) ?_
  rintro _ _ ⟨m87, rfl, hl88, hst⟩
  refine s0 1 [vb (!r85)] (nl (tn (cn h (fun h => ?_) (fun h => ?_))))
  ·refine qr (s0 1 [vb false] (nl (tn (wp_ret (br (tr (tr (br (tr (wr [vb false] ?_))))))))))
   have hst := pk2 hst
   have e89 := hl56.trans hl88
   have h := Option.some.inj h; subst h
   exact ⟨_, rfl, m87, rfl, e89, hst⟩
  refine wp_skip (bn (tn (rg (s0 2 [vi (w64 (x28 + 1))] (nl (tn ?_))))))
  have e90 := hl56.trans hl88
  have hst := pk2 hst
  exact ih59 k62 (by omega) _ _ ⟨_, m87, (w64 (x28 + 1)), au, (by omega), h, e90, hst⟩
 refine wp_exit (tx (tx (bx (tn (qr (s0 1 [vb true] (nl (tn (wp_ret (wr [vb true] ?_))))))))))
 have h := Option.some.inj h; subst h
 exact ⟨_, rfl, m60, rfl, hl56, hst⟩
abbrev R_slices_Equal_api_Relation := RBool
theorem c_slices_Equal_api_Relation {a0 : List GRelation} {a1 : List GRelation} {r : Bool} (h : slices_Equal_api_Relation k a0 a1 = some r) (hst : St g m (F) w) (hu0 : RS (TGRelation) m (vs Au0 a0 cu0) a0) (hu1 : RS (TGRelation) m (vs Au1 a1 cu1) a1) :
    Calls Tryz.prog 91 ⟨[vs Au0 a0 cu0, vs Au1 a1 cu1]⟩ w (OPost (R_slices_Equal_api_Relation g m F) r) := by
 refine calls_enter Tryz.func91 rfl rfl ?_
 unfold slices_Equal_api_Relation at h
 refine qr (s0 1 [vb false] (nl (tn (sq (qr (s0 5 [vi ((a0).length : Int), vi ((a1).length : Int), vb (((a0).length : Int) != ((a1).length : Int))] (nl (tn (cn h (fun h => ?_) (fun h => ?_))))))))))
 ·refine qr (s0 1 [vb false] (nl (tn (wp_ret (tr (wr [vb false] ?_))))))
  have h := Option.some.inj h; subst h
  exact ⟨_, rfl, m, rfl, (Mem.le.refl _), hst⟩
 refine wp_skip (tn (sq (qr (s0 3 [vi ((a0).length : Int), vi 0] (nl (tn (bk (wc_loop (fun kk a w => ∃ f0 m80 x38, a = act Tryz.f91.ntmps (upds f0 [(0, vs Au0 a0 cu0), (1, vs Au1 a1 cu1), (4, vb false), (12, vi ((a0).length : Int)), (13, vi x38)]) ∧ kk ≤ k ∧ slices_Equal_api_Relation_l1 kk a0 a1 x38 = some r ∧ m.le m80 ∧ St g m80 (F) w) k ?_ ?_))))))))
 ·exact ⟨_, m, (0), au, (Nat.le_refl _), h, (Mem.le.refl _), hst⟩
 rintro k78 ih79 _ _ ⟨f0, m80, x38, rfl, hk77, h, hl76, hst⟩
 obtain _ | k82 := k78
 ·simp [slices_Equal_api_Relation_l1] at h
 rw [slices_Equal_api_Relation_l1] at h
 refine qr (s0 1 [vb (decide (x38 < ((a0).length : Int)))] (nl (tn (sq (cn h (fun h => ?_) (fun h => ?_))))))
 ·refine wp_skip (tn (sq (bk (qr (s0 2 [] (nl (tn (sq (dr false (fun x => Rd m80 ([]) x) ?_)))))))))
  have hst := hst.drew
  refine gs [0, 1, 4, 5] [] [] 5 (pqt (pqk (pqt (pqt (pqk (pqt pqb)))))) (hst.rd.none_) (fun x hx => trivial) ?_
  obtain ⟨x102, hx103, h⟩ := ix h
  obtain ⟨b104, o105, cs106, hR107, hA108, hI109⟩ := RS.ix (P := Tryz.prog) (RS.mono hl76 hu0) hx103
  obtain rfl := TGRelation.open_ hR107
  refine gv 2 (pqt (pqk (pqt (pqt (pqk (pqt pqb)))))) (hst.rd.none_) rfl (fun x hx => hI109.r .i64) ?_
  refine gs [3] [va (cGRelation x102)] _ 3 (pqt (pqk (pqt (pqt (pqk (pqt pqb)))))) (hst.rd.none_) (fun x hx => (hx.f hA108 0 3)) ?_
  obtain ⟨x111, hx112, h⟩ := ix h
  obtain ⟨b113, o114, cs115, hR116, hA117, hI118⟩ := RS.ix (P := Tryz.prog) (RS.mono hl76 hu1) hx112
  obtain rfl := TGRelation.open_ hR116
  refine gv 6 (pqt (pqk (pqt (pqt (pqk (pqt pqb)))))) (hst.rd.none_) rfl (fun x hx => hI118.r .i64) ?_
  refine gs [7] [va (cGRelation x111)] _ 1 (pqt (pqk (pqt (pqt (pqk (pqt pqb)))))) (hst.rd.none_) (fun x hx => (hx.f hA117 0 3)) ?_
  refine ge 8 rfl (vl (ran ((x102.Kind == x111.Kind) && ((x102.A == x111.A) && ((x102.B == x111.B) && true))) (cGRelation x102) (cGRelation x111)) (nl (tn (⟨_, fun _ h => h, .inl ⟨rfl, allListed_of _ (by kernel_rfl)⟩, ?_⟩))))
  refine gd (tn (cn h (fun h => ?_) (fun h => ?_)))
  ·refine qr (s0 1 [vb false] (nl (tn (wp_ret (br (tr (tr (br (tr (wr [vb false] ?_))))))))))
   have h := Option.some.inj h; subst h
   exact ⟨_, rfl, m80, rfl, hl76, hst⟩
  refine wp_skip (bn (tn (rg (s0 2 [vi (w64 (x38 + 1))] (nl (tn ?_))))))
  exact ih79 k82 (by omega) _ _ ⟨_, m80, (w64 (x38 + 1)), au, (by omega), h, hl76, hst⟩
 refine wp_exit (tx (tx (bx (tn (qr (s0 1 [vb true] (nl (tn (wp_ret (wr [vb true] ?_))))))))))
 have h := Option.some.inj h; subst h
 exact ⟨_, rfl, m80, rfl, hl76, hst⟩
abbrev R_syntax_Equal_c1 := RBool
theorem c_syntax_Equal_c1 {a0 : GAbsence} {a1 : GAbsence} {r : Bool} (h : syntax_Equal_c1 k a0 a1 = some r) (hst : St g m (F) w) (hu0 : RS (TGPred) m (vs Au0 a0.Variable.Where.Args cu0) a0.Variable.Where.Args) (hu1 : RS (TGPred) m (vs Au1 a1.Variable.Where.Args cu1) a1.Variable.Where.Args) :
    Calls Tryz.prog 88 ⟨[va (cGAbsence a0 (vs Au0 a0.Variable.Where.Args cu0)), va (cGAbsence a1 (vs Au1 a1.Variable.Where.Args cu1))]⟩ w (OPost (R_syntax_Equal_c1 g m F) r) := by
 refine calls_enter Tryz.func88 rfl rfl ?_
 unfold syntax_Equal_c1 at h
 refine qr (bo_ (cGAbsence a0 (vs Au0 a0.Variable.Where.Args cu0)) hst (fun b1 _ hst => ?_))
 refine bo_ (cGAbsence a1 (vs Au1 a1.Variable.Where.Args cu1)) hst (fun b2 _ hst => ?_)
 refine s0 1 [vb false] (nl (tn (qr (sg 4 [vp b1 0, va (cGVariable a0.Variable (vs Au0 a0.Variable.Where.Args cu0)), vp b2 0, va (cGVariable a1.Variable (vs Au1 a1.Variable.Where.Args cu1))] _ (AllC.app (hst.q 1 0 8) (hst.q 0 0 8)) ?_))))
 obtain ⟨r3, hq4, h⟩ := bs h
 refine cal (c_syntax_equalVariables hq4 hst hu0 hu1) ?_
 rintro _ _ ⟨m5, rfl, hl6, hst⟩
 refine s0 1 [] ?_
 rcases sp h with ⟨hc7, h⟩ | ⟨hc7, h⟩
 ·rw [hc7]
  refine sg 7 [vp b1 8, vi a0.Kind, vp b2 8, vi a1.Kind, vb (a0.Kind == a1.Kind), vb (a0.Kind == a1.Kind)] _ (AllC.app (hst.q 1 8 1) (hst.q 0 8 1)) ?_
  rcases sp h with ⟨hc8, h⟩ | ⟨hc8, h⟩
  ·rw [hc8]
   refine sg 4 [vp b1 9, vstr a0.Other, vp b2 9, vstr a1.Other] _ (AllC.app (hst.q 1 9 1) (hst.q 0 9 1)) (vl (re a0.Other a1.Other) (s0 2 [vb (a0.Other == a1.Other)] ?_))
   rcases sp h with ⟨hc9, h⟩ | ⟨hc9, h⟩
   ·rw [hc9]
    refine sg 7 [vp b1 10, vb a0.First, vp b2 10, vb a1.First, vb (a0.First == a1.First), vb (a0.First == a1.First)] _ (AllC.app (hst.q 1 10 1) (hst.q 0 10 1)) (nl (tn (wp_ret (wr [vb (a0.First == a1.First)] ?_))))
    have hst := pk2 hst
    cases h
    exact ⟨_, rfl, m5, rfl, hl6, hst⟩
   rw [hc9]
   refine sk 5 (s0 2 [vb false] (nl (tn (wp_ret (wr [vb false] ?_)))))
   have hst := pk2 hst
   have h := Option.some.inj h; subst h
   exact ⟨_, rfl, m5, rfl, hl6, hst⟩
  rw [hc8]
  refine sk 5 (s0 2 [vb false] (sk 5 (s0 2 [vb false] (nl (tn (wp_ret (wr [vb false] ?_)))))))
  have hst := pk2 hst
  have h := Option.some.inj h; subst h
  exact ⟨_, rfl, m5, rfl, hl6, hst⟩
 rw [hc7]
 refine sk 5 (s0 2 [vb false] (sk 5 (s0 2 [vb false] (sk 5 (s0 2 [vb false] (nl (tn (wp_ret (wr [vb false] ?_)))))))))
 have hst := pk2 hst
 have h := Option.some.inj h; subst h
 exact ⟨_, rfl, m5, rfl, hl6, hst⟩
abbrev R_slices_EqualFunc_api_Absence := RBool
theorem c_slices_EqualFunc_api_Absence {a0 : List GAbsence} {a1 : List GAbsence} {r : Bool} (h : slices_EqualFunc_api_Absence k a0 a1 = some r) (hst : St g m (F) w) (hu0 : RS (TGAbsence) m (vs Au0 a0 cu0) a0) (hu1 : RS (TGAbsence) m (vs Au1 a1 cu1) a1) :
    Calls Tryz.prog 92 ⟨[vs Au0 a0 cu0, vs Au1 a1 cu1, vf 88 [] []]⟩ w (OPost (R_slices_EqualFunc_api_Absence g m F) r) := by
 refine calls_enter Tryz.func92 rfl rfl ?_
 unfold slices_EqualFunc_api_Absence at h
 refine qr (s0 1 [vb false] (nl (tn (sq (qr (s0 5 [vi ((a0).length : Int), vi ((a1).length : Int), vb (((a0).length : Int) != ((a1).length : Int))] (nl (tn (cn h (fun h => ?_) (fun h => ?_))))))))))
 ·refine qr (s0 1 [vb false] (nl (tn (wp_ret (tr (wr [vb false] ?_))))))
  have h := Option.some.inj h; subst h
  exact ⟨_, rfl, m, rfl, (Mem.le.refl _), hst⟩
 refine wp_skip (tn (sq (qr (s0 3 [vi ((a0).length : Int), vi 0] (nl (tn (bk (wc_loop (fun kk a w => ∃ f0 m60 x28, a = act Tryz.f92.ntmps (upds f0 [(1, vs Au1 a1 cu1), (2, vf 88 [] []), (6, vb false), (15, vs Au0 a0 cu0), (16, vi ((a0).length : Int)), (17, vi x28)]) ∧ kk ≤ k ∧ slices_EqualFunc_api_Absence_l1 kk a0 a1 x28 = some r ∧ m.le m60 ∧ St g m60 (F) w) k ?_ ?_))))))))
 ·exact ⟨_, m, (0), au, (Nat.le_refl _), h, (Mem.le.refl _), hst⟩
 rintro k58 ih59 _ _ ⟨f0, m60, x28, rfl, hk57, h, hl56, hst⟩
 obtain _ | k62 := k58
 ·simp [slices_EqualFunc_api_Absence_l1] at h
 rw [slices_EqualFunc_api_Absence_l1] at h
 refine qr (s0 1 [vb (decide (x28 < ((a0).length : Int)))] (nl (tn (sq (cn h (fun h => ?_) (fun h => ?_))))))
 ·refine wp_skip (tn (sq (bk (qr (s0 1 [] ?_)))))
  obtain ⟨x64, hx65, h⟩ := ix h
  obtain ⟨b66, o67, cs68, hR69, hA70, hI71⟩ := RS.ix (P := Tryz.prog) (RS.mono hl56 hu0) hx65
  obtain ⟨Aq72, cq72, rfl, hq72⟩ := TGAbsence.opn hR69
  refine vl (hI71.r .i64) (sg 1 [va (cGAbsence x64 (vs Aq72 x64.Variable.Where.Args cq72))] _ (hst.f hA70 0 11) (al [vstr w_0, vi 0, vstr w_0, vstr w_0, vi 0, vstr w_0, vi 0, vn, vi 0, vstr w_0, vb false] hst (fun b73 _ hst => ?_)))
  refine s0 1 [] (so0 0 (cGAbsence x64 (vs Aq72 x64.Variable.Where.Args cq72)) hst (fun _ hst => ?_))
  refine nl (tn (qr (s0 2 [] ?_)))
  obtain ⟨x75, hx76, h⟩ := ix h
  obtain ⟨b77, o78, cs79, hR80, hA81, hI82⟩ := RS.ix (P := Tryz.prog) (RS.mono hl56 hu1) hx76
  obtain ⟨Aq83, cq83, rfl, hq83⟩ := TGAbsence.opn hR80
  refine vl (hI82.r .i64) (sg 1 [va (cGAbsence x75 (vs Aq83 x75.Variable.Where.Args cq83))] _ (hst.f hA81 0 11) (al [vstr w_0, vi 0, vstr w_0, vstr w_0, vi 0, vstr w_0, vi 0, vn, vi 0, vstr w_0, vb false] hst (fun b84 _ hst => ?_)))
  refine so0 0 (cGAbsence x75 (vs Aq83 x75.Variable.Where.Args cq83)) hst (fun _ hst => ?_)
  refine nl (tn (qr (sg 3 [va (cGAbsence x64 (vs Aq72 x64.Variable.Where.Args cq72)), va (cGAbsence x75 (vs Aq83 x75.Variable.Where.Args cq83))] _ (AllC.app (hst.q 1 0 11) (hst.q 0 0 11)) ?_)))
  obtain ⟨r85, hq86, h⟩ := bs h
  refine cal (c_syntax_Equal_c1 hq86 hst hq72 hq83) ?_
  rintro _ _ ⟨m87, rfl, hl88, hst⟩
  refine s0 1 [vb (!r85)] (nl (tn (cn h (fun h => ?_) (fun h => ?_))))
  ·refine qr (s0 1 [vb false] (nl (tn (wp_ret (br (tr (tr (br (tr (wr [vb false] ?_))))))))))
   have hst := pk2 hst
   have e89 := hl56.trans hl88
   have h := Option.some.inj h; subst h
   exact ⟨_, rfl, m87, rfl, e89, hst⟩
  refine wp_skip (bn (tn (rg (s0 2 [vi (w64 (x28 + 1))] (nl (tn ?_))))))
  have e90 := hl56.trans hl88
  have hst := pk2 hst
  exact ih59 k62 (by omega) _ _ ⟨_, m87, (w64 (x28 + 1)), au, (by omega), h, e90, hst⟩
 refine wp_exit (tx (tx (bx (tn (qr (s0 1 [vb true] (nl (tn (wp_ret (wr [vb true] ?_))))))))))
 have h := Option.some.inj h; subst h
 exact ⟨_, rfl, m60, rfl, hl56, hst⟩
abbrev R_slices_Equal_api_Column := RBool
theorem c_slices_Equal_api_Column {a0 : List GColumn} {a1 : List GColumn} {r : Bool} (h : slices_Equal_api_Column k a0 a1 = some r) (hst : St g m (F) w) (hu0 : RS (TGColumn) m (vs Au0 a0 cu0) a0) (hu1 : RS (TGColumn) m (vs Au1 a1 cu1) a1) :
    Calls Tryz.prog 93 ⟨[vs Au0 a0 cu0, vs Au1 a1 cu1]⟩ w (OPost (R_slices_Equal_api_Column g m F) r) := by
 refine calls_enter Tryz.func93 rfl rfl ?_
 unfold slices_Equal_api_Column at h
 refine qr (s0 1 [vb false] (nl (tn (sq (qr (s0 5 [vi ((a0).length : Int), vi ((a1).length : Int), vb (((a0).length : Int) != ((a1).length : Int))] (nl (tn (cn h (fun h => ?_) (fun h => ?_))))))))))
 ·refine qr (s0 1 [vb false] (nl (tn (wp_ret (tr (wr [vb false] ?_))))))
  have h := Option.some.inj h; subst h
  exact ⟨_, rfl, m, rfl, (Mem.le.refl _), hst⟩
 refine wp_skip (tn (sq (qr (s0 3 [vi ((a0).length : Int), vi 0] (nl (tn (bk (wc_loop (fun kk a w => ∃ f0 m80 x38, a = act Tryz.f93.ntmps (upds f0 [(0, vs Au0 a0 cu0), (1, vs Au1 a1 cu1), (4, vb false), (12, vi ((a0).length : Int)), (13, vi x38)]) ∧ kk ≤ k ∧ slices_Equal_api_Column_l1 kk a0 a1 x38 = some r ∧ m.le m80 ∧ St g m80 (F) w) k ?_ ?_))))))))
 ·exact ⟨_, m, (0), au, (Nat.le_refl _), h, (Mem.le.refl _), hst⟩
 rintro k78 ih79 _ _ ⟨f0, m80, x38, rfl, hk77, h, hl76, hst⟩
 obtain _ | k82 := k78
 ·simp [slices_Equal_api_Column_l1] at h
 rw [slices_Equal_api_Column_l1] at h
 refine qr (s0 1 [vb (decide (x38 < ((a0).length : Int)))] (nl (tn (sq (cn h (fun h => ?_) (fun h => ?_))))))
 ·refine wp_skip (tn (sq (bk (qr (s0 2 [] (nl (tn (sq (dr false (fun x => Rd m80 ([]) x) ?_)))))))))
  have hst := hst.drew
  refine gs [0, 1, 4, 5] [] [] 5 (pqt (pqk (pqt (pqt (pqk (pqt pqb)))))) (hst.rd.none_) (fun x hx => trivial) ?_
  obtain ⟨x102, hx103, h⟩ := ix h
  obtain ⟨b104, o105, cs106, hR107, hA108, hI109⟩ := RS.ix (P := Tryz.prog) (RS.mono hl76 hu0) hx103
  obtain rfl := TGColumn.open_ hR107
  refine gv 2 (pqt (pqk (pqt (pqt (pqk (pqt pqb)))))) (hst.rd.none_) rfl (fun x hx => hI109.r .i64) ?_
  refine gs [3] [va (cGColumn x102)] _ 3 (pqt (pqk (pqt (pqt (pqk (pqt pqb)))))) (hst.rd.none_) (fun x hx => (hx.f hA108 0 3)) ?_
  obtain ⟨x111, hx112, h⟩ := ix h
  obtain ⟨b113, o114, cs115, hR116, hA117, hI118⟩ := RS.ix (P := Tryz.prog) (RS.mono hl76 hu1) hx112
  obtain rfl := TGColumn.open_ hR116
  refine gv 6 (pqt (pqk (pqt (pqt (pqk (pqt pqb)))))) (hst.rd.none_) rfl (fun x hx => hI118.r .i64) ?_
  refine gs [7] [va (cGColumn x111)] _ 1 (pqt (pqk (pqt (pqt (pqk (pqt pqb)))))) (hst.rd.none_) (fun x hx => (hx.f hA117 0 3)) ?_
  refine ge 8 rfl (vl (ran ((x102.Var == x111.Var) && ((x102.Field == x111.Field) && ((x102.Key == x111.Key) && true))) (cGColumn x102) (cGColumn x111)) (nl (tn (⟨_, fun _ h => h, .inl ⟨rfl, allListed_of _ (by kernel_rfl)⟩, ?_⟩))))
  refine gd (tn (cn h (fun h => ?_) (fun h => ?_)))
  ·refine qr (s0 1 [vb false] (nl (tn (wp_ret (br (tr (tr (br (tr (wr [vb false] ?_))))))))))
   have h := Option.some.inj h; subst h
   exact ⟨_, rfl, m80, rfl, hl76, hst⟩
  refine wp_skip (bn (tn (rg (s0 2 [vi (w64 (x38 + 1))] (nl (tn ?_))))))
  exact ih79 k82 (by omega) _ _ ⟨_, m80, (w64 (x38 + 1)), au, (by omega), h, hl76, hst⟩
 refine wp_exit (tx (tx (bx (tn (qr (s0 1 [vb true] (nl (tn (wp_ret (wr [vb true] ?_))))))))))
 have h := Option.some.inj h; subst h
 exact ⟨_, rfl, m80, rfl, hl76, hst⟩
abbrev R_slices_Equal_api_Aggregate := RBool
theorem c_slices_Equal_api_Aggregate {a0 : List GAggregate} {a1 : List GAggregate} {r : Bool} (h : slices_Equal_api_Aggregate k a0 a1 = some r) (hst : St g m (F) w) (hu0 : RS (TGAggregate) m (vs Au0 a0 cu0) a0) (hu1 : RS (TGAggregate) m (vs Au1 a1 cu1) a1) :
    Calls Tryz.prog 94 ⟨[vs Au0 a0 cu0, vs Au1 a1 cu1]⟩ w (OPost (R_slices_Equal_api_Aggregate g m F) r) := by
 refine calls_enter Tryz.func94 rfl rfl ?_
 unfold slices_Equal_api_Aggregate at h
 refine qr (s0 1 [vb false] (nl (tn (sq (qr (s0 5 [vi ((a0).length : Int), vi ((a1).length : Int), vb (((a0).length : Int) != ((a1).length : Int))] (nl (tn (cn h (fun h => ?_) (fun h => ?_))))))))))
 ·refine qr (s0 1 [vb false] (nl (tn (wp_ret (tr (wr [vb false] ?_))))))
  have h := Option.some.inj h; subst h
  exact ⟨_, rfl, m, rfl, (Mem.le.refl _), hst⟩
 refine wp_skip (tn (sq (qr (s0 3 [vi ((a0).length : Int), vi 0] (nl (tn (bk (wc_loop (fun kk a w => ∃ f0 m80 x38, a = act Tryz.f94.ntmps (upds f0 [(0, vs Au0 a0 cu0), (1, vs Au1 a1 cu1), (4, vb false), (12, vi ((a0).length : Int)), (13, vi x38)]) ∧ kk ≤ k ∧ slices_Equal_api_Aggregate_l1 kk a0 a1 x38 = some r ∧ m.le m80 ∧ St g m80 (F) w) k ?_ ?_))))))))
 ·exact ⟨_, m, (0), au, (Nat.le_refl _), h, (Mem.le.refl _), hst⟩
 rintro k78 ih79 _ _ ⟨f0, m80, x38, rfl, hk77, h, hl76, hst⟩
 obtain _ | k82 := k78
 ·simp [slices_Equal_api_Aggregate_l1] at h
 rw [slices_Equal_api_Aggregate_l1] at h
 refine qr (s0 1 [vb (decide (x38 < ((a0).length : Int)))] (nl (tn (sq (cn h (fun h => ?_) (fun h => ?_))))))
 ·refine wp_skip (tn (sq (bk (qr (s0 2 [] (nl (tn (sq (dr false (fun x => Rd m80 ([]) x) ?_)))))))))
  have hst := hst.drew
  refine gs [0, 1, 4, 5] [] [] 5 (pqt (pqk (pqt (pqt (pqk (pqt pqb)))))) (hst.rd.none_) (fun x hx => trivial) ?_
  obtain ⟨x102, hx103, h⟩ := ix h
  obtain ⟨b104, o105, cs106, hR107, hA108, hI109⟩ := RS.ix (P := Tryz.prog) (RS.mono hl76 hu0) hx103
  obtain rfl := TGAggregate.open_ hR107
  refine gv 2 (pqt (pqk (pqt (pqt (pqk (pqt pqb)))))) (hst.rd.none_) rfl (fun x hx => hI109.r .i64) ?_
  refine gs [3] [va (cGAggregate x102)] _ 3 (pqt (pqk (pqt (pqt (pqk (pqt pqb)))))) (hst.rd.none_) (fun x hx => (hx.f hA108 0 6)) ?_
  obtain ⟨x111, hx112, h⟩ := ix h
  obtain ⟨b113, o114, cs115, hR116, hA117, hI118⟩ := RS.ix (P := Tryz.prog) (RS.mono hl76 hu1) hx112
  obtain rfl := TGAggregate.open_ hR116
  refine gv 6 (pqt (pqk (pqt (pqt (pqk (pqt pqb)))))) (hst.rd.none_) rfl (fun x hx => hI118.r .i64) ?_
  refine gs [7] [va (cGAggregate x111)] _ 1 (pqt (pqk (pqt (pqt (pqk (pqt pqb)))))) (hst.rd.none_) (fun x hx => (hx.f hA117 0 6)) ?_
  refine ge 8 rfl (vl (ran ((x102.Kind == x111.Kind) && (((x102.Column.Var == x111.Column.Var) && ((x102.Column.Field == x111.Column.Field) && ((x102.Column.Key == x111.Column.Key) && true))) && (((x102.Q.Num == x111.Q.Num) && ((x102.Q.Den == x111.Q.Den) && true)) && true))) (cGAggregate x102) (cGAggregate x111)) (nl (tn (⟨_, fun _ h => h, .inl ⟨rfl, allListed_of _ (by kernel_rfl)⟩, ?_⟩))))
  refine gd (tn (cn h (fun h => ?_) (fun h => ?_)))
  ·refine qr (s0 1 [vb false] (nl (tn (wp_ret (br (tr (tr (br (tr (wr [vb false] ?_))))))))))
   have h := Option.some.inj h; subst h
   exact ⟨_, rfl, m80, rfl, hl76, hst⟩
  refine wp_skip (bn (tn (rg (s0 2 [vi (w64 (x38 + 1))] (nl (tn ?_))))))
  exact ih79 k82 (by omega) _ _ ⟨_, m80, (w64 (x38 + 1)), au, (by omega), h, hl76, hst⟩
 refine wp_exit (tx (tx (bx (tn (qr (s0 1 [vb true] (nl (tn (wp_ret (wr [vb true] ?_))))))))))
 have h := Option.some.inj h; subst h
 exact ⟨_, rfl, m80, rfl, hl76, hst⟩
abbrev R_slices_Equal_api_OrderKey := RBool
theorem c_slices_Equal_api_OrderKey {a0 : List GOrderKey} {a1 : List GOrderKey} {r : Bool} (h : slices_Equal_api_OrderKey k a0 a1 = some r) (hst : St g m (F) w) (hu0 : RS (TGOrderKey) m (vs Au0 a0 cu0) a0) (hu1 : RS (TGOrderKey) m (vs Au1 a1 cu1) a1) :
    Calls Tryz.prog 95 ⟨[vs Au0 a0 cu0, vs Au1 a1 cu1]⟩ w (OPost (R_slices_Equal_api_OrderKey g m F) r) := by
 refine calls_enter Tryz.func95 rfl rfl ?_
 unfold slices_Equal_api_OrderKey at h
 refine qr (s0 1 [vb false] (nl (tn (sq (qr (s0 5 [vi ((a0).length : Int), vi ((a1).length : Int), vb (((a0).length : Int) != ((a1).length : Int))] (nl (tn (cn h (fun h => ?_) (fun h => ?_))))))))))
 ·refine qr (s0 1 [vb false] (nl (tn (wp_ret (tr (wr [vb false] ?_))))))
  have h := Option.some.inj h; subst h
  exact ⟨_, rfl, m, rfl, (Mem.le.refl _), hst⟩
 refine wp_skip (tn (sq (qr (s0 3 [vi ((a0).length : Int), vi 0] (nl (tn (bk (wc_loop (fun kk a w => ∃ f0 m80 x38, a = act Tryz.f95.ntmps (upds f0 [(0, vs Au0 a0 cu0), (1, vs Au1 a1 cu1), (4, vb false), (12, vi ((a0).length : Int)), (13, vi x38)]) ∧ kk ≤ k ∧ slices_Equal_api_OrderKey_l1 kk a0 a1 x38 = some r ∧ m.le m80 ∧ St g m80 (F) w) k ?_ ?_))))))))
 ·exact ⟨_, m, (0), au, (Nat.le_refl _), h, (Mem.le.refl _), hst⟩
 rintro k78 ih79 _ _ ⟨f0, m80, x38, rfl, hk77, h, hl76, hst⟩
 obtain _ | k82 := k78
 ·simp [slices_Equal_api_OrderKey_l1] at h
 rw [slices_Equal_api_OrderKey_l1] at h
 refine qr (s0 1 [vb (decide (x38 < ((a0).length : Int)))] (nl (tn (sq (cn h (fun h => ?_) (fun h => ?_))))))
 ·refine wp_skip (tn (sq (bk (qr (s0 2 [] (nl (tn (sq (dr false (fun x => Rd m80 ([]) x) ?_)))))))))
  have hst := hst.drew
  refine gs [0, 1, 4, 5] [] [] 5 (pqt (pqk (pqt (pqt (pqk (pqt pqb)))))) (hst.rd.none_) (fun x hx => trivial) ?_
  obtain ⟨x102, hx103, h⟩ := ix h
  obtain ⟨b104, o105, cs106, hR107, hA108, hI109⟩ := RS.ix (P := Tryz.prog) (RS.mono hl76 hu0) hx103
  obtain rfl := TGOrderKey.open_ hR107
  refine gv 2 (pqt (pqk (pqt (pqt (pqk (pqt pqb)))))) (hst.rd.none_) rfl (fun x hx => hI109.r .i64) ?_
  refine gs [3] [va (cGOrderKey x102)] _ 3 (pqt (pqk (pqt (pqt (pqk (pqt pqb)))))) (hst.rd.none_) (fun x hx => (hx.f hA108 0 2)) ?_
  obtain ⟨x111, hx112, h⟩ := ix h
  obtain ⟨b113, o114, cs115, hR116, hA117, hI118⟩ := RS.ix (P := Tryz.prog) (RS.mono hl76 hu1) hx112
  obtain rfl := TGOrderKey.open_ hR116
  refine gv 6 (pqt (pqk (pqt (pqt (pqk (pqt pqb)))))) (hst.rd.none_) rfl (fun x hx => hI118.r .i64) ?_
  refine gs [7] [va (cGOrderKey x111)] _ 1 (pqt (pqk (pqt (pqt (pqk (pqt pqb)))))) (hst.rd.none_) (fun x hx => (hx.f hA117 0 2)) ?_
  refine ge 8 rfl (vl (ran ((x102.Index == x111.Index) && ((x102.Descending == x111.Descending) && true)) (cGOrderKey x102) (cGOrderKey x111)) (nl (tn (⟨_, fun _ h => h, .inl ⟨rfl, allListed_of _ (by kernel_rfl)⟩, ?_⟩))))
  refine gd (tn (cn h (fun h => ?_) (fun h => ?_)))
  ·refine qr (s0 1 [vb false] (nl (tn (wp_ret (br (tr (tr (br (tr (wr [vb false] ?_))))))))))
   have h := Option.some.inj h; subst h
   exact ⟨_, rfl, m80, rfl, hl76, hst⟩
  refine wp_skip (bn (tn (rg (s0 2 [vi (w64 (x38 + 1))] (nl (tn ?_))))))
  exact ih79 k82 (by omega) _ _ ⟨_, m80, (w64 (x38 + 1)), au, (by omega), h, hl76, hst⟩
 refine wp_exit (tx (tx (bx (tn (qr (s0 1 [vb true] (nl (tn (wp_ret (wr [vb true] ?_))))))))))
 have h := Option.some.inj h; subst h
 exact ⟨_, rfl, m80, rfl, hl76, hst⟩
abbrev R_syntax_Equal := RBool
theorem c_syntax_Equal {a0 : GQuery} {a1 : GQuery} {r : Bool} (h : syntax_Equal k a0 a1 = some r) (hst : St g m (F) w) (hu0 : RS (TGVariable) m (vs Au0 a0.Variables cu0) a0.Variables) (hu1 : RS (TGRelation) m (vs Au1 a0.Relations cu1) a0.Relations) (hu2 : RS (TGAbsence) m (vs Au2 a0.Absences cu2) a0.Absences) (hu3 : RS (TGColumn) m (vs Au3 a0.Group cu3) a0.Group) (hu4 : RS (TGAggregate) m (vs Au4 a0.Compute cu4) a0.Compute) (hu5 : RS (TGOrderKey) m (vs Au5 a0.Order cu5) a0.Order) (hu6 : RS (TGVariable) m (vs Au6 a1.Variables cu6) a1.Variables) (hu7 : RS (TGRelation) m (vs Au7 a1.Relations cu7) a1.Relations) (hu8 : RS (TGAbsence) m (vs Au8 a1.Absences cu8) a1.Absences) (hu9 : RS (TGColumn) m (vs Au9 a1.Group cu9) a1.Group) (hu10 : RS (TGAggregate) m (vs Au10 a1.Compute cu10) a1.Compute) (hu11 : RS (TGOrderKey) m (vs Au11 a1.Order cu11) a1.Order) :
    Calls Tryz.prog 41 ⟨[va (cGQuery a0 (vs Au0 a0.Variables cu0) (vs Au1 a0.Relations cu1) (vs Au2 a0.Absences cu2) (vs Au3 a0.Group cu3) (vs Au4 a0.Compute cu4) (vs Au5 a0.Order cu5)), va (cGQuery a1 (vs Au6 a1.Variables cu6) (vs Au7 a1.Relations cu7) (vs Au8 a1.Absences cu8) (vs Au9 a1.Group cu9) (vs Au10 a1.Compute cu10) (vs Au11 a1.Order cu11))]⟩ w (OPost (R_syntax_Equal g m F) r) := by
 refine calls_enter Tryz.func41 rfl rfl ?_
 unfold syntax_Equal at h
 refine qr (bo_ (cGQuery a0 (vs Au0 a0.Variables cu0) (vs Au1 a0.Relations cu1) (vs Au2 a0.Absences cu2) (vs Au3 a0.Group cu3) (vs Au4 a0.Compute cu4) (vs Au5 a0.Order cu5)) hst (fun b1 _ hst => ?_))
 refine bo_ (cGQuery a1 (vs Au6 a1.Variables cu6) (vs Au7 a1.Relations cu7) (vs Au8 a1.Absences cu8) (vs Au9 a1.Group cu9) (vs Au10 a1.Compute cu10) (vs Au11 a1.Order cu11)) hst (fun b2 _ hst => ?_)
 refine s0 1 [vb false] (nl (tn (qr (s0 1 [vf 88 [] []] (nl (tn (qr (sg 4 [vp b1 0, vs Au0 a0.Variables cu0, vp b2 0, vs Au6 a1.Variables cu6] _ (AllC.app (hst.q 1 0 1) (hst.q 0 0 1)) ?_))))))))
 obtain ⟨r3, hq4, h⟩ := bs h
 refine cal (c_slices_EqualFunc_api_Variable hq4 hst hu0 hu6) ?_
 rintro _ _ ⟨m5, rfl, hl6, hst⟩
 refine s0 1 [] ?_
 rcases sp h with ⟨hc7, h⟩ | ⟨hc7, h⟩
 ·rw [hc7]
  refine sg 4 [vp b1 1, vs Au1 a0.Relations cu1, vp b2 1, vs Au7 a1.Relations cu7] _ (AllC.app (hst.q 1 1 1) (hst.q 0 1 1)) ?_
  obtain ⟨r8, hq9, h⟩ := bs h
  refine cal (c_slices_Equal_api_Relation hq9 hst (RS.mono hl6 hu1) (RS.mono hl6 hu7)) ?_
  rintro _ _ ⟨m10, rfl, hl11, hst⟩
  refine s0 2 [vb r8] ?_
  rcases sp h with ⟨hc12, h⟩ | ⟨hc12, h⟩
  ·rw [hc12]
   refine sg 5 [vp b1 2, vs Au2 a0.Absences cu2, vp b2 2, vs Au8 a1.Absences cu8] _ (AllC.app (hst.q 1 2 1) (hst.q 0 2 1)) ?_
   have e13 := hl6.trans hl11
   obtain ⟨r14, hq15, h⟩ := bs h
   refine cal (c_slices_EqualFunc_api_Absence hq15 hst (RS.mono e13 hu2) (RS.mono e13 hu8)) ?_
   rintro _ _ ⟨m16, rfl, hl17, hst⟩
   refine s0 2 [vb r14] ?_
   rcases sp h with ⟨hc18, h⟩ | ⟨hc18, h⟩
   ·rw [hc18]
    refine sg 4 [vp b1 3, va (cGInterval a0.Slots), vp b2 3, va (cGInterval a1.Slots)] _ (AllC.app (hst.q 1 3 2) (hst.q 0 3 2)) (vl (rae ((a0.Slots.From == a1.Slots.From) && ((a0.Slots.To == a1.Slots.To) && true)) (cGInterval a0.Slots) (cGInterval a1.Slots)) (s0 2 [vb ((a0.Slots.From == a1.Slots.From) && ((a0.Slots.To == a1.Slots.To) && true))] ?_))
    rcases sp h with ⟨hc19, h⟩ | ⟨hc19, h⟩
    ·rw [hc19]
     refine sg 4 [vp b1 5, vs Au3 a0.Group cu3, vp b2 5, vs Au9 a1.Group cu9] _ (AllC.app (hst.q 1 5 1) (hst.q 0 5 1)) ?_
     have e20 := e13.trans hl17
     obtain ⟨r21, hq22, h⟩ := bs h
     refine cal (c_slices_Equal_api_Column hq22 hst (RS.mono e20 hu3) (RS.mono e20 hu9)) ?_
     rintro _ _ ⟨m23, rfl, hl24, hst⟩
     refine s0 2 [vb r21] ?_
     rcases sp h with ⟨hc25, h⟩ | ⟨hc25, h⟩
     ·rw [hc25]
      refine sg 4 [vp b1 6, vs Au4 a0.Compute cu4, vp b2 6, vs Au10 a1.Compute cu10] _ (AllC.app (hst.q 1 6 1) (hst.q 0 6 1)) ?_
      have e26 := e20.trans hl24
      obtain ⟨r27, hq28, h⟩ := bs h
      refine cal (c_slices_Equal_api_Aggregate hq28 hst (RS.mono e26 hu4) (RS.mono e26 hu10)) ?_
      rintro _ _ ⟨m29, rfl, hl30, hst⟩
      refine s0 2 [vb r27] ?_
      rcases sp h with ⟨hc31, h⟩ | ⟨hc31, h⟩
      ·rw [hc31]
       refine sg 4 [vp b1 7, vs Au5 a0.Order cu5, vp b2 7, vs Au11 a1.Order cu11] _ (AllC.app (hst.q 1 7 1) (hst.q 0 7 1)) ?_
       have e32 := e26.trans hl30
       obtain ⟨r33, hq34, h⟩ := bs h
       refine cal (c_slices_Equal_api_OrderKey hq34 hst (RS.mono e32 hu5) (RS.mono e32 hu11)) ?_
       rintro _ _ ⟨m35, rfl, hl36, hst⟩
       refine s0 2 [vb r33] ?_
       rcases sp h with ⟨hc37, h⟩ | ⟨hc37, h⟩
       ·rw [hc37]
        refine sg 7 [vp b1 8, vi a0.Limit, vp b2 8, vi a1.Limit, vb (a0.Limit == a1.Limit), vb (a0.Limit == a1.Limit)] _ (AllC.app (hst.q 1 8 1) (hst.q 0 8 1)) (nl (tn (wp_ret (wr [vb (a0.Limit == a1.Limit)] ?_))))
        have hst := pk2 hst
        have e38 := e32.trans hl36
        cases h
        exact ⟨_, rfl, m35, rfl, e38, hst⟩
       rw [hc37]
       refine sk 5 (s0 2 [vb false] (nl (tn (wp_ret (wr [vb false] ?_)))))
       have hst := pk2 hst
       have e39 := e32.trans hl36
       have h := Option.some.inj h; subst h
       exact ⟨_, rfl, m35, rfl, e39, hst⟩
      rw [hc31]
      refine sk 5 (s0 2 [vb false] (sk 5 (s0 2 [vb false] (nl (tn (wp_ret (wr [vb false] ?_)))))))
      have hst := pk2 hst
      have e40 := e26.trans hl30
      have h := Option.some.inj h; subst h
      exact ⟨_, rfl, m29, rfl, e40, hst⟩
     rw [hc25]
     refine sk 5 (s0 2 [vb false] (sk 5 (s0 2 [vb false] (sk 5 (s0 2 [vb false] (nl (tn (wp_ret (wr [vb false] ?_)))))))))
     have hst := pk2 hst
     have e41 := e20.trans hl24
     have h := Option.some.inj h; subst h
     exact ⟨_, rfl, m23, rfl, e41, hst⟩
    rw [hc19]
    refine sk 5 (s0 2 [vb false] (sk 5 (s0 2 [vb false] (sk 5 (s0 2 [vb false] (sk 5 (s0 2 [vb false] (nl (tn (wp_ret (wr [vb false] ?_)))))))))))
    have hst := pk2 hst
    have e42 := e13.trans hl17
    have h := Option.some.inj h; subst h
    exact ⟨_, rfl, m16, rfl, e42, hst⟩
   rw [hc18]
   refine sk 5 (s0 2 [vb false] (sk 5 (s0 2 [vb false] (sk 5 (s0 2 [vb false] (sk 5 (s0 2 [vb false] (sk 5 (s0 2 [vb false] (nl (tn (wp_ret (wr [vb false] ?_)))))))))))))
   have hst := pk2 hst
   have e43 := e13.trans hl17
   have h := Option.some.inj h; subst h
   exact ⟨_, rfl, m16, rfl, e43, hst⟩
  rw [hc12]
  refine sk 6 (s0 2 [vb false] (sk 5 (s0 2 [vb false] (sk 5 (s0 2 [vb false] (sk 5 (s0 2 [vb false] (sk 5 (s0 2 [vb false] (sk 5 (s0 2 [vb false] (nl (tn (wp_ret (wr [vb false] ?_)))))))))))))))
  have hst := pk2 hst
  have e44 := hl6.trans hl11
  have h := Option.some.inj h; subst h
  exact ⟨_, rfl, m10, rfl, e44, hst⟩
 rw [hc7]
 refine sk 5 (s0 2 [vb false] (sk 6 (s0 2 [vb false] (sk 5 (s0 2 [vb false] (sk 5 (s0 2 [vb false] (sk 5 (s0 2 [vb false] (sk 5 (s0 2 [vb false] (sk 5 (s0 2 [vb false] (nl (tn (wp_ret (wr [vb false] ?_)))))))))))))))))
 have hst := pk2 hst
 have h := Option.some.inj h; subst h
 exact ⟨_, rfl, m5, rfl, hl6, hst⟩
abbrev R_l36_small := RBool
theorem c_l36_small {a0 : GQuery} {r : Bool} (h : l36_small k a0 = some r) (hst : St g m (F) w) (hu0 : RS (TGVariable) m (vs Au0 a0.Variables cu0) a0.Variables) (hu1 : RS (TGRelation) m (vs Au1 a0.Relations cu1) a0.Relations) (hu2 : RS (TGAbsence) m (vs Au2 a0.Absences cu2) a0.Absences) (hu3 : RS (TGColumn) m (vs Au3 a0.Group cu3) a0.Group) (hu4 : RS (TGAggregate) m (vs Au4 a0.Compute cu4) a0.Compute) (hu5 : RS (TGOrderKey) m (vs Au5 a0.Order cu5) a0.Order) :
    Calls Tryz.prog 42 ⟨[va (cGQuery a0 (vs Au0 a0.Variables cu0) (vs Au1 a0.Relations cu1) (vs Au2 a0.Absences cu2) (vs Au3 a0.Group cu3) (vs Au4 a0.Compute cu4) (vs Au5 a0.Order cu5))]⟩ w (OPost (R_l36_small g m F) r) := by
 refine calls_enter Tryz.func42 rfl rfl ?_
 unfold l36_small at h
 refine qr (bo_ (cGQuery a0 (vs Au0 a0.Variables cu0) (vs Au1 a0.Relations cu1) (vs Au2 a0.Absences cu2) (vs Au3 a0.Group cu3) (vs Au4 a0.Compute cu4) (vs Au5 a0.Order cu5)) hst (fun b1 _ hst => ?_))
 refine s0 1 [vb false] (nl (tn (sq (wc_join (fun a w => ∃ f0 k14 m16 x12, a = act Tryz.f42.ntmps (upds f0 [(1, vp b1 0), (2, vb false), (43, vb x12)]) ∧ k14 ≤ k ∧ l36_small_j1 k14 a0 x12 = some r ∧ m.le m16 ∧ St g m16 (oo b1 36 (cGQuery a0 (vs Au0 a0.Variables cu0) (vs Au1 a0.Relations cu1) (vs Au2 a0.Absences cu2) (vs Au3 a0.Group cu3) (vs Au4 a0.Compute cu4) (vs Au5 a0.Order cu5)) :: F) w) ?_ ?_))))
 ·rintro _ _ ⟨f0, k14, m16, x12, rfl, hk15, h, hl13, hst⟩
  unfold l36_small_j1 at h
  refine cn h (fun h => ?_) (fun h => ?_)
  ·refine qr (s0 1 [vb false] (nl (tn (wp_ret (tr (wr [vb false] ?_))))))
   have hst := pk0 hst
   have h := Option.some.inj h; subst h
   exact ⟨_, rfl, m16, rfl, hl13, hst⟩
  refine wp_skip (tn (qr (s0 1 [vi 0] (nl (tn (sq (qr (s0 1 [vi 0] (nl (tn (bk (wc_loop (fun kk a w => ∃ f0 m153 x121 x122, a = act Tryz.f42.ntmps (upds f0 [(1, vp b1 0), (2, vb false), (3, vi x121), (4, vi x122)]) ∧ kk ≤ k14 ∧ l36_small_l2 kk a0 x121 x122 = some r ∧ m16.le m153 ∧ St g m153 (oo b1 36 (cGQuery a0 (vs Au0 a0.Variables cu0) (vs Au1 a0.Relations cu1) (vs Au2 a0.Absences cu2) (vs Au3 a0.Group cu3) (vs Au4 a0.Compute cu4) (vs Au5 a0.Order cu5)) :: F) w) k14 ?_ ?_))))))))))))
  ·exact ⟨_, m16, (0), (0), au, (Nat.le_refl _), h, (Mem.le.refl _), hst⟩
  rintro k151 ih152 _ _ ⟨f0, m153, x121, x122, rfl, hk150, h, hl149, hst⟩
  obtain _ | k155 := k151
  ·simp [l36_small_l2] at h
  rw [l36_small_l2] at h
  refine sq (qr (sg 5 [vp b1 0, vs Au0 a0.Variables cu0, vi ((a0.Variables).length : Int), vb (decide (x122 < ((a0.Variables).length : Int)))] _ (hst.q 0 0 1) (nl (tn (cn h (fun h => ?_) (fun h => ?_))))))
  ·refine wp_skip (tn (sq (bk (qr (sg 4 [vp b1 0, vs Au0 a0.Variables cu0] _ (hst.q 0 0 1) ?_)))))
   obtain ⟨x157, hx158, h⟩ := ix h
   have e165 := hl13.trans hl149
   obtain ⟨b159, o160, cs161, hR162, hA163, hI164⟩ := RS.ix (P := Tryz.prog) (RS.mono e165 hu0) hx158
   obtain ⟨Aq166, cq166, rfl, hq166⟩ := TGVariable.opn hR162
   refine vl (hI164.r .i64) (sg 5 [vp b159 o160, vstr x157.Name, vi ((x157.Name).length : Int), vi (mx x121 ((x157.Name).length : Int))] _ (hst.f hA163 0 1) (nl (tn (qr (sg 3 [vp b1 0, vs Au0 a0.Variables cu0] _ (hst.q 0 0 1) ?_)))))
   obtain ⟨x168, hx169, h⟩ := ix h
   obtain ⟨b170, o171, cs172, hR173, hA174, hI175⟩ := RS.ix (P := Tryz.prog) (RS.mono e165 hu0) hx169
   obtain ⟨Aq176, cq176, rfl, hq176⟩ := TGVariable.opn hR173
   refine vl (hI175.r .i64) (sg 2 [vp b170 (o171 + 1), va (cGPred x168.Where (vs Aq176 x168.Where.Args cq176))] _ (hst.f hA174 1 7) ?_)
   obtain ⟨r177, hq178, h⟩ := bs h
   refine cal (c_l36_smallPred hq178 hst hq176) ?_
   rintro _ _ ⟨m179, rfl, hl180, hst⟩
   refine s0 1 [vb (!r177)] (nl (tn (cn h (fun h => ?_) (fun h => ?_))))
   ·refine qr (s0 1 [vb false] (nl (tn (wp_ret (br (tr (tr (br (tr (wr [vb false] ?_))))))))))
    have hst := pk0 hst
    have e181 := e165.trans hl180
    have h := Option.some.inj h; subst h
    exact ⟨_, rfl, m179, rfl, e181, hst⟩
   refine wp_skip (bn (tn (rg (s0 3 [vi (w64 (x122 + 1))] (nl (tn ?_))))))
   have e182 := hl149.trans hl180
   exact ih152 k155 (by omega) _ _ ⟨_, m179, (mx x121 ((x157.Name).length : Int)), (w64 (x122 + 1)), au, (by omega), h, e182, hst⟩
  refine wp_exit (tx (tx (bx (tn (sq (qr (s0 1 [vi 0] (nl (tn (bk (wc_loop (fun kk a w => ∃ f0 m389 x343 x344, a = act Tryz.f42.ntmps (upds f0 [(1, vp b1 0), (2, vb false), (3, vi x343), (5, vi x344)]) ∧ kk ≤ k155 ∧ l36_small_l3 kk a0 x343 x344 = some r ∧ m153.le m389 ∧ St g m389 (oo b1 36 (cGQuery a0 (vs Au0 a0.Variables cu0) (vs Au1 a0.Relations cu1) (vs Au2 a0.Absences cu2) (vs Au3 a0.Group cu3) (vs Au4 a0.Compute cu4) (vs Au5 a0.Order cu5)) :: F) w) k155 ?_ ?_)))))))))))
  ·exact ⟨_, m153, (x121), (0), au, (Nat.le_refl _), h, (Mem.le.refl _), hst⟩
  rintro k387 ih388 _ _ ⟨f0, m389, x343, x344, rfl, hk386, h, hl385, hst⟩
  obtain _ | k391 := k387
  ·simp [l36_small_l3] at h
  rw [l36_small_l3] at h
  refine sq (qr (sg 5 [vp b1 1, vs Au1 a0.Relations cu1, vi ((a0.Relations).length : Int), vb (decide (x344 < ((a0.Relations).length : Int)))] _ (hst.q 0 1 1) (nl (tn (cn h (fun h => ?_) (fun h => ?_))))))
  ·refine wp_skip (tn (sq (bk (dr false (fun x => Rd m389 (oo b1 36 (cGQuery a0 (vs Au0 a0.Variables cu0) (vs Au1 a0.Relations cu1) (vs Au2 a0.Absences cu2) (vs Au3 a0.Group cu3) (vs Au4 a0.Compute cu4) (vs Au5 a0.Order cu5)) :: []) x) ?_))))
   have hst := hst.drew
   refine gs [0, 1, 3, 8, 10, 2, 9] [vp b1 1, vp b1 1, vs Au1 a0.Relations cu1, vs Au1 a0.Relations cu1] _ 10 (pqk (pqt (pqt (pqk (pqt pqb))))) (hst.rd.with_ 0 rfl (hst.rd.none_)) (fun x hx => (AllC.app (hx.q 0 1 1) (hx.q 0 1 1))) ?_
   obtain ⟨x412, hx413, h⟩ := ix h
   have e420 := hl13.trans (hl149.trans hl385)
   obtain ⟨b414, o415, cs416, hR417, hA418, hI419⟩ := RS.ix (P := Tryz.prog) (RS.mono e420 hu1) hx413
   obtain rfl := TGRelation.open_ hR417
   refine gv 4 (pqk (pqt (pqt (pqk (pqt pqb))))) (hst.rd.with_ 0 rfl (hst.rd.none_)) rfl (fun x hx => hI419.r .i64) ?_
   refine gs [5] [vp b414 (o415 + 1)] [] 8 (pqk (pqt (pqt (pqk (pqt pqb))))) (hst.rd.with_ 0 rfl (hst.rd.none_)) (fun x hx => trivial) ?_
   obtain ⟨x422, hx423, h⟩ := ix h
   obtain ⟨b424, o425, cs426, hR427, hA428, hI429⟩ := RS.ix (P := Tryz.prog) (RS.mono e420 hu1) hx423
   obtain rfl := TGRelation.open_ hR427
   refine gv 11 (pqk (pqt (pqt (pqk (pqt pqb))))) (hst.rd.with_ 0 rfl (hst.rd.none_)) rfl (fun x hx => hI429.r .i64) ?_
   refine gs [6, 12, 7, 13, 14, 15] [vstr x412.A, vp b424 (o425 + 2), vi ((x412.A).length : Int), vstr x422.B, vi ((x422.B).length : Int), vi (mx (mx x343 ((x412.A).length : Int)) ((x422.B).length : Int))] _ 1 (pqk (pqt (pqt (pqk (pqt pqb))))) (hst.rd.with_ 0 rfl (hst.rd.none_)) (fun x hx => (AllC.app (hx.f hA418 1 1) (hx.f hA428 2 1))) ?_
   refine ge 16 rfl (sg 1 [] [] trivial (nl (tn (⟨_, fun _ h => h, .inl ⟨rfl, allListed_of _ (by kernel_rfl)⟩, ?_⟩))))
   refine gd (bn (tn (rg (s0 3 [vi (w64 (x344 + 1))] (nl (tn ?_))))))
   exact ih388 k391 (by omega) _ _ ⟨_, m389, (mx (mx x343 ((x412.A).length : Int)) ((x422.B).length : Int)), (w64 (x344 + 1)), au, (by omega), h, hl385, hst⟩
  refine wp_exit (tx (tx (bx (tn (sq (qr (s0 1 [vi 0] (nl (tn (bk (wc_loop (fun kk a w => ∃ f0 m726 x662 x663, a = act Tryz.f42.ntmps (upds f0 [(1, vp b1 0), (2, vb false), (3, vi x662), (6, vi x663)]) ∧ kk ≤ k391 ∧ l36_small_l4 kk a0 x662 x663 = some r ∧ m389.le m726 ∧ St g m726 (oo b1 36 (cGQuery a0 (vs Au0 a0.Variables cu0) (vs Au1 a0.Relations cu1) (vs Au2 a0.Absences cu2) (vs Au3 a0.Group cu3) (vs Au4 a0.Compute cu4) (vs Au5 a0.Order cu5)) :: F) w) k391 ?_ ?_)))))))))))
  ·exact ⟨_, m389, (x343), (0), au, (Nat.le_refl _), h, (Mem.le.refl _), hst⟩
  rintro k724 ih725 _ _ ⟨f0, m726, x662, x663, rfl, hk723, h, hl722, hst⟩
  obtain _ | k728 := k724
  ·simp [l36_small_l4] at h
  rw [l36_small_l4] at h
  refine sq (qr (sg 5 [vp b1 2, vs Au2 a0.Absences cu2, vi ((a0.Absences).length : Int), vb (decide (x663 < ((a0.Absences).length : Int)))] _ (hst.q 0 2 1) (nl (tn (cn h (fun h => ?_) (fun h => ?_))))))
  ·refine wp_skip (tn (sq (bk (sq (dr false (fun x => Rd m726 (oo b1 36 (cGQuery a0 (vs Au0 a0.Variables cu0) (vs Au1 a0.Relations cu1) (vs Au2 a0.Absences cu2) (vs Au3 a0.Group cu3) (vs Au4 a0.Compute cu4) (vs Au5 a0.Order cu5)) :: []) x) ?_)))))
   have hst := hst.drew
   refine gs [0, 1, 3, 9, 11, 2, 10] [vp b1 2, vp b1 2, vs Au2 a0.Absences cu2, vs Au2 a0.Absences cu2] _ 11 (pqt (pqk (pqt (pqt (pqk (pqt pqb)))))) (hst.rd.with_ 0 rfl (hst.rd.none_)) (fun x hx => (AllC.app (hx.q 0 2 1) (hx.q 0 2 1))) ?_
   obtain ⟨x751, hx752, h⟩ := ix h
   have e759 := hl13.trans (hl149.trans (hl385.trans hl722))
   obtain ⟨b753, o754, cs755, hR756, hA757, hI758⟩ := RS.ix (P := Tryz.prog) (RS.mono e759 hu2) hx752
   obtain ⟨Aq760, cq760, rfl, hq760⟩ := TGAbsence.opn hR756
   refine gv 4 (pqt (pqk (pqt (pqt (pqk (pqt pqb)))))) (hst.rd.with_ 0 rfl (hst.rd.none_)) rfl (fun x hx => hI758.r .i64) ?_
   refine gs [5] [vp b753 o754] [] 9 (pqt (pqk (pqt (pqt (pqk (pqt pqb)))))) (hst.rd.with_ 0 rfl (hst.rd.none_)) (fun x hx => trivial) ?_
   obtain ⟨x762, hx763, h⟩ := ix h
   obtain ⟨b764, o765, cs766, hR767, hA768, hI769⟩ := RS.ix (P := Tryz.prog) (RS.mono e759 hu2) hx763
   obtain ⟨Aq770, cq770, rfl, hq770⟩ := TGAbsence.opn hR767
   refine gv 12 (pqt (pqk (pqt (pqt (pqk (pqt pqb)))))) (hst.rd.with_ 0 rfl (hst.rd.none_)) rfl (fun x hx => hI769.r .i64) ?_
   refine gs [6, 13, 7, 14, 8, 15, 16] [vp b753 o754, vp b764 (o765 + 9), vstr x751.Variable.Name, vstr x762.Other, vi ((x751.Variable.Name).length : Int), vi ((x762.Other).length : Int), vi (mx (mx x662 ((x751.Variable.Name).length : Int)) ((x762.Other).length : Int))] _ 1 (pqt (pqk (pqt (pqt (pqk (pqt pqb)))))) (hst.rd.with_ 0 rfl (hst.rd.none_)) (fun x hx => (AllC.app (hx.f hA757 0 1) (hx.f hA768 9 1))) ?_
   refine ge 17 rfl (sg 1 [] [] trivial (nl (tn (⟨_, fun _ h => h, .inl ⟨rfl, allListed_of _ (by kernel_rfl)⟩, ?_⟩))))
   refine gd (tn (qr (sg 3 [vp b1 2, vs Au2 a0.Absences cu2] _ (hst.q 0 2 1) ?_)))
   obtain ⟨x772, hx773, h⟩ := ix h
   obtain ⟨b774, o775, cs776, hR777, hA778, hI779⟩ := RS.ix (P := Tryz.prog) (RS.mono e759 hu2) hx773
   obtain ⟨Aq780, cq780, rfl, hq780⟩ := TGAbsence.opn hR777
   refine vl (hI779.r .i64) (sg 3 [vp b774 o775, vp b774 (o775 + 1), va (cGPred x772.Variable.Where (vs Aq780 x772.Variable.Where.Args cq780))] _ (hst.f hA778 1 7) ?_)
   obtain ⟨r781, hq782, h⟩ := bs h
   refine cal (c_l36_smallPred hq782 hst hq780) ?_
   rintro _ _ ⟨m783, rfl, hl784, hst⟩
   refine s0 1 [vb (!r781)] (nl (tn (cn h (fun h => ?_) (fun h => ?_))))
   ·refine qr (s0 1 [vb false] (nl (tn (wp_ret (br (tr (tr (br (tr (wr [vb false] ?_))))))))))
    have hst := pk0 hst
    have e785 := e759.trans hl784
    have h := Option.some.inj h; subst h
    exact ⟨_, rfl, m783, rfl, e785, hst⟩
   refine wp_skip (bn (tn (rg (s0 3 [vi (w64 (x663 + 1))] (nl (tn ?_))))))
   have e786 := hl722.trans hl784
   exact ih725 k728 (by omega) _ _ ⟨_, m783, (mx (mx x662 ((x751.Variable.Name).length : Int)) ((x762.Other).length : Int)), (w64 (x663 + 1)), au, (by omega), h, e786, hst⟩
  refine wp_exit (tx (tx (bx (tn (sq (qr (s0 1 [vi 0] (nl (tn (bk (wc_loop (fun kk a w => ∃ f0 m1083 x1019 x1020, a = act Tryz.f42.ntmps (upds f0 [(1, vp b1 0), (2, vb false), (3, vi x1019), (7, vi x1020)]) ∧ kk ≤ k728 ∧ l36_small_l5 kk a0 x1019 x1020 = some r ∧ m726.le m1083 ∧ St g m1083 (oo b1 36 (cGQuery a0 (vs Au0 a0.Variables cu0) (vs Au1 a0.Relations cu1) (vs Au2 a0.Absences cu2) (vs Au3 a0.Group cu3) (vs Au4 a0.Compute cu4) (vs Au5 a0.Order cu5)) :: F) w) k728 ?_ ?_)))))))))))
  ·exact ⟨_, m726, (x662), (0), au, (Nat.le_refl _), h, (Mem.le.refl _), hst⟩
  rintro k1081 ih1082 _ _ ⟨f0, m1083, x1019, x1020, rfl, hk1080, h, hl1079, hst⟩
  obtain _ | k1085 := k1081
  ·simp [l36_small_l5] at h
  rw [l36_small_l5] at h
  refine sq (qr (sg 5 [vp b1 5, vs Au3 a0.Group cu3, vi ((a0.Group).length : Int), vb (decide (x1020 < ((a0.Group).length : Int)))] _ (hst.q 0 5 1) (nl (tn (cn h (fun h => ?_) (fun h => ?_))))))
  ·refine wp_skip (tn (sq (bk (dr false (fun x => Rd m1083 (oo b1 36 (cGQuery a0 (vs Au0 a0.Variables cu0) (vs Au1 a0.Relations cu1) (vs Au2 a0.Absences cu2) (vs Au3 a0.Group cu3) (vs Au4 a0.Compute cu4) (vs Au5 a0.Order cu5)) :: []) x) ?_))))
   have hst := hst.drew
   refine gs [0, 1, 3, 8, 10, 15, 17, 2, 9, 16] [vp b1 5, vp b1 5, vp b1 5, vs Au3 a0.Group cu3, vs Au3 a0.Group cu3, vs Au3 a0.Group cu3] _ 14 (pqk (pqt (pqt (pqk (pqt pqb))))) (hst.rd.with_ 0 rfl (hst.rd.none_)) (fun x hx => (AllC.app (hx.q 0 5 1) (AllC.app (hx.q 0 5 1) (hx.q 0 5 1)))) ?_
   obtain ⟨x1115, hx1116, h⟩ := ix h
   have e1123 := hl13.trans (hl149.trans (hl385.trans (hl722.trans hl1079)))
   obtain ⟨b1117, o1118, cs1119, hR1120, hA1121, hI1122⟩ := RS.ix (P := Tryz.prog) (RS.mono e1123 hu3) hx1116
   obtain rfl := TGColumn.open_ hR1120
   refine gv 4 (pqk (pqt (pqt (pqk (pqt pqb))))) (hst.rd.with_ 0 rfl (hst.rd.none_)) rfl (fun x hx => hI1122.r .i64) ?_
   refine gs [5] [vp b1117 o1118] [] 12 (pqk (pqt (pqt (pqk (pqt pqb))))) (hst.rd.with_ 0 rfl (hst.rd.none_)) (fun x hx => trivial) ?_
   obtain ⟨x1125, hx1126, h⟩ := ix h
   obtain ⟨b1127, o1128, cs1129, hR1130, hA1131, hI1132⟩ := RS.ix (P := Tryz.prog) (RS.mono e1123 hu3) hx1126
   obtain rfl := TGColumn.open_ hR1130
   refine gv 11 (pqk (pqt (pqt (pqk (pqt pqb))))) (hst.rd.with_ 0 rfl (hst.rd.none_)) rfl (fun x hx => hI1132.r .i64) ?_
   refine gs [6, 12] [vstr x1115.Var, vp b1127 (o1128 + 1)] _ 9 (pqk (pqt (pqt (pqk (pqt pqb))))) (hst.rd.with_ 0 rfl (hst.rd.none_)) (fun x hx => (hx.f hA1121 0 1)) ?_
   obtain ⟨x1134, hx1135, h⟩ := ix h
   obtain ⟨b1136, o1137, cs1138, hR1139, hA1140, hI1141⟩ := RS.ix (P := Tryz.prog) (RS.mono e1123 hu3) hx1135
   obtain rfl := TGColumn.open_ hR1139
   refine gv 18 (pqk (pqt (pqt (pqk (pqt pqb))))) (hst.rd.with_ 0 rfl (hst.rd.none_)) rfl (fun x hx => hI1141.r .i64) ?_
   refine gs [7, 13, 19, 14, 20, 21, 22] [vi ((x1115.Var).length : Int), vstr x1125.Field, vp b1136 (o1137 + 2), vi ((x1125.Field).length : Int), vstr x1134.Key, vi ((x1134.Key).length : Int), vi (mx (mx (mx x1019 ((x1115.Var).length : Int)) ((x1125.Field).length : Int)) ((x1134.Key).length : Int))] _ 1 (pqk (pqt (pqt (pqk (pqt pqb))))) (hst.rd.with_ 0 rfl (hst.rd.none_)) (fun x hx => (AllC.app (hx.f hA1131 1 1) (hx.f hA1140 2 1))) ?_
   refine ge 23 rfl (sg 1 [] [] trivial (nl (tn (⟨_, fun _ h => h, .inl ⟨rfl, allListed_of _ (by kernel_rfl)⟩, ?_⟩))))
   refine gd (bn (tn (rg (s0 3 [vi (w64 (x1020 + 1))] (nl (tn ?_))))))
   exact ih1082 k1085 (by omega) _ _ ⟨_, m1083, (mx (mx (mx x1019 ((x1115.Var).length : Int)) ((x1125.Field).length : Int)) ((x1134.Key).length : Int)), (w64 (x1020 + 1)), au, (by omega), h, hl1079, hst⟩
  refine wp_exit (tx (tx (bx (tn (sq (qr (s0 1 [vi 0] (nl (tn (bk (wc_loop (fun kk a w => ∃ f0 m1174 x1155 x1156, a = act Tryz.f42.ntmps (upds f0 [(1, vp b1 0), (2, vb false), (3, vi x1155), (8, vi x1156)]) ∧ kk ≤ k1085 ∧ l36_small_l6 kk a0 x1155 x1156 = some r ∧ m1083.le m1174 ∧ St g m1174 (oo b1 36 (cGQuery a0 (vs Au0 a0.Variables cu0) (vs Au1 a0.Relations cu1) (vs Au2 a0.Absences cu2) (vs Au3 a0.Group cu3) (vs Au4 a0.Compute cu4) (vs Au5 a0.Order cu5)) :: F) w) k1085 ?_ ?_)))))))))))
  ·exact ⟨_, m1083, (x1019), (0), au, (Nat.le_refl _), h, (Mem.le.refl _), hst⟩
  rintro k1172 ih1173 _ _ ⟨f0, m1174, x1155, x1156, rfl, hk1171, h, hl1170, hst⟩
  obtain _ | k1176 := k1172
  ·simp [l36_small_l6] at h
  rw [l36_small_l6] at h
  refine sq (qr (sg 5 [vp b1 6, vs Au4 a0.Compute cu4, vi ((a0.Compute).length : Int), vb (decide (x1156 < ((a0.Compute).length : Int)))] _ (hst.q 0 6 1) (nl (tn (cn h (fun h => ?_) (fun h => ?_))))))
  ·refine wp_skip (tn (sq (bk (qr (sg 3 [vp b1 6, vs Au4 a0.Compute cu4] _ (hst.q 0 6 1) ?_)))))
   obtain ⟨x1178, hx1179, h⟩ := ix h
   have e1186 := hl13.trans (hl149.trans (hl385.trans (hl722.trans (hl1079.trans hl1170))))
   obtain ⟨b1180, o1181, cs1182, hR1183, hA1184, hI1185⟩ := RS.ix (P := Tryz.prog) (RS.mono e1186 hu4) hx1179
   obtain rfl := TGAggregate.open_ hR1183
   refine vl (hI1185.r .i64) (sg 2 [vp b1180 (o1181 + 1), va (cGColumn x1178.Column)] _ (hst.f hA1184 1 3) (al [vstr w_0, vstr w_0, vstr w_0] hst (fun b1187 _ hst => ?_)))
   refine so0 0 (cGColumn x1178.Column) hst (fun _ hst => ?_)
   refine nl (tn (rg (sg 12 [vp b1187 0, vstr x1178.Column.Var, vi ((x1178.Column.Var).length : Int), vp b1187 1, vstr x1178.Column.Field, vi ((x1178.Column.Field).length : Int), vp b1187 2, vstr x1178.Column.Key, vi ((x1178.Column.Key).length : Int), vi (mx (mx (mx x1155 ((x1178.Column.Var).length : Int)) ((x1178.Column.Field).length : Int)) ((x1178.Column.Key).length : Int))] _ (hst.q 0 0 3) (nl (bn (tn (rg (s0 3 [vi (w64 (x1156 + 1))] (nl (tn ?_))))))))))
   have hst := pk0 hst
   exact ih1173 k1176 (by omega) _ _ ⟨_, m1174, (mx (mx (mx x1155 ((x1178.Column.Var).length : Int)) ((x1178.Column.Field).length : Int)) ((x1178.Column.Key).length : Int)), (w64 (x1156 + 1)), au, (by omega), h, hl1170, hst⟩
  refine wp_exit (tx (tx (bx (tn (qr (s0 3 [vb (decide (x1155 ≤ 80))] (nl (tn (wp_ret (wr [vb (decide (x1155 ≤ 80))] ?_))))))))))
  have hst := pk0 hst
  have e1188 := hl13.trans (hl149.trans (hl385.trans (hl722.trans (hl1079.trans hl1170))))
  cases h
  exact ⟨_, rfl, m1174, rfl, e1188, hst⟩
 refine rg (sg 5 [vp b1 0, vs Au0 a0.Variables cu0, vi ((a0.Variables).length : Int), vb (decide (((a0.Variables).length : Int) > 4))] _ (hst.q 0 0 1) ?_)
 rcases sp h with ⟨hc1189, h⟩ | ⟨hc1189, h⟩
 ·rw [hc1189]
  refine sk 4 (s0 2 [vb true] (sk 4 (s0 2 [vb true] (sk 4 (s0 2 [vb true] (sk 4 (s0 2 [vb true] (sk 4 (s0 1 [vb true] (nl (tn ?_)))))))))))
  exact ⟨_, k, m, (true), au, (by omega), h, (Mem.le.refl _), hst⟩
 rw [hc1189]
 refine sg 6 [vp b1 1, vs Au1 a0.Relations cu1, vi ((a0.Relations).length : Int), vb (decide (((a0.Relations).length : Int) > 4)), vb (decide (((a0.Relations).length : Int) > 4))] _ (hst.q 0 1 1) ?_
 rcases sp h with ⟨hc1190, h⟩ | ⟨hc1190, h⟩
 ·rw [hc1190]
  refine sk 4 (s0 2 [vb true] (sk 4 (s0 2 [vb true] (sk 4 (s0 2 [vb true] (sk 4 (s0 1 [vb true] (nl (tn ?_)))))))))
  exact ⟨_, k, m, (true), au, (by omega), h, (Mem.le.refl _), hst⟩
 rw [hc1190]
 refine sg 6 [vp b1 2, vs Au2 a0.Absences cu2, vi ((a0.Absences).length : Int), vb (decide (((a0.Absences).length : Int) > 4)), vb (decide (((a0.Absences).length : Int) > 4))] _ (hst.q 0 2 1) ?_
 rcases sp h with ⟨hc1191, h⟩ | ⟨hc1191, h⟩
 ·rw [hc1191]
  refine sk 4 (s0 2 [vb true] (sk 4 (s0 2 [vb true] (sk 4 (s0 1 [vb true] (nl (tn ?_)))))))
  exact ⟨_, k, m, (true), au, (by omega), h, (Mem.le.refl _), hst⟩
 rw [hc1191]
 refine sg 6 [vp b1 5, vs Au3 a0.Group cu3, vi ((a0.Group).length : Int), vb (decide (((a0.Group).length : Int) > 4)), vb (decide (((a0.Group).length : Int) > 4))] _ (hst.q 0 5 1) ?_
 rcases sp h with ⟨hc1192, h⟩ | ⟨hc1192, h⟩
 ·rw [hc1192]
  refine sk 4 (s0 2 [vb true] (sk 4 (s0 1 [vb true] (nl (tn ?_)))))
  exact ⟨_, k, m, (true), au, (by omega), h, (Mem.le.refl _), hst⟩
 rw [hc1192]
 refine sg 6 [vp b1 6, vs Au4 a0.Compute cu4, vi ((a0.Compute).length : Int), vb (decide (((a0.Compute).length : Int) > 4)), vb (decide (((a0.Compute).length : Int) > 4))] _ (hst.q 0 6 1) ?_
 rcases sp h with ⟨hc1193, h⟩ | ⟨hc1193, h⟩
 ·rw [hc1193]
  refine sk 4 (s0 1 [vb true] (nl (tn ?_)))
  exact ⟨_, k, m, (true), au, (by omega), h, (Mem.le.refl _), hst⟩
 rw [hc1193]
 refine sg 5 [vp b1 7, vs Au5 a0.Order cu5, vi ((a0.Order).length : Int), vb (decide (((a0.Order).length : Int) > 4)), vb (decide (((a0.Order).length : Int) > 4))] _ (hst.q 0 7 1) (nl (tn ?_))
 exact ⟨_, k, m, (decide (((a0.Order).length : Int) > 4)), au, (by omega), h, (Mem.le.refl _), hst⟩
abbrev R_l36_SyntaxChecks := RBool
theorem c_l36_SyntaxChecks {a0 : GQuery} {a1 : GQuery} {r : Bool} (h : l36_SyntaxChecks k a0 a1 = some r) (hst : St g m (F) w) (hu0 : RS (TGVariable) m (vs Au0 a0.Variables cu0) a0.Variables) (hu1 : RS (TGRelation) m (vs Au1 a0.Relations cu1) a0.Relations) (hu2 : RS (TGAbsence) m (vs Au2 a0.Absences cu2) a0.Absences) (hu3 : RS (TGColumn) m (vs Au3 a0.Group cu3) a0.Group) (hu4 : RS (TGAggregate) m (vs Au4 a0.Compute cu4) a0.Compute) (hu5 : RS (TGOrderKey) m (vs Au5 a0.Order cu5) a0.Order) (hu6 : RS (TGVariable) m (vs Au6 a1.Variables cu6) a1.Variables) (hu7 : RS (TGRelation) m (vs Au7 a1.Relations cu7) a1.Relations) (hu8 : RS (TGAbsence) m (vs Au8 a1.Absences cu8) a1.Absences) (hu9 : RS (TGColumn) m (vs Au9 a1.Group cu9) a1.Group) (hu10 : RS (TGAggregate) m (vs Au10 a1.Compute cu10) a1.Compute) (hu11 : RS (TGOrderKey) m (vs Au11 a1.Order cu11) a1.Order) (hG : Glob m) :
    Calls Tryz.prog 12 ⟨[va (cGQuery a0 (vs Au0 a0.Variables cu0) (vs Au1 a0.Relations cu1) (vs Au2 a0.Absences cu2) (vs Au3 a0.Group cu3) (vs Au4 a0.Compute cu4) (vs Au5 a0.Order cu5)), va (cGQuery a1 (vs Au6 a1.Variables cu6) (vs Au7 a1.Relations cu7) (vs Au8 a1.Absences cu8) (vs Au9 a1.Group cu9) (vs Au10 a1.Compute cu10) (vs Au11 a1.Order cu11))]⟩ w (OPost (R_l36_SyntaxChecks g m F) r) := by
 refine calls_enter Tryz.func12 rfl rfl ?_
 unfold l36_SyntaxChecks at h
 refine qr (bo_ (cGQuery a0 (vs Au0 a0.Variables cu0) (vs Au1 a0.Relations cu1) (vs Au2 a0.Absences cu2) (vs Au3 a0.Group cu3) (vs Au4 a0.Compute cu4) (vs Au5 a0.Order cu5)) hst (fun b1 _ hst => ?_))
 refine bo_ (cGQuery a1 (vs Au6 a1.Variables cu6) (vs Au7 a1.Relations cu7) (vs Au8 a1.Absences cu8) (vs Au9 a1.Group cu9) (vs Au10 a1.Compute cu10) (vs Au11 a1.Order cu11)) hst (fun b2 _ hst => ?_)
 refine s0 1 [vb false] (nl (tn (sq (wc_join (fun a w => ∃ f0 k49 m51 x47, a = act Tryz.f12.ntmps (upds f0 [(2, vp b1 0), (3, vp b2 0), (4, vb false), (18, vb x47)]) ∧ k49 ≤ k ∧ l36_SyntaxChecks_j1 k49 a0 a1 x47 = some r ∧ m.le m51 ∧ St g m51 (oo b2 36 (cGQuery a1 (vs Au6 a1.Variables cu6) (vs Au7 a1.Relations cu7) (vs Au8 a1.Absences cu8) (vs Au9 a1.Group cu9) (vs Au10 a1.Compute cu10) (vs Au11 a1.Order cu11)) :: oo b1 36 (cGQuery a0 (vs Au0 a0.Variables cu0) (vs Au1 a0.Relations cu1) (vs Au2 a0.Absences cu2) (vs Au3 a0.Group cu3) (vs Au4 a0.Compute cu4) (vs Au5 a0.Order cu5)) :: F) w) ?_ ?_))))
 ·rintro _ _ ⟨f0, k49, m51, x47, rfl, hk50, h, hl48, hst⟩
  unfold l36_SyntaxChecks_j1 at h
  refine cn h (fun h => ?_) (fun h => ?_)
  ·refine qr ?_
   obtain ⟨r52, hq53, h⟩ := bs h
   refine cal (c_l36_known hq53 hst (Glob.mono hl48 hG)) ?_
   rintro _ _ ⟨m54, rfl, hl55, hst⟩
   refine s0 1 [] (nl (tn (wp_ret (tr (wr [vb r52] ?_)))))
   have hst := pk2 hst
   have e56 := hl48.trans hl55
   have h := Option.some.inj h; subst h
   exact ⟨_, rfl, m54, rfl, e56, hst⟩
  refine wp_skip (tn (qr (sg 1 [va (cGQuery a0 (vs Au0 a0.Variables cu0) (vs Au1 a0.Relations cu1) (vs Au2 a0.Absences cu2) (vs Au3 a0.Group cu3) (vs Au4 a0.Compute cu4) (vs Au5 a0.Order cu5))] _ (hst.q 1 0 9) ?_)))
  obtain ⟨r57, hq58, h⟩ := bs h
  refine cal (c_syntax_Print hq58 hst (RS.mono hl48 hu0) (RS.mono hl48 hu1) (RS.mono hl48 hu2) (RS.mono hl48 hu3) (RS.mono hl48 hu4) (RS.mono hl48 hu5) (Glob.mono hl48 hG)) ?_
  rintro _ _ ⟨m59, rfl, hl60, hst⟩
  refine s0 5 [vstr r57.1, vi r57.2] (nl (tn (sq (wc_join (fun a w => ∃ f0 k179 m181 x177, a = act Tryz.f12.ntmps (upds f0 [(2, vp b1 0), (4, vb false), (5, vstr r57.1), (6, vi r57.2), (49, vb x177)]) ∧ k179 ≤ k49 ∧ l36_SyntaxChecks_j2 k179 a0 r57 x177 = some r ∧ m59.le m181 ∧ St g m181 (oo b2 36 (cGQuery a1 (vs Au6 a1.Variables cu6) (vs Au7 a1.Relations cu7) (vs Au8 a1.Absences cu8) (vs Au9 a1.Group cu9) (vs Au10 a1.Compute cu10) (vs Au11 a1.Order cu11)) :: oo b1 36 (cGQuery a0 (vs Au0 a0.Variables cu0) (vs Au1 a0.Relations cu1) (vs Au2 a0.Absences cu2) (vs Au3 a0.Group cu3) (vs Au4 a0.Compute cu4) (vs Au5 a0.Order cu5)) :: F) w) ?_ ?_))))
  ·rintro _ _ ⟨f0, k179, m181, x177, rfl, hk180, h, hl178, hst⟩
   unfold l36_SyntaxChecks_j2 at h
   refine cn h (fun h => ?_) (fun h => ?_)
   ·refine qr (s0 1 [vb false] (nl (tn (wp_ret (tr (wr [vb false] ?_))))))
    have hst := pk2 hst
    have e182 := hl48.trans (hl60.trans hl178)
    have h := Option.some.inj h; subst h
    exact ⟨_, rfl, m181, rfl, e182, hst⟩
   refine wp_skip (tn (qr (s0 3 [vb (r57.2 != 0)] ?_)))
   rcases sp h with ⟨hc183, h⟩ | ⟨hc183, h⟩
   ·rw [hc183]
    refine s0 1 [] (vl (re r57.1 w_0) (s0 2 [vb (r57.1 == w_0)] ?_))
    rcases sp h with ⟨hc184, h⟩ | ⟨hc184, h⟩
    ·rw [hc184]
     refine sk 8 (s0 2 [vb true] (nl (tn (wp_ret (wr [vb true] ?_)))))
     have hst := pk2 hst
     have e185 := hl48.trans (hl60.trans hl178)
     have h := Option.some.inj h; subst h
     exact ⟨_, rfl, m181, rfl, e185, hst⟩
    rw [hc184]
    refine s0 3 [vb (r57.2 == 0)] ?_
    rcases sp h with ⟨hc186, h⟩ | ⟨hc186, h⟩
    ·rw [hc186]
     refine sg 2 [va (cGQuery a0 (vs Au0 a0.Variables cu0) (vs Au1 a0.Relations cu1) (vs Au2 a0.Absences cu2) (vs Au3 a0.Group cu3) (vs Au4 a0.Compute cu4) (vs Au5 a0.Order cu5))] _ (hst.q 1 0 9) ?_
     have e187 := hl48.trans (hl60.trans hl178)
     obtain ⟨r188, hq189, h⟩ := bs h
     refine cal (c_l36_query hq189 hst (RS.mono e187 hu0) (RS.mono e187 hu1) (RS.mono e187 hu2) (RS.mono e187 hu3) (RS.mono e187 hu4) (RS.mono e187 hu5)) ?_
     rintro _ _ ⟨m190, rfl, hl191, hst⟩
     refine vl (re r57.1 r188) (s0 3 [vb (r57.1 == r188), vb (r57.1 == r188)] (nl (tn (wp_ret (wr [vb (r57.1 == r188)] ?_)))))
     have hst := pk2 hst
     have e192 := e187.trans hl191
     cases h
     exact ⟨_, rfl, m190, rfl, e192, hst⟩
    rw [hc186]
    refine sk 4 (s0 3 [vb false, vb false] (nl (tn (wp_ret (wr [vb false] ?_)))))
    have hst := pk2 hst
    have e193 := hl48.trans (hl60.trans hl178)
    have h := Option.some.inj h; subst h
    exact ⟨_, rfl, m181, rfl, e193, hst⟩
   rw [hc183]
   refine sk 2 (s0 5 [vb false, vb (r57.2 == 0)] ?_)
   rcases sp h with ⟨hc194, h⟩ | ⟨hc194, h⟩
   ·rw [hc194]
    refine sg 2 [va (cGQuery a0 (vs Au0 a0.Variables cu0) (vs Au1 a0.Relations cu1) (vs Au2 a0.Absences cu2) (vs Au3 a0.Group cu3) (vs Au4 a0.Compute cu4) (vs Au5 a0.Order cu5))] _ (hst.q 1 0 9) ?_
    have e195 := hl48.trans (hl60.trans hl178)
    obtain ⟨r196, hq197, h⟩ := bs h
    refine cal (c_l36_query hq197 hst (RS.mono e195 hu0) (RS.mono e195 hu1) (RS.mono e195 hu2) (RS.mono e195 hu3) (RS.mono e195 hu4) (RS.mono e195 hu5)) ?_
    rintro _ _ ⟨m198, rfl, hl199, hst⟩
    refine vl (re r57.1 r196) (s0 3 [vb (r57.1 == r196), vb (r57.1 == r196)] (nl (tn (wp_ret (wr [vb (r57.1 == r196)] ?_)))))
    have hst := pk2 hst
    have e200 := e195.trans hl199
    cases h
    exact ⟨_, rfl, m198, rfl, e200, hst⟩
   rw [hc194]
   refine sk 4 (s0 3 [vb false, vb false] (nl (tn (wp_ret (wr [vb false] ?_)))))
   have hst := pk2 hst
   have e201 := hl48.trans (hl60.trans hl178)
   have h := Option.some.inj h; subst h
   exact ⟨_, rfl, m181, rfl, e201, hst⟩
  refine dr false (fun x => Rd m59 (oo b1 36 (cGQuery a0 (vs Au0 a0.Variables cu0) (vs Au1 a0.Relations cu1) (vs Au2 a0.Absences cu2) (vs Au3 a0.Group cu3) (vs Au4 a0.Compute cu4) (vs Au5 a0.Order cu5)) :: oo b2 36 (cGQuery a1 (vs Au6 a1.Variables cu6) (vs Au7 a1.Relations cu7) (vs Au8 a1.Absences cu8) (vs Au9 a1.Group cu9) (vs Au10 a1.Compute cu10) (vs Au11 a1.Order cu11)) :: []) x) ?_
  have hst := hst.drew
  refine gs [0, 1] [va (cGQuery a0 (vs Au0 a0.Variables cu0) (vs Au1 a0.Relations cu1) (vs Au2 a0.Absences cu2) (vs Au3 a0.Group cu3) (vs Au4 a0.Compute cu4) (vs Au5 a0.Order cu5))] _ 23 (pqt (pqt pqb)) (hst.rd.with_ 1 rfl (hst.rd.with_ 0 rfl (hst.rd.none_))) (fun x hx => (hx.q 0 0 9)) ?_
  refine ge 2 rfl ?_
  have e231 := hl48.trans hl60
  obtain ⟨r232, hq233, h⟩ := bs h
  refine cal (c_l36_check hq233 hst (RS.mono e231 hu0) (RS.mono e231 hu1) (RS.mono e231 hu2) (RS.mono e231 hu3) (RS.mono e231 hu4) (RS.mono e231 hu5)) ?_
  rintro _ _ ⟨m234, rfl, hl235, hst⟩
  refine gn (Rd.lower hl235 (hst.rd.with_ 1 rfl (hst.rd.with_ 0 rfl (hst.rd.none_)))) (wpG_strong (S2 := fun x => Rd m234 (oo b1 36 (cGQuery a0 (vs Au0 a0.Variables cu0) (vs Au1 a0.Relations cu1) (vs Au2 a0.Absences cu2) (vs Au3 a0.Group cu3) (vs Au4 a0.Compute cu4) (vs Au5 a0.Order cu5)) :: oo b2 36 (cGQuery a1 (vs Au6 a1.Variables cu6) (vs Au7 a1.Relations cu7) (vs Au8 a1.Absences cu8) (vs Au9 a1.Group cu9) (vs Au10 a1.Compute cu10) (vs Au11 a1.Order cu11)) :: []) x) (fun x hx => Rd.lower hl235 hx) ?_)
  refine gs [3, 4] [vb (r57.2 != r232)] [] 20 (pqt (pqt pqb)) (hst.rd.with_ 1 rfl (hst.rd.with_ 0 rfl (hst.rd.none_))) (fun x hx => trivial) ?_
  rcases sp h with ⟨hc236, h⟩ | ⟨hc236, h⟩
  ·rw [hc236]
   refine gs [5, 7, 6, 8, 9, 10, 11, 12, 14, 15, 13, 16, 17, 18, 19, 20, 21, 22, 23] [undef, undef, undef, undef, vb true, undef, undef, undef, undef, undef, undef, undef, vb true, undef, undef, undef, undef] [] 1 (pqt (pqt pqb)) (hst.rd.with_ 1 rfl (hst.rd.with_ 0 rfl (hst.rd.none_))) (fun x hx => trivial) ?_
   refine ge 24 rfl (sg 1 [vb true] [] trivial (nl (tn (⟨_, fun _ h => h, .inl ⟨rfl, allListed_of _ (by kernel_rfl)⟩, ?_⟩))))
   refine gd (tn ?_)
   exact ⟨_, k49, m234, (true), au, (by omega), h, hl235, hst⟩
  rw [hc236]
  refine gs [5, 7] [va (cGQuery a0 (vs Au0 a0.Variables cu0) (vs Au1 a0.Relations cu1) (vs Au2 a0.Absences cu2) (vs Au3 a0.Group cu3) (vs Au4 a0.Compute cu4) (vs Au5 a0.Order cu5)), vi r57.2] _ 18 (pqt (pqt pqb)) (hst.rd.with_ 1 rfl (hst.rd.with_ 0 rfl (hst.rd.none_))) (fun x hx => (hx.q 0 0 9)) ?_
  refine ge 6 rfl ?_
  have e237 := e231.trans hl235
  obtain ⟨r238, hq239, h⟩ := bs h
  refine cal (c_syntax_Check hq239 hst (RS.mono e237 hu0) (RS.mono e237 hu1) (RS.mono e237 hu2) (RS.mono e237 hu3) (RS.mono e237 hu4) (RS.mono e237 hu5) (Glob.mono e237 hG)) ?_
  rintro _ _ ⟨m240, rfl, hl241, hst⟩
  refine gn (Rd.lower hl241 (hst.rd.with_ 1 rfl (hst.rd.with_ 0 rfl (hst.rd.none_)))) (wpG_strong (S2 := fun x => Rd m240 (oo b1 36 (cGQuery a0 (vs Au0 a0.Variables cu0) (vs Au1 a0.Relations cu1) (vs Au2 a0.Absences cu2) (vs Au3 a0.Group cu3) (vs Au4 a0.Compute cu4) (vs Au5 a0.Order cu5)) :: oo b2 36 (cGQuery a1 (vs Au6 a1.Variables cu6) (vs Au7 a1.Relations cu7) (vs Au8 a1.Absences cu8) (vs Au9 a1.Group cu9) (vs Au10 a1.Compute cu10) (vs Au11 a1.Order cu11)) :: []) x) (fun x hx => Rd.lower hl241 hx) ?_)
  refine gs [8, 9, 10] [vb (r238 != r57.2), vb (r238 != r57.2)] [] 14 (pqt (pqt pqb)) (hst.rd.with_ 1 rfl (hst.rd.with_ 0 rfl (hst.rd.none_))) (fun x hx => trivial) ?_
  rcases sp h with ⟨hc242, h⟩ | ⟨hc242, h⟩
  ·rw [hc242]
   refine gs [11, 12, 14, 15, 13, 16, 17, 18, 19, 20, 21, 22, 23] [undef, undef, undef, undef, undef, undef, undef, vb true, undef, undef, undef, undef] [] 1 (pqt (pqt pqb)) (hst.rd.with_ 1 rfl (hst.rd.with_ 0 rfl (hst.rd.none_))) (fun x hx => trivial) ?_
   refine ge 24 rfl (sg 1 [vb true] [] trivial (nl (tn (⟨_, fun _ h => h, .inl ⟨rfl, allListed_of _ (by kernel_rfl)⟩, ?_⟩))))
   refine gd (tn ?_)
   have e243 := hl235.trans hl241
   exact ⟨_, k49, m240, (true), au, (by omega), h, e243, hst⟩
  rw [hc242]
  refine gs [11, 12, 14, 15] [va (cGQuery a0 (vs Au0 a0.Variables cu0) (vs Au1 a0.Relations cu1) (vs Au2 a0.Absences cu2) (vs Au3 a0.Group cu3) (vs Au4 a0.Compute cu4) (vs Au5 a0.Order cu5)), va (cGQuery a1 (vs Au6 a1.Variables cu6) (vs Au7 a1.Relations cu7) (vs Au8 a1.Absences cu8) (vs Au9 a1.Group cu9) (vs Au10 a1.Compute cu10) (vs Au11 a1.Order cu11)), va (cGQuery a0 (vs Au0 a0.Variables cu0) (vs Au1 a0.Relations cu1) (vs Au2 a0.Absences cu2) (vs Au3 a0.Group cu3) (vs Au4 a0.Compute cu4) (vs Au5 a0.Order cu5)), va (cGQuery a1 (vs Au6 a1.Variables cu6) (vs Au7 a1.Relations cu7) (vs Au8 a1.Absences cu8) (vs Au9 a1.Group cu9) (vs Au10 a1.Compute cu10) (vs Au11 a1.Order cu11))] _ 10 (pqt (pqt pqb)) (hst.rd.with_ 1 rfl (hst.rd.with_ 0 rfl (hst.rd.none_))) (fun x hx => (AllC.app (hx.q 0 0 9) (AllC.app (hx.q 1 0 9) (AllC.app (hx.q 0 0 9) (hx.q 1 0 9))))) ?_
  refine ge 13 rfl ?_
  have e244 := e237.trans hl241
  obtain ⟨r245, hq246, h⟩ := bs h
  refine cal (c_syntax_Equal hq246 hst (RS.mono e244 hu0) (RS.mono e244 hu1) (RS.mono e244 hu2) (RS.mono e244 hu3) (RS.mono e244 hu4) (RS.mono e244 hu5) (RS.mono e244 hu6) (RS.mono e244 hu7) (RS.mono e244 hu8) (RS.mono e244 hu9) (RS.mono e244 hu10) (RS.mono e244 hu11)) ?_
  rintro _ _ ⟨m247, rfl, hl248, hst⟩
  refine gn (Rd.lower hl248 (hst.rd.with_ 1 rfl (hst.rd.with_ 0 rfl (hst.rd.none_)))) (ge 16 rfl ?_)
  have e249 := e244.trans hl248
  obtain ⟨r250, hq251, h⟩ := bs h
  refine cal (c_l36_same hq251 hst (RS.mono e249 hu0) (RS.mono e249 hu1) (RS.mono e249 hu2) (RS.mono e249 hu3) (RS.mono e249 hu4) (RS.mono e249 hu5) (RS.mono e249 hu6) (RS.mono e249 hu7) (RS.mono e249 hu8) (RS.mono e249 hu9) (RS.mono e249 hu10) (RS.mono e249 hu11)) ?_
  rintro _ _ ⟨m252, rfl, hl253, hst⟩
  have e254 := hl248.trans hl253
  refine gn (Rd.lower e254 (hst.rd.with_ 1 rfl (hst.rd.with_ 0 rfl (hst.rd.none_)))) (wpG_strong (S2 := fun x => Rd m252 (oo b1 36 (cGQuery a0 (vs Au0 a0.Variables cu0) (vs Au1 a0.Relations cu1) (vs Au2 a0.Absences cu2) (vs Au3 a0.Group cu3) (vs Au4 a0.Compute cu4) (vs Au5 a0.Order cu5)) :: oo b2 36 (cGQuery a1 (vs Au6 a1.Variables cu6) (vs Au7 a1.Relations cu7) (vs Au8 a1.Absences cu8) (vs Au9 a1.Group cu9) (vs Au10 a1.Compute cu10) (vs Au11 a1.Order cu11)) :: []) x) (fun x hx => Rd.lower e254 hx) ?_)
  refine gs [17, 18, 19] [vb (!(r245 == r250)), vb (!(r245 == r250))] [] 5 (pqt (pqt pqb)) (hst.rd.with_ 1 rfl (hst.rd.with_ 0 rfl (hst.rd.none_))) (fun x hx => trivial) ?_
  rcases sp h with ⟨hc255, h⟩ | ⟨hc255, h⟩
  ·rw [hc255]
   refine gs [20, 21, 22, 23] [undef, undef, undef, undef] [] 1 (pqt (pqt pqb)) (hst.rd.with_ 1 rfl (hst.rd.with_ 0 rfl (hst.rd.none_))) (fun x hx => trivial) ?_
   refine ge 24 rfl (sg 1 [vb true] [] trivial (nl (tn (⟨_, fun _ h => h, .inl ⟨rfl, allListed_of _ (by kernel_rfl)⟩, ?_⟩))))
   refine gd (tn ?_)
   have e256 := hl235.trans (hl241.trans (hl248.trans hl253))
   exact ⟨_, k49, m252, (true), au, (by omega), h, e256, hst⟩
  rw [hc255]
  refine gs [20, 21] [va (cGQuery a0 (vs Au0 a0.Variables cu0) (vs Au1 a0.Relations cu1) (vs Au2 a0.Absences cu2) (vs Au3 a0.Group cu3) (vs Au4 a0.Compute cu4) (vs Au5 a0.Order cu5)), va (cGQuery a0 (vs Au0 a0.Variables cu0) (vs Au1 a0.Relations cu1) (vs Au2 a0.Absences cu2) (vs Au3 a0.Group cu3) (vs Au4 a0.Compute cu4) (vs Au5 a0.Order cu5))] _ 3 (pqt (pqt pqb)) (hst.rd.with_ 1 rfl (hst.rd.with_ 0 rfl (hst.rd.none_))) (fun x hx => (AllC.app (hx.q 0 0 9) (hx.q 0 0 9))) ?_
  refine ge 22 rfl ?_
  have e257 := e249.trans hl253
  obtain ⟨r258, hq259, h⟩ := bs h
  refine cal (c_syntax_Equal hq259 hst (RS.mono e257 hu0) (RS.mono e257 hu1) (RS.mono e257 hu2) (RS.mono e257 hu3) (RS.mono e257 hu4) (RS.mono e257 hu5) (RS.mono e257 hu0) (RS.mono e257 hu1) (RS.mono e257 hu2) (RS.mono e257 hu3) (RS.mono e257 hu4) (RS.mono e257 hu5)) ?_
  rintro _ _ ⟨m260, rfl, hl261, hst⟩
  refine gn (Rd.lower hl261 (hst.rd.with_ 1 rfl (hst.rd.with_ 0 rfl (hst.rd.none_)))) (wpG_strong (S2 := fun x => Rd m260 (oo b1 36 (cGQuery a0 (vs Au0 a0.Variables cu0) (vs Au1 a0.Relations cu1) (vs Au2 a0.Absences cu2) (vs Au3 a0.Group cu3) (vs Au4 a0.Compute cu4) (vs Au5 a0.Order cu5)) :: oo b2 36 (cGQuery a1 (vs Au6 a1.Variables cu6) (vs Au7 a1.Relations cu7) (vs Au8 a1.Absences cu8) (vs Au9 a1.Group cu9) (vs Au10 a1.Compute cu10) (vs Au11 a1.Order cu11)) :: []) x) (fun x hx => Rd.lower hl261 hx) ?_)
  refine gs [23] [vb (!r258)] [] 1 (pqt (pqt pqb)) (hst.rd.with_ 1 rfl (hst.rd.with_ 0 rfl (hst.rd.none_))) (fun x hx => trivial) ?_
  refine ge 24 rfl (sg 1 [vb (!r258)] [] trivial (nl (tn (⟨_, fun _ h => h, .inl ⟨rfl, allListed_of _ (by kernel_rfl)⟩, ?_⟩))))
  refine gd (tn ?_)
  have e262 := hl235.trans (hl241.trans (hl248.trans (hl253.trans hl261)))
  exact ⟨_, k49, m260, (!r258), au, (by omega), h, e262, hst⟩
 refine rg ?_
 obtain ⟨r263, hq264, h⟩ := bs h
 refine cal (c_l36_known hq264 hst hG) ?_
 rintro _ _ ⟨m265, rfl, hl266, hst⟩
 refine s0 2 [vb (!r263)] ?_
 rcases sp h with ⟨hc267, h⟩ | ⟨hc267, h⟩
 ·rw [hc267]
  refine sk 3 (s0 2 [vb true] (sk 3 (s0 1 [vb true] (nl (tn ?_)))))
  exact ⟨_, k, m265, (true), au, (by omega), h, hl266, hst⟩
 rw [hc267]
 refine sg 1 [va (cGQuery a0 (vs Au0 a0.Variables cu0) (vs Au1 a0.Relations cu1) (vs Au2 a0.Absences cu2) (vs Au3 a0.Group cu3) (vs Au4 a0.Compute cu4) (vs Au5 a0.Order cu5))] _ (hst.q 1 0 9) ?_
 obtain ⟨r268, hq269, h⟩ := bs h
 refine cal (c_l36_small hq269 hst (RS.mono hl266 hu0) (RS.mono hl266 hu1) (RS.mono hl266 hu2) (RS.mono hl266 hu3) (RS.mono hl266 hu4) (RS.mono hl266 hu5)) ?_
 rintro _ _ ⟨m270, rfl, hl271, hst⟩
 refine s0 3 [vb (!r268), vb (!r268)] ?_
 rcases sp h with ⟨hc272, h⟩ | ⟨hc272, h⟩
 ·rw [hc272]
  refine sk 3 (s0 1 [vb true] (nl (tn ?_)))
  have e273 := hl266.trans hl271
  exact ⟨_, k, m270, (true), au, (by omega), h, e273, hst⟩
 rw [hc272]
 refine sg 1 [va (cGQuery a1 (vs Au6 a1.Variables cu6) (vs Au7 a1.Relations cu7) (vs Au8 a1.Absences cu8) (vs Au9 a1.Group cu9) (vs Au10 a1.Compute cu10) (vs Au11 a1.Order cu11))] _ (hst.q 0 0 9) ?_
 have e274 := hl266.trans hl271
 obtain ⟨r275, hq276, h⟩ := bs h
 refine cal (c_l36_small hq276 hst (RS.mono e274 hu6) (RS.mono e274 hu7) (RS.mono e274 hu8) (RS.mono e274 hu9) (RS.mono e274 hu10) (RS.mono e274 hu11)) ?_
 rintro _ _ ⟨m277, rfl, hl278, hst⟩
 refine s0 2 [vb (!r275), vb (!r275)] (nl (tn ?_))
 have e279 := e274.trans hl278
 exact ⟨_, k, m277, (!r275), au, (by omega), h, e279, hst⟩
end Go.Proofs.YtfnaahkgegfbnaaGreatDoor
