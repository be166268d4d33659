/- Contracts of Go functions. Written by a program of this session. -/
import Derived.Test.YtfnaahkgegfbnaaGreatDoorPK
import Derived.Test.YtfnaahkgegfbnaaGreatDoorShelf
import Derived.Test.YtfnaahkgegfbnaaGreatDoorDa
import Derived.Test.YtfnaahkgegfbnaaGreatDoorGa0
import Derived.Test.YtfnaahkgegfbnaaGreatDoorGa1
set_option linter.unusedVariables false
set_option linter.unusedSimpArgs false
set_option maxRecDepth 10000
namespace Go.Proofs.YtfnaahkgegfbnaaGreatDoor

def R_writer_absence (g : World) (m : Mem) (F : List Asr) (ob0 : Nat) (r : SWriter) (v : Value) (w' : World) : Prop := ∃ (m' : Mem) (A1 : Option Addr) (c1 : Nat) (cs1 : List Value), v = vt [] ∧ m.le m' ∧ St g m' (oo ob0 123 (cSWriter r (vs A1 r.out c1)) :: rw_ 5 1 A1 r.out c1 cs1 :: F) w' ∧ RC (TInt .u8) m' r.out cs1
theorem c_writer_absence {k : Nat} {a0 : SWriter} {a1 : GAbsence} {r : SWriter} {g : World} {m : Mem} {F : List Asr} {w : World} {ob0 : Nat} {A1_ : Option Addr} {c1_ : Nat} {cs1_ : List Value} {u2 : Value} (h : writer_absence k a0 a1 = some r) (hst : St g m (oo ob0 123 (cSWriter a0 (vs A1_ a0.out c1_)) :: rw_ 5 1 A1_ a0.out c1_ cs1_ :: F) w) (hrc1_ : RC (TInt .u8) m a0.out cs1_) (hu2 : RS (TGPred) m u2 a1.Variable.Where.Args) (hG : Glob m) :
    Calls Tryz.prog 129 ⟨[vp ob0 0, va (cGAbsence a1 u2)]⟩ w (OPost (R_writer_absence g m F ob0) r) := by
 refine calls_enter Tryz.func129 rfl rfl ?_
 unfold writer_absence at h
 obtain ⟨A1, c2, rfl⟩ := hu2.shape
 refine qr (bo_ (cGAbsence a1 (vs A1 a1.Variable.Where.Args c2)) hst (fun b3 _ hst => ?_))
 refine nl (tn (sq (qr (sg 2 [(4, vp b3 10), (5, vb a1.First)] [(ad b3 10, vb a1.First)] ⟨hst.c 0, trivial⟩ (nl (tn (cn h (fun h => ?_) (fun h => ?_))))))))
 ·refine qr (s0 1 [(6, vp ob0 0)] (li 9 1 [vstr w_not] hst (fun b97 _ hst => ?_)))
  obtain ⟨m98, hl99, hst, hs100⟩ := hst.obj_slice (T := TStr) (xs := [w_not]) (RC.k1 rfl (RC.nil _ _)) rfl
  have hst := pk10 hst
  obtain ⟨r101, hq102, h⟩ := bs h
  refine cal (c_writer_words hq102 hst (RC.mono hl99 hrc1_) hs100 (Glob.mono hl99 hG)) ?_
  rintro _ _ ⟨m103, A106, c107, cs108, rfl, hl104, hst, hrc109⟩
  refine nl (tn (qr (sg 3 [(9, vp ob0 0), (10, vp b3 0), (11, va (cGVariable a1.Variable (vs A1 a1.Variable.Where.Args c2)))] [(ad b3 0, vstr a1.Variable.Name), (ad b3 1, vi a1.Variable.Where.Op), (ad b3 2, vstr a1.Variable.Where.Field), (ad b3 3, vstr a1.Variable.Where.Key), (ad b3 4, vi a1.Variable.Where.Value.Kind), (ad b3 5, vstr a1.Variable.Where.Value.Text), (ad b3 6, vi a1.Variable.Where.Value.Int), (ad b3 7, vs A1 a1.Variable.Where.Args c2)] ⟨hst.c 2, hst.c 2, hst.c 2, hst.c 2, hst.c 2, hst.c 2, hst.c 2, hst.c 2, trivial⟩ ?_)))
  have e110 := hl99.trans hl104
  obtain ⟨r111, hq112, h⟩ := bs h
  refine cal (c_writer_variable hq112 hst hrc109 (RS.mono e110 hu2) (Glob.mono e110 hG)) ?_
  rintro _ _ ⟨m113, A116, c117, cs118, rfl, hl114, hst, hrc119⟩
  refine nl (tn (sq ?_))
  have e160 := e110.trans hl114
  obtain ⟨v155, hA156, hv157⟩ := (Glob.mono e160 hG).r
  obtain ⟨A158, c159, rfl⟩ := hv157.shape
  refine wc_draw false (fun x => Rd m113 (oo b3 106 (cGAbsence a1 (vs A1 a1.Variable.Where.Args c2)) :: []) x) (by kernel_rfl) ?_
  have hst := hst.drew
  have e166 := e110.trans hl114
  obtain ⟨v161, hA162, hv163⟩ := (Glob.mono e166 hG).r
  obtain ⟨A164, c165, rfl⟩ := hv163.shape
  refine wpG_seg [0, 1, 2, 6, 3, 7] [(13, vp ob0 0), (14, vs A164 namesR c165), (15, vp b3 8), (19, vp b3 9), (16, vi a1.Kind), (20, vstr a1.Other)] [(ad 0 0, vs A164 namesR c165), (ad b3 8, vi a1.Kind), (ad b3 9, vstr a1.Other)] #[true, true, true, true, false, false, true, true, false, false] (fuel := 4) (PQ.then_ (PQ.then_ PQ.body)) (by kernel_rfl) (by kernel_rfl) (hst.rd.with_ 2 rfl (hst.rd.none_)) (fun x hx => ⟨hx.e hA162 0, hx.c 0, hx.c 0, trivial⟩) ?_
  obtain ⟨x168, hx169, h⟩ := ix h
  obtain ⟨b170, o171, cs172, hR173, hA174, hI175⟩ := RS.ix (P := Tryz.prog) hv163 hx169
  obtain rfl : cs172 = [vstr x168] := hR173
  refine wpG_take_val (PQ.then_ (PQ.then_ PQ.body)) (i := 4) rfl (by kernel_rfl) (by kernel_rfl) (hst.rd.with_ 2 rfl (hst.rd.none_)) (fun x hx => hI175.r .i64) ?_
  refine wpG_seg [5] [(18, vstr x168)] [(ad b170 o171, vstr x168)] #[true, true, true, true, true, true, true, true, false, false] (fuel := 2) (PQ.then_ (PQ.then_ PQ.body)) (by kernel_rfl) (by kernel_rfl) (hst.rd.with_ 2 rfl (hst.rd.none_)) (fun x hx => ⟨hx.e hA174 0, trivial⟩) ?_
  refine wpG_exec 8 (by kernel_rfl) rfl (li 9 2 [vstr x168, vstr a1.Other] hst (fun b176 _ hst => ?_))
  refine nl (tn (⟨_, fun _ h => h, .inr (hst.rd.with_ 3 rfl (hst.rd.none_)), ?_⟩))
  refine wpG_exec 9 (by kernel_rfl) rfl ?_
  obtain ⟨m177, hl178, hst, hs179⟩ := hst.obj_slice (T := TStr) (xs := [x168, a1.Other]) (RC.k1 rfl (RC.k1 rfl (RC.nil _ _))) rfl
  have e184 := e166.trans hl178
  obtain ⟨r180, hq181, h⟩ := bs h
  refine cal (c_writer_words hq181 hst (RC.mono hl178 hrc119) hs179 (Glob.mono e184 hG)) ?_
  rintro _ _ ⟨m182, A186, c187, cs188, rfl, hl183, hst, hrc189⟩
  refine nl (tn (⟨_, fun _ h => h, .inl ⟨rfl, allListed_of _ (by kernel_rfl)⟩, ?_⟩))
  refine wpG_done (by kernel_rfl) (tn (wp_ret (tr (wr [] ?_))))
  have hst := pk28 hst
  have e190 := e184.trans hl183
  have h := Option.some.inj h; subst h
  exact ⟨_, rfl, m182, A186, c187, cs188, rfl, e190, hst, hrc189⟩
 refine wp_skip (tn (sq ?_))
 obtain ⟨v223, hA224, hv225⟩ := hG.r
 obtain ⟨A226, c227, rfl⟩ := hv225.shape
 refine wc_draw false (fun x => Rd m (oo b3 106 (cGAbsence a1 (vs A1 a1.Variable.Where.Args c2)) :: []) x) (by kernel_rfl) ?_
 have hst := hst.drew
 obtain ⟨v228, hA229, hv230⟩ := hG.r
 obtain ⟨A231, c232, rfl⟩ := hv230.shape
 refine wpG_seg [0, 1, 3, 4, 2, 5] [(23, vp ob0 0), (24, vp b3 9), (26, vs A231 namesR c232), (27, vp b3 8), (25, vstr a1.Other), (28, vi a1.Kind)] [(ad 0 0, vs A231 namesR c232), (ad b3 9, vstr a1.Other), (ad b3 8, vi a1.Kind)] #[true, true, true, true, true, true, false, false, false, false] (fuel := 4) (PQ.then_ PQ.body) (by kernel_rfl) (by kernel_rfl) (hst.rd.with_ 0 rfl (hst.rd.none_)) (fun x hx => ⟨hx.e hA229 0, hx.c 0, hx.c 0, trivial⟩) ?_
 obtain ⟨x234, hx235, h⟩ := ix h
 obtain ⟨b236, o237, cs238, hR239, hA240, hI241⟩ := RS.ix (P := Tryz.prog) hv230 hx235
 obtain rfl : cs238 = [vstr x234] := hR239
 refine wpG_take_val (PQ.then_ PQ.body) (i := 6) rfl (by kernel_rfl) (by kernel_rfl) (hst.rd.with_ 0 rfl (hst.rd.none_)) (fun x hx => hI241.r .i64) ?_
 refine wpG_seg [7] [(30, vstr x234)] [(ad b236 o237, vstr x234)] #[true, true, true, true, true, true, true, true, false, false] (fuel := 2) (PQ.then_ PQ.body) (by kernel_rfl) (by kernel_rfl) (hst.rd.with_ 0 rfl (hst.rd.none_)) (fun x hx => ⟨hx.e hA240 0, trivial⟩) ?_
 refine wpG_exec 8 (by kernel_rfl) rfl (li 9 3 [vstr a1.Other, vstr x234, vstr w_not] hst (fun b242 _ hst => ?_))
 refine nl (tn (⟨_, fun _ h => h, .inr (hst.rd.with_ 1 rfl (hst.rd.none_)), ?_⟩))
 refine wpG_exec 9 (by kernel_rfl) rfl ?_
 obtain ⟨m243, hl244, hst, hs245⟩ := hst.obj_slice (T := TStr) (xs := [a1.Other, x234, w_not]) (RC.k1 rfl (RC.k1 rfl (RC.k1 rfl (RC.nil _ _)))) rfl
 have hst := pk10 hst
 obtain ⟨r246, hq247, h⟩ := bs h
 refine cal (c_writer_words hq247 hst (RC.mono hl244 hrc1_) hs245 (Glob.mono hl244 hG)) ?_
 rintro _ _ ⟨m248, A251, c252, cs253, rfl, hl249, hst, hrc254⟩
 refine nl (tn (⟨_, fun _ h => h, .inl ⟨rfl, allListed_of _ (by kernel_rfl)⟩, ?_⟩))
 refine wpG_done (by kernel_rfl) (tn (rg (sg 3 [(33, vp ob0 0), (34, vp b3 0), (35, va (cGVariable a1.Variable (vs A1 a1.Variable.Where.Args c2)))] [(ad b3 0, vstr a1.Variable.Name), (ad b3 1, vi a1.Variable.Where.Op), (ad b3 2, vstr a1.Variable.Where.Field), (ad b3 3, vstr a1.Variable.Where.Key), (ad b3 4, vi a1.Variable.Where.Value.Kind), (ad b3 5, vstr a1.Variable.Where.Value.Text), (ad b3 6, vi a1.Variable.Where.Value.Int), (ad b3 7, vs A1 a1.Variable.Where.Args c2)] ⟨hst.c 2, hst.c 2, hst.c 2, hst.c 2, hst.c 2, hst.c 2, hst.c 2, hst.c 2, trivial⟩ ?_)))
 have e255 := hl244.trans hl249
 obtain ⟨r256, hq257, h⟩ := bs h
 refine cal (c_writer_variable hq257 hst hrc254 (RS.mono e255 hu2) (Glob.mono e255 hG)) ?_
 rintro _ _ ⟨m258, A261, c262, cs263, rfl, hl259, hst, hrc264⟩
 refine nl (we [] ?_)
 have hst := pk28 hst
 have e265 := e255.trans hl259
 have h := Option.some.inj h; subst h
 exact ⟨_, rfl, m258, A261, c262, cs263, rfl, e265, hst, hrc264⟩

def R_writer_query_c2 (g : World) (m : Mem) (F : List Asr) (ob1 : Nat) (ob2 : Nat) (ob3 : Nat) (r : GQuery × SWriter) (v : Value) (w' : World) : Prop := ∃ (m' : Mem) (v0 : Value) (v1 : Value) (v2 : Value) (v3 : Value) (v4 : Value) (v5 : Value) (A7 : Option Addr) (c7 : Nat) (cs7 : List Value), v = vt [] ∧ m.le m' ∧ St g m' (oo ob1 36 (cGQuery r.1 v0 v1 v2 v3 v4 v5) :: oo ob2 163 [vp ob3 0] :: oo ob3 123 (cSWriter r.2 (vs A7 r.2.out c7)) :: rw_ 5 1 A7 r.2.out c7 cs7 :: F) w' ∧ RS (TGVariable) m' v0 r.1.Variables ∧ RS (TGRelation) m' v1 r.1.Relations ∧ RS (TGAbsence) m' v2 r.1.Absences ∧ RS (TGColumn) m' v3 r.1.Group ∧ RS (TGAggregate) m' v4 r.1.Compute ∧ RS (TGOrderKey) m' v5 r.1.Order ∧ RC (TInt .u8) m' r.2.out cs7
theorem c_writer_query_c2 {k : Nat} {a0 : Int} {a1 : GQuery} {a3 : SWriter} {r : GQuery × SWriter} {g : World} {m : Mem} {F : List Asr} {w : World} {ob1 : Nat} {ob2 : Nat} {ob3 : Nat} {u0 : Value} {u1 : Value} {u2 : Value} {u3 : Value} {u4 : Value} {u5 : Value} {A7_ : Option Addr} {c7_ : Nat} {cs7_ : List Value} (h : writer_query_c2 k a0 a1 a3 = some r) (hst : St g m (oo ob1 36 (cGQuery a1 u0 u1 u2 u3 u4 u5) :: oo ob2 163 [vp ob3 0] :: oo ob3 123 (cSWriter a3 (vs A7_ a3.out c7_)) :: rw_ 5 1 A7_ a3.out c7_ cs7_ :: F) w) (hu0 : RS (TGVariable) m u0 a1.Variables) (hu1 : RS (TGRelation) m u1 a1.Relations) (hu2 : RS (TGAbsence) m u2 a1.Absences) (hu3 : RS (TGColumn) m u3 a1.Group) (hu4 : RS (TGAggregate) m u4 a1.Compute) (hu5 : RS (TGOrderKey) m u5 a1.Order) (hrc7_ : RC (TInt .u8) m a3.out cs7_) (hG : Glob m) :
    Calls Tryz.prog 128 ⟨[vi a0, vp ob1 0, vp ob2 0]⟩ w (OPost (R_writer_query_c2 g m F ob1 ob2 ob3) r) := by
 refine calls_enter Tryz.func128 rfl rfl ?_
 unfold writer_query_c2 at h
 obtain ⟨A1, c2, rfl⟩ := hu0.shape
 obtain ⟨A3, c4, rfl⟩ := hu1.shape
 obtain ⟨A5, c6, rfl⟩ := hu2.shape
 obtain ⟨A7, c8, rfl⟩ := hu3.shape
 obtain ⟨A9, c10, rfl⟩ := hu4.shape
 obtain ⟨A11, c12, rfl⟩ := hu5.shape
 refine sq (qr (sg 5 [(5, vi a0), (6, vp ob1 1), (7, vs A3 a1.Relations c4), (8, vi ((a1.Relations).length : Int)), (9, vb (decide (a0 ≥ ((a1.Relations).length : Int))))] [(ad ob1 1, vs A3 a1.Relations c4)] ⟨hst.c 0, trivial⟩ (nl (tn (cn h (fun h => ?_) (fun h => ?_))))))
 ·refine sq (wc_draw false (fun x => Rd m (oo ob2 163 [vp ob3 0] :: oo ob1 36 (cGQuery a1 (vs A1 a1.Variables c2) (vs A3 a1.Relations c4) (vs A5 a1.Absences c6) (vs A7 a1.Group c8) (vs A9 a1.Compute c10) (vs A11 a1.Order c12)) :: []) x) (by kernel_rfl) ?_)
  have hst := hst.drew
  refine wpG_seg [0, 1, 3, 4, 2, 5, 6, 7] [(10, vp ob3 0), (11, vp ob1 2), (13, vi a0), (14, vp ob1 1), (12, vs A5 a1.Absences c6), (15, vs A3 a1.Relations c4), (16, vi ((a1.Relations).length : Int)), (17, vi (w64 (a0 - ((a1.Relations).length : Int))))] [(ad ob2 0, vp ob3 0), (ad ob1 2, vs A5 a1.Absences c6), (ad ob1 1, vs A3 a1.Relations c4)] #[true, true, true, true, true, true, true, true, false, false, false] (fuel := 3) (PQ.then_ (PQ.then_ PQ.body)) (by kernel_rfl) (by kernel_rfl) (hst.rd.with_ 1 rfl (hst.rd.with_ 0 rfl (hst.rd.none_))) (fun x hx => ⟨hx.c 0, hx.c 1, hx.c 1, trivial⟩) ?_
  obtain ⟨x77, hx78, h⟩ := ix h
  obtain ⟨b79, o80, cs81, hR82, hA83, hI84⟩ := RS.ix (P := Tryz.prog) hu2 hx78
  obtain ⟨v85, rfl, hv85⟩ := TGAbsence.open_ hR82
  obtain ⟨A86, c87, rfl⟩ := hv85.shape
  refine wpG_take_val (PQ.then_ (PQ.then_ PQ.body)) (i := 8) rfl (by kernel_rfl) (by kernel_rfl) (hst.rd.with_ 1 rfl (hst.rd.with_ 0 rfl (hst.rd.none_))) (fun x hx => hI84.r .i64) ?_
  refine wpG_seg [9] [(19, va (cGAbsence x77 (vs A86 x77.Variable.Where.Args c87)))] [(ad b79 o80, vstr x77.Variable.Name), (ad b79 (o80 + 1), vi x77.Variable.Where.Op), (ad b79 (o80 + 2), vstr x77.Variable.Where.Field), (ad b79 (o80 + 3), vstr x77.Variable.Where.Key), (ad b79 (o80 + 4), vi x77.Variable.Where.Value.Kind), (ad b79 (o80 + 5), vstr x77.Variable.Where.Value.Text), (ad b79 (o80 + 6), vi x77.Variable.Where.Value.Int), (ad b79 (o80 + 7), vs A86 x77.Variable.Where.Args c87), (ad b79 (o80 + 8), vi x77.Kind), (ad b79 (o80 + 9), vstr x77.Other), (ad b79 (o80 + 10), vb x77.First)] #[true, true, true, true, true, true, true, true, true, true, false] (fuel := 1) (PQ.then_ (PQ.then_ PQ.body)) (by kernel_rfl) (by kernel_rfl) (hst.rd.with_ 1 rfl (hst.rd.with_ 0 rfl (hst.rd.none_))) (fun x hx => ⟨hx.e hA83 0, hx.e hA83 1, hx.e hA83 2, hx.e hA83 3, hx.e hA83 4, hx.e hA83 5, hx.e hA83 6, hx.e hA83 7, hx.e hA83 8, hx.e hA83 9, hx.e hA83 10, trivial⟩) ?_
  refine wpG_exec 10 (by kernel_rfl) rfl ?_
  have hst := pk25 hst
  obtain ⟨r88, hq89, h⟩ := bs h
  refine cal (c_writer_absence hq89 hst hrc7_ hv85 hG) ?_
  rintro _ _ ⟨m90, A93, c94, cs95, rfl, hl91, hst, hrc96⟩
  refine nl (tn (⟨_, fun _ h => h, .inl ⟨rfl, allListed_of _ (by kernel_rfl)⟩, ?_⟩))
  refine wpG_done (by kernel_rfl) (tn (wp_ret (tr (wr [] ?_))))
  have hst := pk25 hst
  cases h
  exact ⟨_, rfl, m90, (vs A1 a1.Variables c2), (vs A3 a1.Relations c4), (vs A5 a1.Absences c6), (vs A7 a1.Group c8), (vs A9 a1.Compute c10), (vs A11 a1.Order c12), A93, c94, cs95, rfl, hl91, hst, (RS.mono hl91 hu0), (RS.mono hl91 hu1), (RS.mono hl91 hu2), (RS.mono hl91 hu3), (RS.mono hl91 hu4), (RS.mono hl91 hu5), hrc96⟩
 refine wp_skip (tn (qr (sg 3 [(21, vp ob1 1), (22, vs A3 a1.Relations c4), (23, vi a0)] [(ad ob1 1, vs A3 a1.Relations c4)] ⟨hst.c 0, trivial⟩ ?_)))
 obtain ⟨x98, hx99, h⟩ := ix h
 obtain ⟨b100, o101, cs102, hR103, hA104, hI105⟩ := RS.ix (P := Tryz.prog) hu1 hx99
 obtain rfl := TGRelation.open_ hR103
 refine vl (hI105.r .i64) (sg 1 [(25, va (cGRelation x98))] [(ad b100 o101, vi x98.Kind), (ad b100 (o101 + 1), vstr x98.A), (ad b100 (o101 + 2), vstr x98.B)] ⟨hst.e hA104 0, hst.e hA104 1, hst.e hA104 2, trivial⟩ (al [vi 0, vstr w_0, vstr w_0] hst (fun b106 _ hst => ?_)))
 refine so0 0 (cGRelation x98) (cGRelation x98) hst (fun _ hst => ?_)
 refine nl (tn ?_)
 obtain ⟨v139, hA140, hv141⟩ := hG.r
 obtain ⟨A142, c143, rfl⟩ := hv141.shape
 refine wc_draw false (fun x => Rd m (oo ob2 163 [vp ob3 0] :: oo b106 104 (cGRelation x98) :: []) x) (by kernel_rfl) ?_
 have hst := hst.drew
 obtain ⟨v144, hA145, hv146⟩ := hG.r
 obtain ⟨A147, c148, rfl⟩ := hv146.shape
 refine wpG_seg [0, 1, 3, 4, 8, 2, 5, 9] [(26, vp ob3 0), (27, vp b106 1), (29, vs A147 namesR c148), (30, vp b106 0), (34, vp b106 2), (28, vstr x98.A), (31, vi x98.Kind), (35, vstr x98.B)] [(ad ob2 0, vp ob3 0), (ad 0 0, vs A147 namesR c148), (ad b106 1, vstr x98.A), (ad b106 0, vi x98.Kind), (ad b106 2, vstr x98.B)] #[true, true, true, true, true, true, false, false, true, true, false, false] (fuel := 4) PQ.body (by kernel_rfl) (by kernel_rfl) (hst.rd.with_ 2 rfl (hst.rd.with_ 0 rfl (hst.rd.none_))) (fun x hx => ⟨hx.c 0, hx.e hA145 0, hx.c 1, hx.c 1, hx.c 1, trivial⟩) ?_
 obtain ⟨x150, hx151, h⟩ := ix h
 obtain ⟨b152, o153, cs154, hR155, hA156, hI157⟩ := RS.ix (P := Tryz.prog) hv146 hx151
 obtain rfl : cs154 = [vstr x150] := hR155
 refine wpG_take_val PQ.body (i := 6) rfl (by kernel_rfl) (by kernel_rfl) (hst.rd.with_ 2 rfl (hst.rd.with_ 0 rfl (hst.rd.none_))) (fun x hx => hI157.r .i64) ?_
 refine wpG_seg [7] [(33, vstr x150)] [(ad b152 o153, vstr x150)] #[true, true, true, true, true, true, true, true, true, true, false, false] (fuel := 2) PQ.body (by kernel_rfl) (by kernel_rfl) (hst.rd.with_ 2 rfl (hst.rd.with_ 0 rfl (hst.rd.none_))) (fun x hx => ⟨hx.e hA156 0, trivial⟩) ?_
 refine wpG_exec 10 (by kernel_rfl) rfl (li 9 3 [vstr x98.A, vstr x150, vstr x98.B] hst (fun b158 _ hst => ?_))
 refine nl (tn (⟨_, fun _ h => h, .inr (hst.rd.with_ 3 rfl (hst.rd.with_ 1 rfl (hst.rd.none_))), ?_⟩))
 refine wpG_exec 11 (by kernel_rfl) rfl ?_
 obtain ⟨m159, hl160, hst, hs161⟩ := hst.obj_slice (T := TStr) (xs := [x98.A, x150, x98.B]) (RC.k1 rfl (RC.k1 rfl (RC.k1 rfl (RC.nil _ _)))) rfl
 have hst := pk29 hst
 obtain ⟨r162, hq163, h⟩ := bs h
 refine cal (c_writer_words hq163 hst (RC.mono hl160 hrc7_) hs161 (Glob.mono hl160 hG)) ?_
 rintro _ _ ⟨m164, A167, c168, cs169, rfl, hl165, hst, hrc170⟩
 refine nl (tn (⟨_, fun _ h => h, .inl ⟨rfl, allListed_of _ (by kernel_rfl)⟩, ?_⟩))
 refine wpG_done (by kernel_rfl) (we [] ?_)
 have e171 := hl160.trans hl165
 have hst := pk32 hst
 cases h
 exact ⟨_, rfl, m164, (vs A1 a1.Variables c2), (vs A3 a1.Relations c4), (vs A5 a1.Absences c6), (vs A7 a1.Group c8), (vs A9 a1.Compute c10), (vs A11 a1.Order c12), A167, c168, cs169, rfl, e171, hst, (RS.mono e171 hu0), (RS.mono e171 hu1), (RS.mono e171 hu2), (RS.mono e171 hu3), (RS.mono e171 hu4), (RS.mono e171 hu5), hrc170⟩

def R_writer_list_i1 (g : World) (m : Mem) (F : List Asr) (ob0 : Nat) (ob2 : Nat) (ob3 : Nat) (r : SWriter × GQuery) (v : Value) (w' : World) : Prop := ∃ (m' : Mem) (A1 : Option Addr) (c1 : Nat) (cs1 : List Value) (v2 : Value) (v3 : Value) (v4 : Value) (v5 : Value) (v6 : Value) (v7 : Value), v = vt [] ∧ m.le m' ∧ St g m' (oo ob0 123 (cSWriter r.1 (vs A1 r.1.out c1)) :: rw_ 5 1 A1 r.1.out c1 cs1 :: oo ob2 36 (cGQuery r.2 v2 v3 v4 v5 v6 v7) :: oo ob3 163 [vp ob0 0] :: F) w' ∧ RC (TInt .u8) m' r.1.out cs1 ∧ RS (TGVariable) m' v2 r.2.Variables ∧ RS (TGRelation) m' v3 r.2.Relations ∧ RS (TGAbsence) m' v4 r.2.Absences ∧ RS (TGColumn) m' v5 r.2.Group ∧ RS (TGAggregate) m' v6 r.2.Compute ∧ RS (TGOrderKey) m' v7 r.2.Order
theorem c_writer_list_i1 {k : Nat} {a0 : SWriter} {a1 : Int} {a2 : GQuery} {a4 : List Str} {r : SWriter × GQuery} {g : World} {m : Mem} {F : List Asr} {w : World} {ob0 : Nat} {ob2 : Nat} {ob3 : Nat} {A1_ : Option Addr} {c1_ : Nat} {cs1_ : List Value} {u2 : Value} {u3 : Value} {u4 : Value} {u5 : Value} {u6 : Value} {u7 : Value} {u8 : Value} (h : writer_list_i1 k a0 a1 a2 a4 = some r) (hst : St g m (oo ob0 123 (cSWriter a0 (vs A1_ a0.out c1_)) :: rw_ 5 1 A1_ a0.out c1_ cs1_ :: oo ob2 36 (cGQuery a2 u2 u3 u4 u5 u6 u7) :: oo ob3 163 [vp ob0 0] :: F) w) (hrc1_ : RC (TInt .u8) m a0.out cs1_) (hu2 : RS (TGVariable) m u2 a2.Variables) (hu3 : RS (TGRelation) m u3 a2.Relations) (hu4 : RS (TGAbsence) m u4 a2.Absences) (hu5 : RS (TGColumn) m u5 a2.Group) (hu6 : RS (TGAggregate) m u6 a2.Compute) (hu7 : RS (TGOrderKey) m u7 a2.Order) (hu8 : RS (TStr) m u8 a4) (hG : Glob m) :
    Calls Tryz.prog 125 ⟨[vp ob0 0, vi a1, vf 128 [] [vp ob2 0, vp ob3 0], u8]⟩ w (OPost (R_writer_list_i1 g m F ob0 ob2 ob3) r) := by
 refine calls_enter Tryz.func125 rfl rfl ?_
 unfold writer_list_i1 at h
 obtain ⟨A1, c2, rfl⟩ := hu8.shape
 obtain ⟨A3, c4, rfl⟩ := hu2.shape
 obtain ⟨A5, c6, rfl⟩ := hu3.shape
 obtain ⟨A7, c8, rfl⟩ := hu4.shape
 obtain ⟨A9, c10, rfl⟩ := hu5.shape
 obtain ⟨A11, c12, rfl⟩ := hu6.shape
 obtain ⟨A13, c14, rfl⟩ := hu7.shape
 refine qr (s0 2 [(9, vi a1), (10, vi 0)] (nl (tn (bk (wc_loop (fun kk a w => ∃ (f0 : Fr) (m250 : Mem) (x112 : List Int) (A113 : Option Addr) (c114 : Nat) (cs115 : List Value) (x117 : Int) (x118 : Int) (x119 : Str) (x120 : Int) (x121 : List GVariable) (v122 : Value) (x123 : List GRelation) (v124 : Value) (x125 : List GAbsence) (v126 : Value) (x127 : Int) (x128 : Int) (x129 : List GColumn) (v130 : Value) (x131 : List GAggregate) (v132 : Value) (x133 : List GOrderKey) (v134 : Value) (x135 : Int) (x136 : Int), a = act Tryz.f125.ntmps (upds f0 [(0, vp ob0 0), (2, vf 128 [] [vp ob2 0, vp ob3 0]), (3, vs A1 a4 c2), (9, vi a1), (10, vi x136)]) ∧ kk ≤ k ∧ writer_list_i1_l1 kk a1 a4 x112 x117 x118 x119 x120 x121 x123 x125 x127 x128 x129 x131 x133 x135 x136 = some r ∧ m.le m250 ∧ St g m250 (oo ob0 123 [vs A113 x112 c114, vi x117, vi x118, vstr x119, vi x120] :: rw_ 5 1 A113 x112 c114 cs115 :: oo ob2 36 [v122, v124, v126, vi x127, vi x128, v130, v132, v134, vi x135] :: oo ob3 163 [vp ob0 0] :: F) w ∧ RC (TInt .u8) m250 x112 cs115 ∧ RS (TGVariable) m250 v122 x121 ∧ RS (TGRelation) m250 v124 x123 ∧ RS (TGAbsence) m250 v126 x125 ∧ RS (TGColumn) m250 v130 x129 ∧ RS (TGAggregate) m250 v132 x131 ∧ RS (TGOrderKey) m250 v134 x133) k ?_ ?_)))))
 ·exact ⟨_, m, (a0.out), A1_, c1_, cs1_, (a0.last.kind), (a0.last.at_), (a0.last.s_), (a0.last.n_), (a2.Variables), (vs A3 a2.Variables c4), (a2.Relations), (vs A5 a2.Relations c6), (a2.Absences), (vs A7 a2.Absences c8), (a2.Slots.From), (a2.Slots.To), (a2.Group), (vs A9 a2.Group c10), (a2.Compute), (vs A11 a2.Compute c12), (a2.Order), (vs A13 a2.Order c14), (a2.Limit), (0), (act_upds ⟨by kernel_rfl, by kernel_rfl, by kernel_rfl, by kernel_rfl, by kernel_rfl, trivial⟩), (Nat.le_refl _), h, (Mem.le.refl _), hst, hrc1_, hu2, hu3, hu4, hu5, hu6, hu7⟩
 rintro k248 ih249 _ _ ⟨f0, m250, x112, A113, c114, cs115, x117, x118, x119, x120, x121, v122, x123, v124, x125, v126, x127, x128, x129, v130, x131, v132, x133, v134, x135, x136, rfl, hk247, h, hl246, hst, hrc116, hv122, hv124, hv126, hv130, hv132, hv134⟩
 obtain _ | k252 := k248
 ·simp [writer_list_i1_l1] at h
 rw [writer_list_i1_l1] at h
 obtain ⟨A253, c254, rfl⟩ := hv122.shape
 obtain ⟨A255, c256, rfl⟩ := hv124.shape
 obtain ⟨A257, c258, rfl⟩ := hv126.shape
 obtain ⟨A259, c260, rfl⟩ := hv130.shape
 obtain ⟨A261, c262, rfl⟩ := hv132.shape
 obtain ⟨A263, c264, rfl⟩ := hv134.shape
 refine qr (s0 1 [(11, vb (decide (x136 < a1)))] (nl (tn (sq (cn h (fun h => ?_) (fun h => ?_))))))
 ·refine wp_skip (tn (sq (bk (qr (s0 2 [(12, vi x136), (8, vi x136)] (nl (tn (sq (qr (s0 2 [(13, vi x136), (14, vb (x136 == 0))] (nl (tn (cn h (fun h => ?_) (fun h => ?_))))))))))))))
  ·refine rg (s0 2 [(15, vp ob0 0), (16, vs A1 a4 c2)] ?_)
   obtain ⟨r265, hq266, h⟩ := bs h
   refine cal (c_writer_words hq266 hst hrc116 (RS.mono hl246 hu8) (Glob.mono hl246 hG)) ?_
   rintro _ _ ⟨m267, A270, c271, cs272, rfl, hl268, hst, hrc273⟩
   refine nl (tn (rg (s0 2 [(20, vf 128 [] [vp ob2 0, vp ob3 0]), (21, vi x136)] ?_)))
   have hst := pk25 hst
   have e278 := hl246.trans hl268
   obtain ⟨r274, hq275, h⟩ := bs h
   refine cal (c_writer_query_c2 hq275 hst (RS.mono hl268 hv122) (RS.mono hl268 hv124) (RS.mono hl268 hv126) (RS.mono hl268 hv130) (RS.mono hl268 hv132) (RS.mono hl268 hv134) hrc273 (Glob.mono e278 hG)) ?_
   rintro _ _ ⟨m276, v279, v280, v281, v282, v283, v284, A286, c287, cs288, rfl, hl277, hst, hv279, hv280, hv281, hv282, hv283, hv284, hrc289⟩
   obtain ⟨A290, c291, rfl⟩ := hv279.shape
   obtain ⟨A292, c293, rfl⟩ := hv280.shape
   obtain ⟨A294, c295, rfl⟩ := hv281.shape
   obtain ⟨A296, c297, rfl⟩ := hv282.shape
   obtain ⟨A298, c299, rfl⟩ := hv283.shape
   obtain ⟨A300, c301, rfl⟩ := hv284.shape
   refine nl (bn (tn (rg (s0 2 [(23, vi (w64 (x136 + 1))), (10, vi (w64 (x136 + 1)))] (nl (tn ?_))))))
   have e302 := e278.trans hl277
   have hst := pk25 hst
   exact ih249 k252 (by omega) _ _ ⟨_, m276, (r274.2.out), A286, c287, cs288, (r274.2.last.kind), (r274.2.last.at_), (r274.2.last.s_), (r274.2.last.n_), (r274.1.Variables), (vs A290 r274.1.Variables c291), (r274.1.Relations), (vs A292 r274.1.Relations c293), (r274.1.Absences), (vs A294 r274.1.Absences c295), (r274.1.Slots.From), (r274.1.Slots.To), (r274.1.Group), (vs A296 r274.1.Group c297), (r274.1.Compute), (vs A298 r274.1.Compute c299), (r274.1.Order), (vs A300 r274.1.Order c301), (r274.1.Limit), (w64 (x136 + 1)), (act_upds ⟨by kernel_rfl, by kernel_rfl, by kernel_rfl, by kernel_rfl, by kernel_rfl, trivial⟩), (by omega), h, e302, hst, hrc289, hv279, hv280, hv281, hv282, hv283, hv284⟩
  refine rg (s0 1 [(18, vp ob0 0)] ?_)
  obtain ⟨r303, hq304, h⟩ := bs h
  refine cal (c_writer_sign hq304 hst hrc116 (Glob.mono hl246 hG)) ?_
  rintro _ _ ⟨m305, A308, c309, cs310, rfl, hl306, hst, hrc311⟩
  refine nl (tn (rg (s0 2 [(20, vf 128 [] [vp ob2 0, vp ob3 0]), (21, vi x136)] ?_)))
  have hst := pk25 hst
  have e316 := hl246.trans hl306
  obtain ⟨r312, hq313, h⟩ := bs h
  refine cal (c_writer_query_c2 hq313 hst (RS.mono hl306 hv122) (RS.mono hl306 hv124) (RS.mono hl306 hv126) (RS.mono hl306 hv130) (RS.mono hl306 hv132) (RS.mono hl306 hv134) hrc311 (Glob.mono e316 hG)) ?_
  rintro _ _ ⟨m314, v317, v318, v319, v320, v321, v322, A324, c325, cs326, rfl, hl315, hst, hv317, hv318, hv319, hv320, hv321, hv322, hrc327⟩
  obtain ⟨A328, c329, rfl⟩ := hv317.shape
  obtain ⟨A330, c331, rfl⟩ := hv318.shape
  obtain ⟨A332, c333, rfl⟩ := hv319.shape
  obtain ⟨A334, c335, rfl⟩ := hv320.shape
  obtain ⟨A336, c337, rfl⟩ := hv321.shape
  obtain ⟨A338, c339, rfl⟩ := hv322.shape
  refine nl (bn (tn (rg (s0 2 [(23, vi (w64 (x136 + 1))), (10, vi (w64 (x136 + 1)))] (nl (tn ?_))))))
  have e340 := e316.trans hl315
  have hst := pk25 hst
  exact ih249 k252 (by omega) _ _ ⟨_, m314, (r312.2.out), A324, c325, cs326, (r312.2.last.kind), (r312.2.last.at_), (r312.2.last.s_), (r312.2.last.n_), (r312.1.Variables), (vs A328 r312.1.Variables c329), (r312.1.Relations), (vs A330 r312.1.Relations c331), (r312.1.Absences), (vs A332 r312.1.Absences c333), (r312.1.Slots.From), (r312.1.Slots.To), (r312.1.Group), (vs A334 r312.1.Group c335), (r312.1.Compute), (vs A336 r312.1.Compute c337), (r312.1.Order), (vs A338 r312.1.Order c339), (r312.1.Limit), (w64 (x136 + 1)), (act_upds ⟨by kernel_rfl, by kernel_rfl, by kernel_rfl, by kernel_rfl, by kernel_rfl, trivial⟩), (by omega), h, e340, hst, hrc327, hv317, hv318, hv319, hv320, hv321, hv322⟩
 refine wp_exit (tx (tx (bx (we [] ?_))))
 cases h
 exact ⟨_, rfl, m250, A113, c114, cs115, (vs A253 x121 c254), (vs A255 x123 c256), (vs A257 x125 c258), (vs A259 x129 c260), (vs A261 x131 c262), (vs A263 x133 c264), rfl, hl246, hst, hrc116, hv122, hv124, hv126, hv130, hv132, hv134⟩

def R_writer_column (g : World) (m : Mem) (F : List Asr) (ob0 : Nat) (r : SWriter) (v : Value) (w' : World) : Prop := ∃ (m' : Mem) (A1 : Option Addr) (c1 : Nat) (cs1 : List Value), v = vt [] ∧ m.le m' ∧ St g m' (oo ob0 123 (cSWriter r (vs A1 r.out c1)) :: rw_ 5 1 A1 r.out c1 cs1 :: F) w' ∧ RC (TInt .u8) m' r.out cs1
theorem c_writer_column {k : Nat} {a0 : SWriter} {a1 : GColumn} {r : SWriter} {g : World} {m : Mem} {F : List Asr} {w : World} {ob0 : Nat} {A1_ : Option Addr} {c1_ : Nat} {cs1_ : List Value} (h : writer_column k a0 a1 = some r) (hst : St g m (oo ob0 123 (cSWriter a0 (vs A1_ a0.out c1_)) :: rw_ 5 1 A1_ a0.out c1_ cs1_ :: F) w) (hrc1_ : RC (TInt .u8) m a0.out cs1_) (hG : Glob m) :
    Calls Tryz.prog 134 ⟨[vp ob0 0, va (cGColumn a1)]⟩ w (OPost (R_writer_column g m F ob0) r) := by
 refine calls_enter Tryz.func134 rfl rfl ?_
 unfold writer_column at h
 refine qr (bo_ (cGColumn a1) hst (fun b1 _ hst => ?_))
 refine nl (tn (qr (sg 3 [(4, vp ob0 0), (5, vp b1 0), (6, vstr a1.Var)] [(ad b1 0, vstr a1.Var)] ⟨hst.c 0, trivial⟩ (li 9 1 [vstr a1.Var] hst (fun b2 _ hst => ?_)))))
 obtain ⟨m3, hl4, hst, hs5⟩ := hst.obj_slice (T := TStr) (xs := [a1.Var]) (RC.k1 rfl (RC.nil _ _)) rfl
 have hst := pk10 hst
 obtain ⟨r6, hq7, h⟩ := bs h
 refine cal (c_writer_words hq7 hst (RC.mono hl4 hrc1_) hs5 (Glob.mono hl4 hG)) ?_
 rintro _ _ ⟨m8, A11, c12, cs13, rfl, hl9, hst, hrc14⟩
 refine nl (tn (qr (s0 1 [(9, vp ob0 0)] ?_)))
 have e19 := hl4.trans hl9
 obtain ⟨r15, hq16, h⟩ := bs h
 refine cal (c_writer_sign hq16 hst hrc14 (Glob.mono e19 hG)) ?_
 rintro _ _ ⟨m17, A21, c22, cs23, rfl, hl18, hst, hrc24⟩
 refine nl (tn (rg (sg 5 [(11, vp ob0 0), (12, vp b1 1), (13, vstr a1.Field), (14, vp b1 2), (15, vstr a1.Key)] [(ad b1 1, vstr a1.Field), (ad b1 2, vstr a1.Key)] ⟨hst.c 2, hst.c 2, trivial⟩ ?_)))
 have e29 := e19.trans hl18
 obtain ⟨r25, hq26, h⟩ := bs h
 refine cal (c_writer_path hq26 hst hrc24 (Glob.mono e29 hG)) ?_
 rintro _ _ ⟨m27, A31, c32, cs33, rfl, hl28, hst, hrc34⟩
 refine nl (we [] ?_)
 have hst := pk28 hst
 have e35 := e29.trans hl28
 have h := Option.some.inj h; subst h
 exact ⟨_, rfl, m27, A31, c32, cs33, rfl, e35, hst, hrc34⟩

def R_writer_query_c3 (g : World) (m : Mem) (F : List Asr) (ob1 : Nat) (ob2 : Nat) (ob3 : Nat) (r : SWriter × GQuery) (v : Value) (w' : World) : Prop := ∃ (m' : Mem) (A1 : Option Addr) (c1 : Nat) (cs1 : List Value) (v2 : Value) (v3 : Value) (v4 : Value) (v5 : Value) (v6 : Value) (v7 : Value), v = vt [] ∧ m.le m' ∧ St g m' (oo ob1 163 [vp ob2 0] :: oo ob2 123 (cSWriter r.1 (vs A1 r.1.out c1)) :: rw_ 5 1 A1 r.1.out c1 cs1 :: oo ob3 36 (cGQuery r.2 v2 v3 v4 v5 v6 v7) :: F) w' ∧ RC (TInt .u8) m' r.1.out cs1 ∧ RS (TGVariable) m' v2 r.2.Variables ∧ RS (TGRelation) m' v3 r.2.Relations ∧ RS (TGAbsence) m' v4 r.2.Absences ∧ RS (TGColumn) m' v5 r.2.Group ∧ RS (TGAggregate) m' v6 r.2.Compute ∧ RS (TGOrderKey) m' v7 r.2.Order
theorem c_writer_query_c3 {k : Nat} {a0 : Int} {a2 : SWriter} {a3 : GQuery} {r : SWriter × GQuery} {g : World} {m : Mem} {F : List Asr} {w : World} {ob1 : Nat} {ob2 : Nat} {ob3 : Nat} {A1_ : Option Addr} {c1_ : Nat} {cs1_ : List Value} {u2 : Value} {u3 : Value} {u4 : Value} {u5 : Value} {u6 : Value} {u7 : Value} (h : writer_query_c3 k a0 a2 a3 = some r) (hst : St g m (oo ob1 163 [vp ob2 0] :: oo ob2 123 (cSWriter a2 (vs A1_ a2.out c1_)) :: rw_ 5 1 A1_ a2.out c1_ cs1_ :: oo ob3 36 (cGQuery a3 u2 u3 u4 u5 u6 u7) :: F) w) (hrc1_ : RC (TInt .u8) m a2.out cs1_) (hu2 : RS (TGVariable) m u2 a3.Variables) (hu3 : RS (TGRelation) m u3 a3.Relations) (hu4 : RS (TGAbsence) m u4 a3.Absences) (hu5 : RS (TGColumn) m u5 a3.Group) (hu6 : RS (TGAggregate) m u6 a3.Compute) (hu7 : RS (TGOrderKey) m u7 a3.Order) (hG : Glob m) :
    Calls Tryz.prog 133 ⟨[vi a0, vp ob1 0, vp ob3 0]⟩ w (OPost (R_writer_query_c3 g m F ob1 ob2 ob3) r) := by
 refine calls_enter Tryz.func133 rfl rfl ?_
 unfold writer_query_c3 at h
 obtain ⟨A1, c2, rfl⟩ := hu2.shape
 obtain ⟨A3, c4, rfl⟩ := hu3.shape
 obtain ⟨A5, c6, rfl⟩ := hu4.shape
 obtain ⟨A7, c8, rfl⟩ := hu5.shape
 obtain ⟨A9, c10, rfl⟩ := hu6.shape
 obtain ⟨A11, c12, rfl⟩ := hu7.shape
 refine wc_draw false (fun x => Rd m (oo ob1 163 [vp ob2 0] :: oo ob3 36 (cGQuery a3 (vs A1 a3.Variables c2) (vs A3 a3.Relations c4) (vs A5 a3.Absences c6) (vs A7 a3.Group c8) (vs A9 a3.Compute c10) (vs A11 a3.Order c12)) :: []) x) (by kernel_rfl) ?_
 have hst := hst.drew
 refine wpG_seg [0, 1, 3, 2] [(4, vp ob2 0), (5, vp ob3 5), (7, vi a0), (6, vs A7 a3.Group c8)] [(ad ob1 0, vp ob2 0), (ad ob3 5, vs A7 a3.Group c8)] #[true, true, true, true, false, false, false] (fuel := 3) PQ.body (by kernel_rfl) (by kernel_rfl) (hst.rd.with_ 0 rfl (hst.rd.with_ 3 rfl (hst.rd.none_))) (fun x hx => ⟨hx.c 0, hx.c 1, trivial⟩) ?_
 obtain ⟨x32, hx33, h⟩ := ix h
 obtain ⟨b34, o35, cs36, hR37, hA38, hI39⟩ := RS.ix (P := Tryz.prog) hu5 hx33
 obtain rfl := TGColumn.open_ hR37
 refine wpG_take_val PQ.body (i := 4) rfl (by kernel_rfl) (by kernel_rfl) (hst.rd.with_ 0 rfl (hst.rd.with_ 3 rfl (hst.rd.none_))) (fun x hx => hI39.r .i64) ?_
 refine wpG_seg [5] [(9, va (cGColumn x32))] [(ad b34 o35, vstr x32.Var), (ad b34 (o35 + 1), vstr x32.Field), (ad b34 (o35 + 2), vstr x32.Key)] #[true, true, true, true, true, true, false] (fuel := 1) PQ.body (by kernel_rfl) (by kernel_rfl) (hst.rd.with_ 0 rfl (hst.rd.with_ 3 rfl (hst.rd.none_))) (fun x hx => ⟨hx.e hA38 0, hx.e hA38 1, hx.e hA38 2, trivial⟩) ?_
 refine wpG_exec 6 (by kernel_rfl) rfl ?_
 have hst := pk10 hst
 obtain ⟨r40, hq41, h⟩ := bs h
 refine cal (c_writer_column hq41 hst hrc1_ hG) ?_
 rintro _ _ ⟨m42, A45, c46, cs47, rfl, hl43, hst, hrc48⟩
 refine nl (tn (⟨_, fun _ h => h, .inl ⟨rfl, allListed_of _ (by kernel_rfl)⟩, ?_⟩))
 refine wpG_done (by kernel_rfl) (we [] ?_)
 have hst := pk5 hst
 cases h
 exact ⟨_, rfl, m42, A45, c46, cs47, (vs A1 a3.Variables c2), (vs A3 a3.Relations c4), (vs A5 a3.Absences c6), (vs A7 a3.Group c8), (vs A9 a3.Compute c10), (vs A11 a3.Order c12), rfl, hl43, hst, hrc48, (RS.mono hl43 hu2), (RS.mono hl43 hu3), (RS.mono hl43 hu4), (RS.mono hl43 hu5), (RS.mono hl43 hu6), (RS.mono hl43 hu7)⟩

def R_writer_list_i2 (g : World) (m : Mem) (F : List Asr) (ob0 : Nat) (ob2 : Nat) (ob3 : Nat) (r : SWriter × GQuery) (v : Value) (w' : World) : Prop := ∃ (m' : Mem) (A1 : Option Addr) (c1 : Nat) (cs1 : List Value) (v2 : Value) (v3 : Value) (v4 : Value) (v5 : Value) (v6 : Value) (v7 : Value), v = vt [] ∧ m.le m' ∧ St g m' (oo ob0 123 (cSWriter r.1 (vs A1 r.1.out c1)) :: rw_ 5 1 A1 r.1.out c1 cs1 :: oo ob2 163 [vp ob0 0] :: oo ob3 36 (cGQuery r.2 v2 v3 v4 v5 v6 v7) :: F) w' ∧ RC (TInt .u8) m' r.1.out cs1 ∧ RS (TGVariable) m' v2 r.2.Variables ∧ RS (TGRelation) m' v3 r.2.Relations ∧ RS (TGAbsence) m' v4 r.2.Absences ∧ RS (TGColumn) m' v5 r.2.Group ∧ RS (TGAggregate) m' v6 r.2.Compute ∧ RS (TGOrderKey) m' v7 r.2.Order
theorem c_writer_list_i2 {k : Nat} {a0 : SWriter} {a1 : Int} {a3 : GQuery} {a4 : List Str} {r : SWriter × GQuery} {g : World} {m : Mem} {F : List Asr} {w : World} {ob0 : Nat} {ob2 : Nat} {ob3 : Nat} {A1_ : Option Addr} {c1_ : Nat} {cs1_ : List Value} {u2 : Value} {u3 : Value} {u4 : Value} {u5 : Value} {u6 : Value} {u7 : Value} {u8 : Value} (h : writer_list_i2 k a0 a1 a3 a4 = some r) (hst : St g m (oo ob0 123 (cSWriter a0 (vs A1_ a0.out c1_)) :: rw_ 5 1 A1_ a0.out c1_ cs1_ :: oo ob2 163 [vp ob0 0] :: oo ob3 36 (cGQuery a3 u2 u3 u4 u5 u6 u7) :: F) w) (hrc1_ : RC (TInt .u8) m a0.out cs1_) (hu2 : RS (TGVariable) m u2 a3.Variables) (hu3 : RS (TGRelation) m u3 a3.Relations) (hu4 : RS (TGAbsence) m u4 a3.Absences) (hu5 : RS (TGColumn) m u5 a3.Group) (hu6 : RS (TGAggregate) m u6 a3.Compute) (hu7 : RS (TGOrderKey) m u7 a3.Order) (hu8 : RS (TStr) m u8 a4) (hG : Glob m) :
    Calls Tryz.prog 125 ⟨[vp ob0 0, vi a1, vf 133 [] [vp ob2 0, vp ob3 0], u8]⟩ w (OPost (R_writer_list_i2 g m F ob0 ob2 ob3) r) := by
 refine calls_enter Tryz.func125 rfl rfl ?_
 unfold writer_list_i2 at h
 obtain ⟨A1, c2, rfl⟩ := hu8.shape
 obtain ⟨A3, c4, rfl⟩ := hu2.shape
 obtain ⟨A5, c6, rfl⟩ := hu3.shape
 obtain ⟨A7, c8, rfl⟩ := hu4.shape
 obtain ⟨A9, c10, rfl⟩ := hu5.shape
 obtain ⟨A11, c12, rfl⟩ := hu6.shape
 obtain ⟨A13, c14, rfl⟩ := hu7.shape
 refine qr (s0 2 [(9, vi a1), (10, vi 0)] (nl (tn (bk (wc_loop (fun kk a w => ∃ (f0 : Fr) (m250 : Mem) (x112 : List Int) (A113 : Option Addr) (c114 : Nat) (cs115 : List Value) (x117 : Int) (x118 : Int) (x119 : Str) (x120 : Int) (x121 : List GVariable) (v122 : Value) (x123 : List GRelation) (v124 : Value) (x125 : List GAbsence) (v126 : Value) (x127 : Int) (x128 : Int) (x129 : List GColumn) (v130 : Value) (x131 : List GAggregate) (v132 : Value) (x133 : List GOrderKey) (v134 : Value) (x135 : Int) (x136 : Int), a = act Tryz.f125.ntmps (upds f0 [(0, vp ob0 0), (2, vf 133 [] [vp ob2 0, vp ob3 0]), (3, vs A1 a4 c2), (9, vi a1), (10, vi x136)]) ∧ kk ≤ k ∧ writer_list_i2_l1 kk a1 a4 x112 x117 x118 x119 x120 x121 x123 x125 x127 x128 x129 x131 x133 x135 x136 = some r ∧ m.le m250 ∧ St g m250 (oo ob0 123 [vs A113 x112 c114, vi x117, vi x118, vstr x119, vi x120] :: rw_ 5 1 A113 x112 c114 cs115 :: oo ob2 163 [vp ob0 0] :: oo ob3 36 [v122, v124, v126, vi x127, vi x128, v130, v132, v134, vi x135] :: F) w ∧ RC (TInt .u8) m250 x112 cs115 ∧ RS (TGVariable) m250 v122 x121 ∧ RS (TGRelation) m250 v124 x123 ∧ RS (TGAbsence) m250 v126 x125 ∧ RS (TGColumn) m250 v130 x129 ∧ RS (TGAggregate) m250 v132 x131 ∧ RS (TGOrderKey) m250 v134 x133) k ?_ ?_)))))
 ·exact ⟨_, m, (a0.out), A1_, c1_, cs1_, (a0.last.kind), (a0.last.at_), (a0.last.s_), (a0.last.n_), (a3.Variables), (vs A3 a3.Variables c4), (a3.Relations), (vs A5 a3.Relations c6), (a3.Absences), (vs A7 a3.Absences c8), (a3.Slots.From), (a3.Slots.To), (a3.Group), (vs A9 a3.Group c10), (a3.Compute), (vs A11 a3.Compute c12), (a3.Order), (vs A13 a3.Order c14), (a3.Limit), (0), (act_upds ⟨by kernel_rfl, by kernel_rfl, by kernel_rfl, by kernel_rfl, by kernel_rfl, trivial⟩), (Nat.le_refl _), h, (Mem.le.refl _), hst, hrc1_, hu2, hu3, hu4, hu5, hu6, hu7⟩
 rintro k248 ih249 _ _ ⟨f0, m250, x112, A113, c114, cs115, x117, x118, x119, x120, x121, v122, x123, v124, x125, v126, x127, x128, x129, v130, x131, v132, x133, v134, x135, x136, rfl, hk247, h, hl246, hst, hrc116, hv122, hv124, hv126, hv130, hv132, hv134⟩
 obtain _ | k252 := k248
 ·simp [writer_list_i2_l1] at h
 rw [writer_list_i2_l1] at h
 obtain ⟨A253, c254, rfl⟩ := hv122.shape
 obtain ⟨A255, c256, rfl⟩ := hv124.shape
 obtain ⟨A257, c258, rfl⟩ := hv126.shape
 obtain ⟨A259, c260, rfl⟩ := hv130.shape
 obtain ⟨A261, c262, rfl⟩ := hv132.shape
 obtain ⟨A263, c264, rfl⟩ := hv134.shape
 refine qr (s0 1 [(11, vb (decide (x136 < a1)))] (nl (tn (sq (cn h (fun h => ?_) (fun h => ?_))))))
 ·refine wp_skip (tn (sq (bk (qr (s0 2 [(12, vi x136), (8, vi x136)] (nl (tn (sq (qr (s0 2 [(13, vi x136), (14, vb (x136 == 0))] (nl (tn (cn h (fun h => ?_) (fun h => ?_))))))))))))))
  ·refine rg (s0 2 [(15, vp ob0 0), (16, vs A1 a4 c2)] ?_)
   obtain ⟨r265, hq266, h⟩ := bs h
   refine cal (c_writer_words hq266 hst hrc116 (RS.mono hl246 hu8) (Glob.mono hl246 hG)) ?_
   rintro _ _ ⟨m267, A270, c271, cs272, rfl, hl268, hst, hrc273⟩
   refine nl (tn (rg (s0 2 [(20, vf 133 [] [vp ob2 0, vp ob3 0]), (21, vi x136)] ?_)))
   have hst := pk5 hst
   have e278 := hl246.trans hl268
   obtain ⟨r274, hq275, h⟩ := bs h
   refine cal (c_writer_query_c3 hq275 hst hrc273 (RS.mono hl268 hv122) (RS.mono hl268 hv124) (RS.mono hl268 hv126) (RS.mono hl268 hv130) (RS.mono hl268 hv132) (RS.mono hl268 hv134) (Glob.mono e278 hG)) ?_
   rintro _ _ ⟨m276, A280, c281, cs282, v284, v285, v286, v287, v288, v289, rfl, hl277, hst, hrc283, hv284, hv285, hv286, hv287, hv288, hv289⟩
   obtain ⟨A290, c291, rfl⟩ := hv284.shape
   obtain ⟨A292, c293, rfl⟩ := hv285.shape
   obtain ⟨A294, c295, rfl⟩ := hv286.shape
   obtain ⟨A296, c297, rfl⟩ := hv287.shape
   obtain ⟨A298, c299, rfl⟩ := hv288.shape
   obtain ⟨A300, c301, rfl⟩ := hv289.shape
   refine nl (bn (tn (rg (s0 2 [(23, vi (w64 (x136 + 1))), (10, vi (w64 (x136 + 1)))] (nl (tn ?_))))))
   have e302 := e278.trans hl277
   have hst := pk10 hst
   exact ih249 k252 (by omega) _ _ ⟨_, m276, (r274.1.out), A280, c281, cs282, (r274.1.last.kind), (r274.1.last.at_), (r274.1.last.s_), (r274.1.last.n_), (r274.2.Variables), (vs A290 r274.2.Variables c291), (r274.2.Relations), (vs A292 r274.2.Relations c293), (r274.2.Absences), (vs A294 r274.2.Absences c295), (r274.2.Slots.From), (r274.2.Slots.To), (r274.2.Group), (vs A296 r274.2.Group c297), (r274.2.Compute), (vs A298 r274.2.Compute c299), (r274.2.Order), (vs A300 r274.2.Order c301), (r274.2.Limit), (w64 (x136 + 1)), (act_upds ⟨by kernel_rfl, by kernel_rfl, by kernel_rfl, by kernel_rfl, by kernel_rfl, trivial⟩), (by omega), h, e302, hst, hrc283, hv284, hv285, hv286, hv287, hv288, hv289⟩
  refine rg (s0 1 [(18, vp ob0 0)] ?_)
  obtain ⟨r303, hq304, h⟩ := bs h
  refine cal (c_writer_sign hq304 hst hrc116 (Glob.mono hl246 hG)) ?_
  rintro _ _ ⟨m305, A308, c309, cs310, rfl, hl306, hst, hrc311⟩
  refine nl (tn (rg (s0 2 [(20, vf 133 [] [vp ob2 0, vp ob3 0]), (21, vi x136)] ?_)))
  have hst := pk5 hst
  have e316 := hl246.trans hl306
  obtain ⟨r312, hq313, h⟩ := bs h
  refine cal (c_writer_query_c3 hq313 hst hrc311 (RS.mono hl306 hv122) (RS.mono hl306 hv124) (RS.mono hl306 hv126) (RS.mono hl306 hv130) (RS.mono hl306 hv132) (RS.mono hl306 hv134) (Glob.mono e316 hG)) ?_
  rintro _ _ ⟨m314, A318, c319, cs320, v322, v323, v324, v325, v326, v327, rfl, hl315, hst, hrc321, hv322, hv323, hv324, hv325, hv326, hv327⟩
  obtain ⟨A328, c329, rfl⟩ := hv322.shape
  obtain ⟨A330, c331, rfl⟩ := hv323.shape
  obtain ⟨A332, c333, rfl⟩ := hv324.shape
  obtain ⟨A334, c335, rfl⟩ := hv325.shape
  obtain ⟨A336, c337, rfl⟩ := hv326.shape
  obtain ⟨A338, c339, rfl⟩ := hv327.shape
  refine nl (bn (tn (rg (s0 2 [(23, vi (w64 (x136 + 1))), (10, vi (w64 (x136 + 1)))] (nl (tn ?_))))))
  have e340 := e316.trans hl315
  have hst := pk10 hst
  exact ih249 k252 (by omega) _ _ ⟨_, m314, (r312.1.out), A318, c319, cs320, (r312.1.last.kind), (r312.1.last.at_), (r312.1.last.s_), (r312.1.last.n_), (r312.2.Variables), (vs A328 r312.2.Variables c329), (r312.2.Relations), (vs A330 r312.2.Relations c331), (r312.2.Absences), (vs A332 r312.2.Absences c333), (r312.2.Slots.From), (r312.2.Slots.To), (r312.2.Group), (vs A334 r312.2.Group c335), (r312.2.Compute), (vs A336 r312.2.Compute c337), (r312.2.Order), (vs A338 r312.2.Order c339), (r312.2.Limit), (w64 (x136 + 1)), (act_upds ⟨by kernel_rfl, by kernel_rfl, by kernel_rfl, by kernel_rfl, by kernel_rfl, trivial⟩), (by omega), h, e340, hst, hrc321, hv322, hv323, hv324, hv325, hv326, hv327⟩
 refine wp_exit (tx (tx (bx (we [] ?_))))
 cases h
 exact ⟨_, rfl, m250, A113, c114, cs115, (vs A253 x121 c254), (vs A255 x123 c256), (vs A257 x125 c258), (vs A259 x129 c260), (vs A261 x131 c262), (vs A263 x133 c264), rfl, hl246, hst, hrc116, hv122, hv124, hv126, hv130, hv132, hv134⟩

def R_writer_aggregate (g : World) (m : Mem) (F : List Asr) (ob0 : Nat) (r : SWriter) (v : Value) (w' : World) : Prop := ∃ (m' : Mem) (A1 : Option Addr) (c1 : Nat) (cs1 : List Value), v = vt [] ∧ m.le m' ∧ St g m' (oo ob0 123 (cSWriter r (vs A1 r.out c1)) :: rw_ 5 1 A1 r.out c1 cs1 :: F) w' ∧ RC (TInt .u8) m' r.out cs1
theorem c_writer_aggregate {k : Nat} {a0 : SWriter} {a1 : GAggregate} {r : SWriter} {g : World} {m : Mem} {F : List Asr} {w : World} {ob0 : Nat} {A1_ : Option Addr} {c1_ : Nat} {cs1_ : List Value} (h : writer_aggregate k a0 a1 = some r) (hst : St g m (oo ob0 123 (cSWriter a0 (vs A1_ a0.out c1_)) :: rw_ 5 1 A1_ a0.out c1_ cs1_ :: F) w) (hrc1_ : RC (TInt .u8) m a0.out cs1_) (hG : Glob m) :
    Calls Tryz.prog 136 ⟨[vp ob0 0, va (cGAggregate a1)]⟩ w (OPost (R_writer_aggregate g m F ob0) r) := by
 refine calls_enter Tryz.func136 rfl rfl ?_
 unfold writer_aggregate at h
 refine qr (bo_ (cGAggregate a1) hst (fun b1 _ hst => ?_))
 refine nl (tn (qr ?_))
 obtain ⟨v2, hA3, hv4⟩ := hG.a
 obtain ⟨A5, c6, rfl⟩ := hv4.shape
 refine sg 4 [(4, vp ob0 0), (5, vs A5 namesA c6), (6, vp b1 0), (7, vi a1.Kind)] [(ad 2 0, vs A5 namesA c6), (ad b1 0, vi a1.Kind)] ⟨hst.e hA3 0, hst.c 0, trivial⟩ ?_
 obtain ⟨x8, hx9, h⟩ := ix h
 obtain ⟨b10, o11, cs12, hR13, hA14, hI15⟩ := RS.ix (P := Tryz.prog) hv4 hx9
 obtain rfl : cs12 = [vstr x8] := hR13
 refine vl (hI15.r .i64) (sg 1 [(9, vstr x8)] [(ad b10 o11, vstr x8)] ⟨hst.e hA14 0, trivial⟩ (li 9 1 [vstr x8] hst (fun b16 _ hst => ?_)))
 obtain ⟨m17, hl18, hst, hs19⟩ := hst.obj_slice (T := TStr) (xs := [x8]) (RC.k1 rfl (RC.nil _ _)) rfl
 have hst := pk10 hst
 obtain ⟨r20, hq21, h⟩ := bs h
 refine cal (c_writer_words hq21 hst (RC.mono hl18 hrc1_) hs19 (Glob.mono hl18 hG)) ?_
 rintro _ _ ⟨m22, A25, c26, cs27, rfl, hl23, hst, hrc28⟩
 refine nl (tn (sq (qr (sg 3 [(12, vp b1 0), (13, vi a1.Kind), (14, vb (decide (a1.Kind ≤ 3)))] [(ad b1 0, vi a1.Kind)] ⟨hst.c 2, trivial⟩ (nl (tn (cn h (fun h => ?_) (fun h => ?_))))))))
 ·refine wp_ret (tr (wr [] ?_))
  have hst := pk28 hst
  have e29 := hl18.trans hl23
  have h := Option.some.inj h; subst h
  exact ⟨_, rfl, m22, A25, c26, cs27, rfl, e29, hst, hrc28⟩
 refine wp_skip (tn (qr (s0 2 [(15, vp ob0 0), (16, va [vi 4, vi 0, vstr wx2828, vi 0])] ?_)))
 have e34 := hl18.trans hl23
 obtain ⟨r30, hq31, h⟩ := bs h
 refine cal (c_writer_put hq31 hst hrc28 (Glob.mono e34 hG)) ?_
 rintro _ _ ⟨m32, A36, c37, cs38, rfl, hl33, hst, hrc39⟩
 refine nl (tn (sq (qr (sg 3 [(18, vp b1 0), (19, vi a1.Kind), (20, vb (a1.Kind == 7))] [(ad b1 0, vi a1.Kind)] ⟨hst.c 2, trivial⟩ (nl (tn (cn h (fun h => ?_) (fun h => ?_))))))))
 ·refine qr (sg 4 [(21, vp ob0 0), (22, vp b1 4), (23, vp b1 4), (24, vi a1.Q.Num)] [(ad b1 4, vi a1.Q.Num)] ⟨hst.c 2, trivial⟩ ?_)
  have e44 := e34.trans hl33
  obtain ⟨r40, hq41, h⟩ := bs h
  refine cal (c_writer_number hq41 hst hrc39 (Glob.mono e44 hG)) ?_
  rintro _ _ ⟨m42, A46, c47, cs48, rfl, hl43, hst, hrc49⟩
  refine nl (tn (qr (s0 1 [(26, vp ob0 0)] ?_)))
  have e54 := e44.trans hl43
  obtain ⟨r50, hq51, h⟩ := bs h
  refine cal (c_writer_sign hq51 hst hrc49 (Glob.mono e54 hG)) ?_
  rintro _ _ ⟨m52, A56, c57, cs58, rfl, hl53, hst, hrc59⟩
  refine nl (tn (qr (sg 4 [(28, vp ob0 0), (29, vp b1 4), (30, vp b1 5), (31, vi a1.Q.Den)] [(ad b1 5, vi a1.Q.Den)] ⟨hst.c 2, trivial⟩ ?_)))
  have e64 := e54.trans hl53
  obtain ⟨r60, hq61, h⟩ := bs h
  refine cal (c_writer_number hq61 hst hrc59 (Glob.mono e64 hG)) ?_
  rintro _ _ ⟨m62, A66, c67, cs68, rfl, hl63, hst, hrc69⟩
  refine nl (tn (rg (s0 1 [(33, vp ob0 0)] ?_)))
  have e74 := e64.trans hl63
  obtain ⟨r70, hq71, h⟩ := bs h
  refine cal (c_writer_sign hq71 hst hrc69 (Glob.mono e74 hG)) ?_
  rintro _ _ ⟨m72, A76, c77, cs78, rfl, hl73, hst, hrc79⟩
  refine nl (tn (qr (sg 3 [(35, vp ob0 0), (36, vp b1 1), (37, va (cGColumn a1.Column))] [(ad b1 1, vstr a1.Column.Var), (ad b1 2, vstr a1.Column.Field), (ad b1 3, vstr a1.Column.Key)] ⟨hst.c 2, hst.c 2, hst.c 2, trivial⟩ ?_)))
  have e84 := e74.trans hl73
  obtain ⟨r80, hq81, h⟩ := bs h
  refine cal (c_writer_column hq81 hst hrc79 (Glob.mono e84 hG)) ?_
  rintro _ _ ⟨m82, A86, c87, cs88, rfl, hl83, hst, hrc89⟩
  refine nl (tn (rg (s0 1 [(39, vp ob0 0)] ?_)))
  have e94 := e84.trans hl83
  obtain ⟨r90, hq91, h⟩ := bs h
  refine cal (c_writer_sign hq91 hst hrc89 (Glob.mono e94 hG)) ?_
  rintro _ _ ⟨m92, A96, c97, cs98, rfl, hl93, hst, hrc99⟩
  refine nl (we [] ?_)
  have hst := pk28 hst
  have e100 := e94.trans hl93
  have h := Option.some.inj h; subst h
  exact ⟨_, rfl, m92, A96, c97, cs98, rfl, e100, hst, hrc99⟩
 refine wp_skip (tn (qr (sg 3 [(35, vp ob0 0), (36, vp b1 1), (37, va (cGColumn a1.Column))] [(ad b1 1, vstr a1.Column.Var), (ad b1 2, vstr a1.Column.Field), (ad b1 3, vstr a1.Column.Key)] ⟨hst.c 2, hst.c 2, hst.c 2, trivial⟩ ?_)))
 have e105 := e34.trans hl33
 obtain ⟨r101, hq102, h⟩ := bs h
 refine cal (c_writer_column hq102 hst hrc39 (Glob.mono e105 hG)) ?_
 rintro _ _ ⟨m103, A107, c108, cs109, rfl, hl104, hst, hrc110⟩
 refine nl (tn (rg (s0 1 [(39, vp ob0 0)] ?_)))
 have e115 := e105.trans hl104
 obtain ⟨r111, hq112, h⟩ := bs h
 refine cal (c_writer_sign hq112 hst hrc110 (Glob.mono e115 hG)) ?_
 rintro _ _ ⟨m113, A117, c118, cs119, rfl, hl114, hst, hrc120⟩
 refine nl (we [] ?_)
 have hst := pk28 hst
 have e121 := e115.trans hl114
 have h := Option.some.inj h; subst h
 exact ⟨_, rfl, m113, A117, c118, cs119, rfl, e121, hst, hrc120⟩

def R_writer_query_c4 (g : World) (m : Mem) (F : List Asr) (ob1 : Nat) (ob2 : Nat) (ob3 : Nat) (r : SWriter × GQuery) (v : Value) (w' : World) : Prop := ∃ (m' : Mem) (A1 : Option Addr) (c1 : Nat) (cs1 : List Value) (v2 : Value) (v3 : Value) (v4 : Value) (v5 : Value) (v6 : Value) (v7 : Value), v = vt [] ∧ m.le m' ∧ St g m' (oo ob1 163 [vp ob2 0] :: oo ob2 123 (cSWriter r.1 (vs A1 r.1.out c1)) :: rw_ 5 1 A1 r.1.out c1 cs1 :: oo ob3 36 (cGQuery r.2 v2 v3 v4 v5 v6 v7) :: F) w' ∧ RC (TInt .u8) m' r.1.out cs1 ∧ RS (TGVariable) m' v2 r.2.Variables ∧ RS (TGRelation) m' v3 r.2.Relations ∧ RS (TGAbsence) m' v4 r.2.Absences ∧ RS (TGColumn) m' v5 r.2.Group ∧ RS (TGAggregate) m' v6 r.2.Compute ∧ RS (TGOrderKey) m' v7 r.2.Order
theorem c_writer_query_c4 {k : Nat} {a0 : Int} {a2 : SWriter} {a3 : GQuery} {r : SWriter × GQuery} {g : World} {m : Mem} {F : List Asr} {w : World} {ob1 : Nat} {ob2 : Nat} {ob3 : Nat} {A1_ : Option Addr} {c1_ : Nat} {cs1_ : List Value} {u2 : Value} {u3 : Value} {u4 : Value} {u5 : Value} {u6 : Value} {u7 : Value} (h : writer_query_c4 k a0 a2 a3 = some r) (hst : St g m (oo ob1 163 [vp ob2 0] :: oo ob2 123 (cSWriter a2 (vs A1_ a2.out c1_)) :: rw_ 5 1 A1_ a2.out c1_ cs1_ :: oo ob3 36 (cGQuery a3 u2 u3 u4 u5 u6 u7) :: F) w) (hrc1_ : RC (TInt .u8) m a2.out cs1_) (hu2 : RS (TGVariable) m u2 a3.Variables) (hu3 : RS (TGRelation) m u3 a3.Relations) (hu4 : RS (TGAbsence) m u4 a3.Absences) (hu5 : RS (TGColumn) m u5 a3.Group) (hu6 : RS (TGAggregate) m u6 a3.Compute) (hu7 : RS (TGOrderKey) m u7 a3.Order) (hG : Glob m) :
    Calls Tryz.prog 135 ⟨[vi a0, vp ob1 0, vp ob3 0]⟩ w (OPost (R_writer_query_c4 g m F ob1 ob2 ob3) r) := by
 refine calls_enter Tryz.func135 rfl rfl ?_
 unfold writer_query_c4 at h
 obtain ⟨A1, c2, rfl⟩ := hu2.shape
 obtain ⟨A3, c4, rfl⟩ := hu3.shape
 obtain ⟨A5, c6, rfl⟩ := hu4.shape
 obtain ⟨A7, c8, rfl⟩ := hu5.shape
 obtain ⟨A9, c10, rfl⟩ := hu6.shape
 obtain ⟨A11, c12, rfl⟩ := hu7.shape
 refine wc_draw false (fun x => Rd m (oo ob1 163 [vp ob2 0] :: oo ob3 36 (cGQuery a3 (vs A1 a3.Variables c2) (vs A3 a3.Relations c4) (vs A5 a3.Absences c6) (vs A7 a3.Group c8) (vs A9 a3.Compute c10) (vs A11 a3.Order c12)) :: []) x) (by kernel_rfl) ?_
 have hst := hst.drew
 refine wpG_seg [0, 1, 3, 2] [(4, vp ob2 0), (5, vp ob3 6), (7, vi a0), (6, vs A9 a3.Compute c10)] [(ad ob1 0, vp ob2 0), (ad ob3 6, vs A9 a3.Compute c10)] #[true, true, true, true, false, false, false] (fuel := 3) PQ.body (by kernel_rfl) (by kernel_rfl) (hst.rd.with_ 0 rfl (hst.rd.with_ 3 rfl (hst.rd.none_))) (fun x hx => ⟨hx.c 0, hx.c 1, trivial⟩) ?_
 obtain ⟨x32, hx33, h⟩ := ix h
 obtain ⟨b34, o35, cs36, hR37, hA38, hI39⟩ := RS.ix (P := Tryz.prog) hu6 hx33
 obtain rfl := TGAggregate.open_ hR37
 refine wpG_take_val PQ.body (i := 4) rfl (by kernel_rfl) (by kernel_rfl) (hst.rd.with_ 0 rfl (hst.rd.with_ 3 rfl (hst.rd.none_))) (fun x hx => hI39.r .i64) ?_
 refine wpG_seg [5] [(9, va (cGAggregate x32))] [(ad b34 o35, vi x32.Kind), (ad b34 (o35 + 1), vstr x32.Column.Var), (ad b34 (o35 + 2), vstr x32.Column.Field), (ad b34 (o35 + 3), vstr x32.Column.Key), (ad b34 (o35 + 4), vi x32.Q.Num), (ad b34 (o35 + 5), vi x32.Q.Den)] #[true, true, true, true, true, true, false] (fuel := 1) PQ.body (by kernel_rfl) (by kernel_rfl) (hst.rd.with_ 0 rfl (hst.rd.with_ 3 rfl (hst.rd.none_))) (fun x hx => ⟨hx.e hA38 0, hx.e hA38 1, hx.e hA38 2, hx.e hA38 3, hx.e hA38 4, hx.e hA38 5, trivial⟩) ?_
 refine wpG_exec 6 (by kernel_rfl) rfl ?_
 have hst := pk10 hst
 obtain ⟨r40, hq41, h⟩ := bs h
 refine cal (c_writer_aggregate hq41 hst hrc1_ hG) ?_
 rintro _ _ ⟨m42, A45, c46, cs47, rfl, hl43, hst, hrc48⟩
 refine nl (tn (⟨_, fun _ h => h, .inl ⟨rfl, allListed_of _ (by kernel_rfl)⟩, ?_⟩))
 refine wpG_done (by kernel_rfl) (we [] ?_)
 have hst := pk5 hst
 cases h
 exact ⟨_, rfl, m42, A45, c46, cs47, (vs A1 a3.Variables c2), (vs A3 a3.Relations c4), (vs A5 a3.Absences c6), (vs A7 a3.Group c8), (vs A9 a3.Compute c10), (vs A11 a3.Order c12), rfl, hl43, hst, hrc48, (RS.mono hl43 hu2), (RS.mono hl43 hu3), (RS.mono hl43 hu4), (RS.mono hl43 hu5), (RS.mono hl43 hu6), (RS.mono hl43 hu7)⟩

def R_writer_list_i3 (g : World) (m : Mem) (F : List Asr) (ob0 : Nat) (ob2 : Nat) (ob3 : Nat) (r : SWriter × GQuery) (v : Value) (w' : World) : Prop := ∃ (m' : Mem) (A1 : Option Addr) (c1 : Nat) (cs1 : List Value) (v2 : Value) (v3 : Value) (v4 : Value) (v5 : Value) (v6 : Value) (v7 : Value), v = vt [] ∧ m.le m' ∧ St g m' (oo ob0 123 (cSWriter r.1 (vs A1 r.1.out c1)) :: rw_ 5 1 A1 r.1.out c1 cs1 :: oo ob2 163 [vp ob0 0] :: oo ob3 36 (cGQuery r.2 v2 v3 v4 v5 v6 v7) :: F) w' ∧ RC (TInt .u8) m' r.1.out cs1 ∧ RS (TGVariable) m' v2 r.2.Variables ∧ RS (TGRelation) m' v3 r.2.Relations ∧ RS (TGAbsence) m' v4 r.2.Absences ∧ RS (TGColumn) m' v5 r.2.Group ∧ RS (TGAggregate) m' v6 r.2.Compute ∧ RS (TGOrderKey) m' v7 r.2.Order
theorem c_writer_list_i3 {k : Nat} {a0 : SWriter} {a1 : Int} {a3 : GQuery} {a4 : List Str} {r : SWriter × GQuery} {g : World} {m : Mem} {F : List Asr} {w : World} {ob0 : Nat} {ob2 : Nat} {ob3 : Nat} {A1_ : Option Addr} {c1_ : Nat} {cs1_ : List Value} {u2 : Value} {u3 : Value} {u4 : Value} {u5 : Value} {u6 : Value} {u7 : Value} {u8 : Value} (h : writer_list_i3 k a0 a1 a3 a4 = some r) (hst : St g m (oo ob0 123 (cSWriter a0 (vs A1_ a0.out c1_)) :: rw_ 5 1 A1_ a0.out c1_ cs1_ :: oo ob2 163 [vp ob0 0] :: oo ob3 36 (cGQuery a3 u2 u3 u4 u5 u6 u7) :: F) w) (hrc1_ : RC (TInt .u8) m a0.out cs1_) (hu2 : RS (TGVariable) m u2 a3.Variables) (hu3 : RS (TGRelation) m u3 a3.Relations) (hu4 : RS (TGAbsence) m u4 a3.Absences) (hu5 : RS (TGColumn) m u5 a3.Group) (hu6 : RS (TGAggregate) m u6 a3.Compute) (hu7 : RS (TGOrderKey) m u7 a3.Order) (hu8 : RS (TStr) m u8 a4) (hG : Glob m) :
    Calls Tryz.prog 125 ⟨[vp ob0 0, vi a1, vf 135 [] [vp ob2 0, vp ob3 0], u8]⟩ w (OPost (R_writer_list_i3 g m F ob0 ob2 ob3) r) := by
 refine calls_enter Tryz.func125 rfl rfl ?_
 unfold writer_list_i3 at h
 obtain ⟨A1, c2, rfl⟩ := hu8.shape
 obtain ⟨A3, c4, rfl⟩ := hu2.shape
 obtain ⟨A5, c6, rfl⟩ := hu3.shape
 obtain ⟨A7, c8, rfl⟩ := hu4.shape
 obtain ⟨A9, c10, rfl⟩ := hu5.shape
 obtain ⟨A11, c12, rfl⟩ := hu6.shape
 obtain ⟨A13, c14, rfl⟩ := hu7.shape
 refine qr (s0 2 [(9, vi a1), (10, vi 0)] (nl (tn (bk (wc_loop (fun kk a w => ∃ (f0 : Fr) (m250 : Mem) (x112 : List Int) (A113 : Option Addr) (c114 : Nat) (cs115 : List Value) (x117 : Int) (x118 : Int) (x119 : Str) (x120 : Int) (x121 : List GVariable) (v122 : Value) (x123 : List GRelation) (v124 : Value) (x125 : List GAbsence) (v126 : Value) (x127 : Int) (x128 : Int) (x129 : List GColumn) (v130 : Value) (x131 : List GAggregate) (v132 : Value) (x133 : List GOrderKey) (v134 : Value) (x135 : Int) (x136 : Int), a = act Tryz.f125.ntmps (upds f0 [(0, vp ob0 0), (2, vf 135 [] [vp ob2 0, vp ob3 0]), (3, vs A1 a4 c2), (9, vi a1), (10, vi x136)]) ∧ kk ≤ k ∧ writer_list_i3_l1 kk a1 a4 x112 x117 x118 x119 x120 x121 x123 x125 x127 x128 x129 x131 x133 x135 x136 = some r ∧ m.le m250 ∧ St g m250 (oo ob0 123 [vs A113 x112 c114, vi x117, vi x118, vstr x119, vi x120] :: rw_ 5 1 A113 x112 c114 cs115 :: oo ob2 163 [vp ob0 0] :: oo ob3 36 [v122, v124, v126, vi x127, vi x128, v130, v132, v134, vi x135] :: F) w ∧ RC (TInt .u8) m250 x112 cs115 ∧ RS (TGVariable) m250 v122 x121 ∧ RS (TGRelation) m250 v124 x123 ∧ RS (TGAbsence) m250 v126 x125 ∧ RS (TGColumn) m250 v130 x129 ∧ RS (TGAggregate) m250 v132 x131 ∧ RS (TGOrderKey) m250 v134 x133) k ?_ ?_)))))
 ·exact ⟨_, m, (a0.out), A1_, c1_, cs1_, (a0.last.kind), (a0.last.at_), (a0.last.s_), (a0.last.n_), (a3.Variables), (vs A3 a3.Variables c4), (a3.Relations), (vs A5 a3.Relations c6), (a3.Absences), (vs A7 a3.Absences c8), (a3.Slots.From), (a3.Slots.To), (a3.Group), (vs A9 a3.Group c10), (a3.Compute), (vs A11 a3.Compute c12), (a3.Order), (vs A13 a3.Order c14), (a3.Limit), (0), (act_upds ⟨by kernel_rfl, by kernel_rfl, by kernel_rfl, by kernel_rfl, by kernel_rfl, trivial⟩), (Nat.le_refl _), h, (Mem.le.refl _), hst, hrc1_, hu2, hu3, hu4, hu5, hu6, hu7⟩
 rintro k248 ih249 _ _ ⟨f0, m250, x112, A113, c114, cs115, x117, x118, x119, x120, x121, v122, x123, v124, x125, v126, x127, x128, x129, v130, x131, v132, x133, v134, x135, x136, rfl, hk247, h, hl246, hst, hrc116, hv122, hv124, hv126, hv130, hv132, hv134⟩
 obtain _ | k252 := k248
 ·simp [writer_list_i3_l1] at h
 rw [writer_list_i3_l1] at h
 obtain ⟨A253, c254, rfl⟩ := hv122.shape
 obtain ⟨A255, c256, rfl⟩ := hv124.shape
 obtain ⟨A257, c258, rfl⟩ := hv126.shape
 obtain ⟨A259, c260, rfl⟩ := hv130.shape
 obtain ⟨A261, c262, rfl⟩ := hv132.shape
 obtain ⟨A263, c264, rfl⟩ := hv134.shape
 refine qr (s0 1 [(11, vb (decide (x136 < a1)))] (nl (tn (sq (cn h (fun h => ?_) (fun h => ?_))))))
 ·refine wp_skip (tn (sq (bk (qr (s0 2 [(12, vi x136), (8, vi x136)] (nl (tn (sq (qr (s0 2 [(13, vi x136), (14, vb (x136 == 0))] (nl (tn (cn h (fun h => ?_) (fun h => ?_))))))))))))))
  ·refine rg (s0 2 [(15, vp ob0 0), (16, vs A1 a4 c2)] ?_)
   obtain ⟨r265, hq266, h⟩ := bs h
   refine cal (c_writer_words hq266 hst hrc116 (RS.mono hl246 hu8) (Glob.mono hl246 hG)) ?_
   rintro _ _ ⟨m267, A270, c271, cs272, rfl, hl268, hst, hrc273⟩
   refine nl (tn (rg (s0 2 [(20, vf 135 [] [vp ob2 0, vp ob3 0]), (21, vi x136)] ?_)))
   have hst := pk5 hst
   have e278 := hl246.trans hl268
   obtain ⟨r274, hq275, h⟩ := bs h
   refine cal (c_writer_query_c4 hq275 hst hrc273 (RS.mono hl268 hv122) (RS.mono hl268 hv124) (RS.mono hl268 hv126) (RS.mono hl268 hv130) (RS.mono hl268 hv132) (RS.mono hl268 hv134) (Glob.mono e278 hG)) ?_
   rintro _ _ ⟨m276, A280, c281, cs282, v284, v285, v286, v287, v288, v289, rfl, hl277, hst, hrc283, hv284, hv285, hv286, hv287, hv288, hv289⟩
   obtain ⟨A290, c291, rfl⟩ := hv284.shape
   obtain ⟨A292, c293, rfl⟩ := hv285.shape
   obtain ⟨A294, c295, rfl⟩ := hv286.shape
   obtain ⟨A296, c297, rfl⟩ := hv287.shape
   obtain ⟨A298, c299, rfl⟩ := hv288.shape
   obtain ⟨A300, c301, rfl⟩ := hv289.shape
   refine nl (bn (tn (rg (s0 2 [(23, vi (w64 (x136 + 1))), (10, vi (w64 (x136 + 1)))] (nl (tn ?_))))))
   have e302 := e278.trans hl277
   have hst := pk10 hst
   exact ih249 k252 (by omega) _ _ ⟨_, m276, (r274.1.out), A280, c281, cs282, (r274.1.last.kind), (r274.1.last.at_), (r274.1.last.s_), (r274.1.last.n_), (r274.2.Variables), (vs A290 r274.2.Variables c291), (r274.2.Relations), (vs A292 r274.2.Relations c293), (r274.2.Absences), (vs A294 r274.2.Absences c295), (r274.2.Slots.From), (r274.2.Slots.To), (r274.2.Group), (vs A296 r274.2.Group c297), (r274.2.Compute), (vs A298 r274.2.Compute c299), (r274.2.Order), (vs A300 r274.2.Order c301), (r274.2.Limit), (w64 (x136 + 1)), (act_upds ⟨by kernel_rfl, by kernel_rfl, by kernel_rfl, by kernel_rfl, by kernel_rfl, trivial⟩), (by omega), h, e302, hst, hrc283, hv284, hv285, hv286, hv287, hv288, hv289⟩
  refine rg (s0 1 [(18, vp ob0 0)] ?_)
  obtain ⟨r303, hq304, h⟩ := bs h
  refine cal (c_writer_sign hq304 hst hrc116 (Glob.mono hl246 hG)) ?_
  rintro _ _ ⟨m305, A308, c309, cs310, rfl, hl306, hst, hrc311⟩
  refine nl (tn (rg (s0 2 [(20, vf 135 [] [vp ob2 0, vp ob3 0]), (21, vi x136)] ?_)))
  have hst := pk5 hst
  have e316 := hl246.trans hl306
  obtain ⟨r312, hq313, h⟩ := bs h
  refine cal (c_writer_query_c4 hq313 hst hrc311 (RS.mono hl306 hv122) (RS.mono hl306 hv124) (RS.mono hl306 hv126) (RS.mono hl306 hv130) (RS.mono hl306 hv132) (RS.mono hl306 hv134) (Glob.mono e316 hG)) ?_
  rintro _ _ ⟨m314, A318, c319, cs320, v322, v323, v324, v325, v326, v327, rfl, hl315, hst, hrc321, hv322, hv323, hv324, hv325, hv326, hv327⟩
  obtain ⟨A328, c329, rfl⟩ := hv322.shape
  obtain ⟨A330, c331, rfl⟩ := hv323.shape
  obtain ⟨A332, c333, rfl⟩ := hv324.shape
  obtain ⟨A334, c335, rfl⟩ := hv325.shape
  obtain ⟨A336, c337, rfl⟩ := hv326.shape
  obtain ⟨A338, c339, rfl⟩ := hv327.shape
  refine nl (bn (tn (rg (s0 2 [(23, vi (w64 (x136 + 1))), (10, vi (w64 (x136 + 1)))] (nl (tn ?_))))))
  have e340 := e316.trans hl315
  have hst := pk10 hst
  exact ih249 k252 (by omega) _ _ ⟨_, m314, (r312.1.out), A318, c319, cs320, (r312.1.last.kind), (r312.1.last.at_), (r312.1.last.s_), (r312.1.last.n_), (r312.2.Variables), (vs A328 r312.2.Variables c329), (r312.2.Relations), (vs A330 r312.2.Relations c331), (r312.2.Absences), (vs A332 r312.2.Absences c333), (r312.2.Slots.From), (r312.2.Slots.To), (r312.2.Group), (vs A334 r312.2.Group c335), (r312.2.Compute), (vs A336 r312.2.Compute c337), (r312.2.Order), (vs A338 r312.2.Order c339), (r312.2.Limit), (w64 (x136 + 1)), (act_upds ⟨by kernel_rfl, by kernel_rfl, by kernel_rfl, by kernel_rfl, by kernel_rfl, trivial⟩), (by omega), h, e340, hst, hrc321, hv322, hv323, hv324, hv325, hv326, hv327⟩
 refine wp_exit (tx (tx (bx (we [] ?_))))
 cases h
 exact ⟨_, rfl, m250, A113, c114, cs115, (vs A253 x121 c254), (vs A255 x123 c256), (vs A257 x125 c258), (vs A259 x129 c260), (vs A261 x131 c262), (vs A263 x133 c264), rfl, hl246, hst, hrc116, hv122, hv124, hv126, hv130, hv132, hv134⟩

def R_writer_query_c5 (g : World) (m : Mem) (F : List Asr) (ob1 : Nat) (ob2 : Nat) (ob3 : Nat) (r : SWriter × GQuery) (v : Value) (w' : World) : Prop := ∃ (m' : Mem) (A1 : Option Addr) (c1 : Nat) (cs1 : List Value) (v2 : Value) (v3 : Value) (v4 : Value) (v5 : Value) (v6 : Value) (v7 : Value), v = vt [] ∧ m.le m' ∧ St g m' (oo ob1 163 [vp ob2 0] :: oo ob2 123 (cSWriter r.1 (vs A1 r.1.out c1)) :: rw_ 5 1 A1 r.1.out c1 cs1 :: oo ob3 36 (cGQuery r.2 v2 v3 v4 v5 v6 v7) :: F) w' ∧ RC (TInt .u8) m' r.1.out cs1 ∧ RS (TGVariable) m' v2 r.2.Variables ∧ RS (TGRelation) m' v3 r.2.Relations ∧ RS (TGAbsence) m' v4 r.2.Absences ∧ RS (TGColumn) m' v5 r.2.Group ∧ RS (TGAggregate) m' v6 r.2.Compute ∧ RS (TGOrderKey) m' v7 r.2.Order
theorem c_writer_query_c5 {k : Nat} {a0 : Int} {a2 : SWriter} {a3 : GQuery} {r : SWriter × GQuery} {g : World} {m : Mem} {F : List Asr} {w : World} {ob1 : Nat} {ob2 : Nat} {ob3 : Nat} {A1_ : Option Addr} {c1_ : Nat} {cs1_ : List Value} {u2 : Value} {u3 : Value} {u4 : Value} {u5 : Value} {u6 : Value} {u7 : Value} (h : writer_query_c5 k a0 a2 a3 = some r) (hst : St g m (oo ob1 163 [vp ob2 0] :: oo ob2 123 (cSWriter a2 (vs A1_ a2.out c1_)) :: rw_ 5 1 A1_ a2.out c1_ cs1_ :: oo ob3 36 (cGQuery a3 u2 u3 u4 u5 u6 u7) :: F) w) (hrc1_ : RC (TInt .u8) m a2.out cs1_) (hu2 : RS (TGVariable) m u2 a3.Variables) (hu3 : RS (TGRelation) m u3 a3.Relations) (hu4 : RS (TGAbsence) m u4 a3.Absences) (hu5 : RS (TGColumn) m u5 a3.Group) (hu6 : RS (TGAggregate) m u6 a3.Compute) (hu7 : RS (TGOrderKey) m u7 a3.Order) (hG : Glob m) :
    Calls Tryz.prog 137 ⟨[vi a0, vp ob1 0, vp ob3 0]⟩ w (OPost (R_writer_query_c5 g m F ob1 ob2 ob3) r) := by
 refine calls_enter Tryz.func137 rfl rfl ?_
 unfold writer_query_c5 at h
 obtain ⟨A1, c2, rfl⟩ := hu2.shape
 obtain ⟨A3, c4, rfl⟩ := hu3.shape
 obtain ⟨A5, c6, rfl⟩ := hu4.shape
 obtain ⟨A7, c8, rfl⟩ := hu5.shape
 obtain ⟨A9, c10, rfl⟩ := hu6.shape
 obtain ⟨A11, c12, rfl⟩ := hu7.shape
 refine sq (wc_draw false (fun x => Rd m (oo ob1 163 [vp ob2 0] :: oo ob3 36 (cGQuery a3 (vs A1 a3.Variables c2) (vs A3 a3.Relations c4) (vs A5 a3.Absences c6) (vs A7 a3.Group c8) (vs A9 a3.Compute c10) (vs A11 a3.Order c12)) :: []) x) (by kernel_rfl) ?_)
 have hst := hst.drew
 refine wpG_seg [0, 1, 3, 2] [(4, vp ob2 0), (5, vp ob3 7), (7, vi a0), (6, vs A11 a3.Order c12)] [(ad ob1 0, vp ob2 0), (ad ob3 7, vs A11 a3.Order c12)] #[true, true, true, true, false, false, false, false] (fuel := 4) (PQ.then_ PQ.body) (by kernel_rfl) (by kernel_rfl) (hst.rd.with_ 0 rfl (hst.rd.with_ 3 rfl (hst.rd.none_))) (fun x hx => ⟨hx.c 0, hx.c 1, trivial⟩) ?_
 obtain ⟨x32, hx33, h⟩ := ix h
 obtain ⟨b34, o35, cs36, hR37, hA38, hI39⟩ := RS.ix (P := Tryz.prog) hu7 hx33
 obtain rfl := TGOrderKey.open_ hR37
 refine wpG_take_val (PQ.then_ PQ.body) (i := 4) rfl (by kernel_rfl) (by kernel_rfl) (hst.rd.with_ 0 rfl (hst.rd.with_ 3 rfl (hst.rd.none_))) (fun x hx => hI39.r .i64) ?_
 refine wpG_seg [5, 6] [(9, vp b34 o35), (10, vi x32.Index)] [(ad b34 o35, vi x32.Index)] #[true, true, true, true, true, true, true, false] (fuel := 1) (PQ.then_ PQ.body) (by kernel_rfl) (by kernel_rfl) (hst.rd.with_ 0 rfl (hst.rd.with_ 3 rfl (hst.rd.none_))) (fun x hx => ⟨hx.e hA38 0, trivial⟩) ?_
 refine wpG_exec 7 (by kernel_rfl) rfl ?_
 have hst := pk10 hst
 obtain ⟨r40, hq41, h⟩ := bs h
 refine cal (c_writer_number hq41 hst hrc1_ hG) ?_
 rintro _ _ ⟨m42, A45, c46, cs47, rfl, hl43, hst, hrc48⟩
 refine nl (tn (⟨_, fun _ h => h, .inl ⟨rfl, allListed_of _ (by kernel_rfl)⟩, ?_⟩))
 refine wpG_done (by kernel_rfl) (tn (qr (sg 3 [(12, vp ob3 7), (13, vs A11 a3.Order c12), (14, vi a0)] [(ad ob3 7, vs A11 a3.Order c12)] ⟨hst.c 3, trivial⟩ ?_)))
 obtain ⟨x50, hx51, h⟩ := ix h
 obtain ⟨b52, o53, cs54, hR55, hA56, hI57⟩ := RS.ix (P := Tryz.prog) (RS.mono hl43 hu7) hx51
 obtain rfl := TGOrderKey.open_ hR55
 refine vl (hI57.r .i64) (sg 2 [(16, vp b52 (o53 + 1)), (17, vb x50.Descending)] [(ad b52 (o53 + 1), vb x50.Descending)] ⟨hst.e hA56 1, trivial⟩ (nl (tn (cn h (fun h => ?_) (fun h => ?_)))))
 ·refine rg (sg 1 [(18, vp ob2 0)] [(ad ob1 0, vp ob2 0)] ⟨hst.c 2, trivial⟩ (li 9 1 [vstr w_desc] hst (fun b58 _ hst => ?_)))
  obtain ⟨m59, hl60, hst, hs61⟩ := hst.obj_slice (T := TStr) (xs := [w_desc]) (RC.k1 rfl (RC.nil _ _)) rfl
  have e66 := hl43.trans hl60
  obtain ⟨r62, hq63, h⟩ := bs h
  refine cal (c_writer_words hq63 hst (RC.mono hl60 hrc48) hs61 (Glob.mono e66 hG)) ?_
  rintro _ _ ⟨m64, A68, c69, cs70, rfl, hl65, hst, hrc71⟩
  refine nl (we [] ?_)
  have e72 := e66.trans hl65
  have hst := pk5 hst
  cases h
  exact ⟨_, rfl, m64, A68, c69, cs70, (vs A1 a3.Variables c2), (vs A3 a3.Relations c4), (vs A5 a3.Absences c6), (vs A7 a3.Group c8), (vs A9 a3.Compute c10), (vs A11 a3.Order c12), rfl, e72, hst, hrc71, (RS.mono e72 hu2), (RS.mono e72 hu3), (RS.mono e72 hu4), (RS.mono e72 hu5), (RS.mono e72 hu6), (RS.mono e72 hu7)⟩
 refine wp_skip (we [] ?_)
 have hst := pk5 hst
 cases h
 exact ⟨_, rfl, m42, A45, c46, cs47, (vs A1 a3.Variables c2), (vs A3 a3.Relations c4), (vs A5 a3.Absences c6), (vs A7 a3.Group c8), (vs A9 a3.Compute c10), (vs A11 a3.Order c12), rfl, hl43, hst, hrc48, (RS.mono hl43 hu2), (RS.mono hl43 hu3), (RS.mono hl43 hu4), (RS.mono hl43 hu5), (RS.mono hl43 hu6), (RS.mono hl43 hu7)⟩

def R_writer_list_i4 (g : World) (m : Mem) (F : List Asr) (ob0 : Nat) (ob2 : Nat) (ob3 : Nat) (r : SWriter × GQuery) (v : Value) (w' : World) : Prop := ∃ (m' : Mem) (A1 : Option Addr) (c1 : Nat) (cs1 : List Value) (v2 : Value) (v3 : Value) (v4 : Value) (v5 : Value) (v6 : Value) (v7 : Value), v = vt [] ∧ m.le m' ∧ St g m' (oo ob0 123 (cSWriter r.1 (vs A1 r.1.out c1)) :: rw_ 5 1 A1 r.1.out c1 cs1 :: oo ob2 163 [vp ob0 0] :: oo ob3 36 (cGQuery r.2 v2 v3 v4 v5 v6 v7) :: F) w' ∧ RC (TInt .u8) m' r.1.out cs1 ∧ RS (TGVariable) m' v2 r.2.Variables ∧ RS (TGRelation) m' v3 r.2.Relations ∧ RS (TGAbsence) m' v4 r.2.Absences ∧ RS (TGColumn) m' v5 r.2.Group ∧ RS (TGAggregate) m' v6 r.2.Compute ∧ RS (TGOrderKey) m' v7 r.2.Order
theorem c_writer_list_i4 {k : Nat} {a0 : SWriter} {a1 : Int} {a3 : GQuery} {a4 : List Str} {r : SWriter × GQuery} {g : World} {m : Mem} {F : List Asr} {w : World} {ob0 : Nat} {ob2 : Nat} {ob3 : Nat} {A1_ : Option Addr} {c1_ : Nat} {cs1_ : List Value} {u2 : Value} {u3 : Value} {u4 : Value} {u5 : Value} {u6 : Value} {u7 : Value} {u8 : Value} (h : writer_list_i4 k a0 a1 a3 a4 = some r) (hst : St g m (oo ob0 123 (cSWriter a0 (vs A1_ a0.out c1_)) :: rw_ 5 1 A1_ a0.out c1_ cs1_ :: oo ob2 163 [vp ob0 0] :: oo ob3 36 (cGQuery a3 u2 u3 u4 u5 u6 u7) :: F) w) (hrc1_ : RC (TInt .u8) m a0.out cs1_) (hu2 : RS (TGVariable) m u2 a3.Variables) (hu3 : RS (TGRelation) m u3 a3.Relations) (hu4 : RS (TGAbsence) m u4 a3.Absences) (hu5 : RS (TGColumn) m u5 a3.Group) (hu6 : RS (TGAggregate) m u6 a3.Compute) (hu7 : RS (TGOrderKey) m u7 a3.Order) (hu8 : RS (TStr) m u8 a4) (hG : Glob m) :
    Calls Tryz.prog 125 ⟨[vp ob0 0, vi a1, vf 137 [] [vp ob2 0, vp ob3 0], u8]⟩ w (OPost (R_writer_list_i4 g m F ob0 ob2 ob3) r) := by
 refine calls_enter Tryz.func125 rfl rfl ?_
 unfold writer_list_i4 at h
 obtain ⟨A1, c2, rfl⟩ := hu8.shape
 obtain ⟨A3, c4, rfl⟩ := hu2.shape
 obtain ⟨A5, c6, rfl⟩ := hu3.shape
 obtain ⟨A7, c8, rfl⟩ := hu4.shape
 obtain ⟨A9, c10, rfl⟩ := hu5.shape
 obtain ⟨A11, c12, rfl⟩ := hu6.shape
 obtain ⟨A13, c14, rfl⟩ := hu7.shape
 refine qr (s0 2 [(9, vi a1), (10, vi 0)] (nl (tn (bk (wc_loop (fun kk a w => ∃ (f0 : Fr) (m250 : Mem) (x112 : List Int) (A113 : Option Addr) (c114 : Nat) (cs115 : List Value) (x117 : Int) (x118 : Int) (x119 : Str) (x120 : Int) (x121 : List GVariable) (v122 : Value) (x123 : List GRelation) (v124 : Value) (x125 : List GAbsence) (v126 : Value) (x127 : Int) (x128 : Int) (x129 : List GColumn) (v130 : Value) (x131 : List GAggregate) (v132 : Value) (x133 : List GOrderKey) (v134 : Value) (x135 : Int) (x136 : Int), a = act Tryz.f125.ntmps (upds f0 [(0, vp ob0 0), (2, vf 137 [] [vp ob2 0, vp ob3 0]), (3, vs A1 a4 c2), (9, vi a1), (10, vi x136)]) ∧ kk ≤ k ∧ writer_list_i4_l1 kk a1 a4 x112 x117 x118 x119 x120 x121 x123 x125 x127 x128 x129 x131 x133 x135 x136 = some r ∧ m.le m250 ∧ St g m250 (oo ob0 123 [vs A113 x112 c114, vi x117, vi x118, vstr x119, vi x120] :: rw_ 5 1 A113 x112 c114 cs115 :: oo ob2 163 [vp ob0 0] :: oo ob3 36 [v122, v124, v126, vi x127, vi x128, v130, v132, v134, vi x135] :: F) w ∧ RC (TInt .u8) m250 x112 cs115 ∧ RS (TGVariable) m250 v122 x121 ∧ RS (TGRelation) m250 v124 x123 ∧ RS (TGAbsence) m250 v126 x125 ∧ RS (TGColumn) m250 v130 x129 ∧ RS (TGAggregate) m250 v132 x131 ∧ RS (TGOrderKey) m250 v134 x133) k ?_ ?_)))))
 ·exact ⟨_, m, (a0.out), A1_, c1_, cs1_, (a0.last.kind), (a0.last.at_), (a0.last.s_), (a0.last.n_), (a3.Variables), (vs A3 a3.Variables c4), (a3.Relations), (vs A5 a3.Relations c6), (a3.Absences), (vs A7 a3.Absences c8), (a3.Slots.From), (a3.Slots.To), (a3.Group), (vs A9 a3.Group c10), (a3.Compute), (vs A11 a3.Compute c12), (a3.Order), (vs A13 a3.Order c14), (a3.Limit), (0), (act_upds ⟨by kernel_rfl, by kernel_rfl, by kernel_rfl, by kernel_rfl, by kernel_rfl, trivial⟩), (Nat.le_refl _), h, (Mem.le.refl _), hst, hrc1_, hu2, hu3, hu4, hu5, hu6, hu7⟩
 rintro k248 ih249 _ _ ⟨f0, m250, x112, A113, c114, cs115, x117, x118, x119, x120, x121, v122, x123, v124, x125, v126, x127, x128, x129, v130, x131, v132, x133, v134, x135, x136, rfl, hk247, h, hl246, hst, hrc116, hv122, hv124, hv126, hv130, hv132, hv134⟩
 obtain _ | k252 := k248
 ·simp [writer_list_i4_l1] at h
 rw [writer_list_i4_l1] at h
 obtain ⟨A253, c254, rfl⟩ := hv122.shape
 obtain ⟨A255, c256, rfl⟩ := hv124.shape
 obtain ⟨A257, c258, rfl⟩ := hv126.shape
 obtain ⟨A259, c260, rfl⟩ := hv130.shape
 obtain ⟨A261, c262, rfl⟩ := hv132.shape
 obtain ⟨A263, c264, rfl⟩ := hv134.shape
 refine qr (s0 1 [(11, vb (decide (x136 < a1)))] (nl (tn (sq (cn h (fun h => ?_) (fun h => ?_))))))
 ·refine wp_skip (tn (sq (bk (qr (s0 2 [(12, vi x136), (8, vi x136)] (nl (tn (sq (qr (s0 2 [(13, vi x136), (14, vb (x136 == 0))] (nl (tn (cn h (fun h => ?_) (fun h => ?_))))))))))))))
  ·refine rg (s0 2 [(15, vp ob0 0), (16, vs A1 a4 c2)] ?_)
   obtain ⟨r265, hq266, h⟩ := bs h
   refine cal (c_writer_words hq266 hst hrc116 (RS.mono hl246 hu8) (Glob.mono hl246 hG)) ?_
   rintro _ _ ⟨m267, A270, c271, cs272, rfl, hl268, hst, hrc273⟩
   refine nl (tn (rg (s0 2 [(20, vf 137 [] [vp ob2 0, vp ob3 0]), (21, vi x136)] ?_)))
   have hst := pk5 hst
   have e278 := hl246.trans hl268
   obtain ⟨r274, hq275, h⟩ := bs h
   refine cal (c_writer_query_c5 hq275 hst hrc273 (RS.mono hl268 hv122) (RS.mono hl268 hv124) (RS.mono hl268 hv126) (RS.mono hl268 hv130) (RS.mono hl268 hv132) (RS.mono hl268 hv134) (Glob.mono e278 hG)) ?_
   rintro _ _ ⟨m276, A280, c281, cs282, v284, v285, v286, v287, v288, v289, rfl, hl277, hst, hrc283, hv284, hv285, hv286, hv287, hv288, hv289⟩
   obtain ⟨A290, c291, rfl⟩ := hv284.shape
   obtain ⟨A292, c293, rfl⟩ := hv285.shape
   obtain ⟨A294, c295, rfl⟩ := hv286.shape
   obtain ⟨A296, c297, rfl⟩ := hv287.shape
   obtain ⟨A298, c299, rfl⟩ := hv288.shape
   obtain ⟨A300, c301, rfl⟩ := hv289.shape
   refine nl (bn (tn (rg (s0 2 [(23, vi (w64 (x136 + 1))), (10, vi (w64 (x136 + 1)))] (nl (tn ?_))))))
   have e302 := e278.trans hl277
   have hst := pk10 hst
   exact ih249 k252 (by omega) _ _ ⟨_, m276, (r274.1.out), A280, c281, cs282, (r274.1.last.kind), (r274.1.last.at_), (r274.1.last.s_), (r274.1.last.n_), (r274.2.Variables), (vs A290 r274.2.Variables c291), (r274.2.Relations), (vs A292 r274.2.Relations c293), (r274.2.Absences), (vs A294 r274.2.Absences c295), (r274.2.Slots.From), (r274.2.Slots.To), (r274.2.Group), (vs A296 r274.2.Group c297), (r274.2.Compute), (vs A298 r274.2.Compute c299), (r274.2.Order), (vs A300 r274.2.Order c301), (r274.2.Limit), (w64 (x136 + 1)), (act_upds ⟨by kernel_rfl, by kernel_rfl, by kernel_rfl, by kernel_rfl, by kernel_rfl, trivial⟩), (by omega), h, e302, hst, hrc283, hv284, hv285, hv286, hv287, hv288, hv289⟩
  refine rg (s0 1 [(18, vp ob0 0)] ?_)
  obtain ⟨r303, hq304, h⟩ := bs h
  refine cal (c_writer_sign hq304 hst hrc116 (Glob.mono hl246 hG)) ?_
  rintro _ _ ⟨m305, A308, c309, cs310, rfl, hl306, hst, hrc311⟩
  refine nl (tn (rg (s0 2 [(20, vf 137 [] [vp ob2 0, vp ob3 0]), (21, vi x136)] ?_)))
  have hst := pk5 hst
  have e316 := hl246.trans hl306
  obtain ⟨r312, hq313, h⟩ := bs h
  refine cal (c_writer_query_c5 hq313 hst hrc311 (RS.mono hl306 hv122) (RS.mono hl306 hv124) (RS.mono hl306 hv126) (RS.mono hl306 hv130) (RS.mono hl306 hv132) (RS.mono hl306 hv134) (Glob.mono e316 hG)) ?_
  rintro _ _ ⟨m314, A318, c319, cs320, v322, v323, v324, v325, v326, v327, rfl, hl315, hst, hrc321, hv322, hv323, hv324, hv325, hv326, hv327⟩
  obtain ⟨A328, c329, rfl⟩ := hv322.shape
  obtain ⟨A330, c331, rfl⟩ := hv323.shape
  obtain ⟨A332, c333, rfl⟩ := hv324.shape
  obtain ⟨A334, c335, rfl⟩ := hv325.shape
  obtain ⟨A336, c337, rfl⟩ := hv326.shape
  obtain ⟨A338, c339, rfl⟩ := hv327.shape
  refine nl (bn (tn (rg (s0 2 [(23, vi (w64 (x136 + 1))), (10, vi (w64 (x136 + 1)))] (nl (tn ?_))))))
  have e340 := e316.trans hl315
  have hst := pk10 hst
  exact ih249 k252 (by omega) _ _ ⟨_, m314, (r312.1.out), A318, c319, cs320, (r312.1.last.kind), (r312.1.last.at_), (r312.1.last.s_), (r312.1.last.n_), (r312.2.Variables), (vs A328 r312.2.Variables c329), (r312.2.Relations), (vs A330 r312.2.Relations c331), (r312.2.Absences), (vs A332 r312.2.Absences c333), (r312.2.Slots.From), (r312.2.Slots.To), (r312.2.Group), (vs A334 r312.2.Group c335), (r312.2.Compute), (vs A336 r312.2.Compute c337), (r312.2.Order), (vs A338 r312.2.Order c339), (r312.2.Limit), (w64 (x136 + 1)), (act_upds ⟨by kernel_rfl, by kernel_rfl, by kernel_rfl, by kernel_rfl, by kernel_rfl, trivial⟩), (by omega), h, e340, hst, hrc321, hv322, hv323, hv324, hv325, hv326, hv327⟩
 refine wp_exit (tx (tx (bx (we [] ?_))))
 cases h
 exact ⟨_, rfl, m250, A113, c114, cs115, (vs A253 x121 c254), (vs A255 x123 c256), (vs A257 x125 c258), (vs A259 x129 c260), (vs A261 x131 c262), (vs A263 x133 c264), rfl, hl246, hst, hrc116, hv122, hv124, hv126, hv130, hv132, hv134⟩

def R_writer_query (g : World) (m : Mem) (F : List Asr) (ob0 : Nat) (r : SWriter) (v : Value) (w' : World) : Prop := ∃ (m' : Mem) (A1 : Option Addr) (c1 : Nat) (cs1 : List Value), v = vt [] ∧ m.le m' ∧ St g m' (oo ob0 123 (cSWriter r (vs A1 r.out c1)) :: rw_ 5 1 A1 r.out c1 cs1 :: F) w' ∧ RC (TInt .u8) m' r.out cs1
theorem c_writer_query {k : Nat} {a0 : SWriter} {a1 : GQuery} {r : SWriter} {g : World} {m : Mem} {F : List Asr} {w : World} {ob0 : Nat} {A1_ : Option Addr} {c1_ : Nat} {cs1_ : List Value} {u2 : Value} {u3 : Value} {u4 : Value} {u5 : Value} {u6 : Value} {u7 : Value} (h : writer_query k a0 a1 = some r) (hst : St g m (oo ob0 123 (cSWriter a0 (vs A1_ a0.out c1_)) :: rw_ 5 1 A1_ a0.out c1_ cs1_ :: F) w) (hrc1_ : RC (TInt .u8) m a0.out cs1_) (hu2 : RS (TGVariable) m u2 a1.Variables) (hu3 : RS (TGRelation) m u3 a1.Relations) (hu4 : RS (TGAbsence) m u4 a1.Absences) (hu5 : RS (TGColumn) m u5 a1.Group) (hu6 : RS (TGAggregate) m u6 a1.Compute) (hu7 : RS (TGOrderKey) m u7 a1.Order) (hG : Glob m) :
    Calls Tryz.prog 64 ⟨[vp ob0 0, va (cGQuery a1 u2 u3 u4 u5 u6 u7)]⟩ w (OPost (R_writer_query g m F ob0) r) := by
 refine calls_enter Tryz.func64 rfl rfl ?_
 unfold writer_query at h
 obtain ⟨A1, c2, rfl⟩ := hu2.shape
 obtain ⟨A3, c4, rfl⟩ := hu3.shape
 obtain ⟨A5, c6, rfl⟩ := hu4.shape
 obtain ⟨A7, c8, rfl⟩ := hu5.shape
 obtain ⟨A9, c10, rfl⟩ := hu6.shape
 obtain ⟨A11, c12, rfl⟩ := hu7.shape
 refine qr (bo_ [vp ob0 0] hst (fun b13 _ hst => ?_))
 refine bo_ (cGQuery a1 (vs A1 a1.Variables c2) (vs A3 a1.Relations c4) (vs A5 a1.Absences c6) (vs A7 a1.Group c8) (vs A9 a1.Compute c10) (vs A11 a1.Order c12)) hst (fun b14 _ hst => ?_)
 refine nl (tn (qr (sg 5 [(4, vp ob0 0), (5, vp b14 0), (6, vs A1 a1.Variables c2), (7, vi ((a1.Variables).length : Int)), (8, vf 126 [] [vp b13 0, vp b14 0])] [(ad b13 0, vp ob0 0), (ad b14 0, vs A1 a1.Variables c2)] ⟨hst.c 1, hst.c 0, trivial⟩ (li 9 1 [vstr w_find] hst (fun b15 _ hst => ?_)))))
 obtain ⟨m16, hl17, hst, hs18⟩ := hst.obj_slice (T := TStr) (xs := [w_find]) (RC.k1 rfl (RC.nil _ _)) rfl
 have hst := pk31 hst
 obtain ⟨r19, hq20, h⟩ := bs h
 refine cal (c_writer_list hq20 hst (RC.mono hl17 hrc1_) (RS.mono hl17 hu2) (RS.mono hl17 hu3) (RS.mono hl17 hu4) (RS.mono hl17 hu5) (RS.mono hl17 hu6) (RS.mono hl17 hu7) hs18 (Glob.mono hl17 hG)) ?_
 rintro _ _ ⟨m21, A24, c25, cs26, v28, v29, v30, v31, v32, v33, rfl, hl22, hst, hrc27, hv28, hv29, hv30, hv31, hv32, hv33⟩
 obtain ⟨A34, c35, rfl⟩ := hv28.shape
 obtain ⟨A36, c37, rfl⟩ := hv29.shape
 obtain ⟨A38, c39, rfl⟩ := hv30.shape
 obtain ⟨A40, c41, rfl⟩ := hv31.shape
 obtain ⟨A42, c43, rfl⟩ := hv32.shape
 obtain ⟨A44, c45, rfl⟩ := hv33.shape
 refine nl (tn (qr (sg 9 [(11, vp ob0 0), (12, vp b14 1), (13, vs A36 r19.2.Relations c37), (14, vi ((r19.2.Relations).length : Int)), (15, vp b14 2), (16, vs A38 r19.2.Absences c39), (17, vi ((r19.2.Absences).length : Int)), (18, vi (w64 (((r19.2.Relations).length : Int) + ((r19.2.Absences).length : Int)))), (19, vf 128 [] [vp b14 0, vp b13 0])] [(ad b13 0, vp ob0 0), (ad b14 1, vs A36 r19.2.Relations c37), (ad b14 2, vs A38 r19.2.Absences c39)] ⟨hst.c 2, hst.c 3, hst.c 3, trivial⟩ (li 9 1 [vstr w_where] hst (fun b46 _ hst => ?_)))))
 obtain ⟨m47, hl48, hst, hs49⟩ := hst.obj_slice (T := TStr) (xs := [w_where]) (RC.k1 rfl (RC.nil _ _)) rfl
 have hst := pk33 hst
 have e54 := hl17.trans (hl22.trans hl48)
 obtain ⟨r50, hq51, h⟩ := bs h
 refine cal (c_writer_list_i1 hq51 hst (RC.mono hl48 hrc27) (RS.mono hl48 hv28) (RS.mono hl48 hv29) (RS.mono hl48 hv30) (RS.mono hl48 hv31) (RS.mono hl48 hv32) (RS.mono hl48 hv33) hs49 (Glob.mono e54 hG)) ?_
 rintro _ _ ⟨m52, A56, c57, cs58, v60, v61, v62, v63, v64, v65, rfl, hl53, hst, hrc59, hv60, hv61, hv62, hv63, hv64, hv65⟩
 obtain ⟨A66, c67, rfl⟩ := hv60.shape
 obtain ⟨A68, c69, rfl⟩ := hv61.shape
 obtain ⟨A70, c71, rfl⟩ := hv62.shape
 obtain ⟨A72, c73, rfl⟩ := hv63.shape
 obtain ⟨A74, c75, rfl⟩ := hv64.shape
 obtain ⟨A76, c77, rfl⟩ := hv65.shape
 refine nl (tn (wc_join (fun a w => ∃ (f0 : Fr) (k132 : Nat) (m134 : Mem) (x122 : List Int) (A123 : Option Addr) (c124 : Nat) (cs125 : List Value) (x127 : Int) (x128 : Int) (x129 : Str) (x130 : Int), a = act Tryz.f64.ntmps (upds f0 [(2, vp b13 0), (3, vp b14 0)]) ∧ k132 ≤ k ∧ writer_query_j1 k132 r50 x122 x127 x128 x129 x130 = some r ∧ m52.le m134 ∧ St g m134 (oo ob0 123 [vs A123 x122 c124, vi x127, vi x128, vstr x129, vi x130] :: rw_ 5 1 A123 x122 c124 cs125 :: oo b14 36 (cGQuery r50.2 (vs A66 r50.2.Variables c67) (vs A68 r50.2.Relations c69) (vs A70 r50.2.Absences c71) (vs A72 r50.2.Group c73) (vs A74 r50.2.Compute c75) (vs A76 r50.2.Order c77)) :: oo b13 163 [vp ob0 0] :: F) w ∧ RC (TInt .u8) m134 x122 cs125) ?_ ?_))
 ·rintro _ _ ⟨f0, k132, m134, x122, A123, c124, cs125, x127, x128, x129, x130, rfl, hk133, h, hl131, hst, hrc126⟩
  unfold writer_query_j1 at h
  refine qr (sg 5 [(41, vp ob0 0), (42, vp b14 5), (43, vs A72 r50.2.Group c73), (44, vi ((r50.2.Group).length : Int)), (45, vf 133 [] [vp b13 0, vp b14 0])] [(ad b13 0, vp ob0 0), (ad b14 5, vs A72 r50.2.Group c73)] ⟨hst.c 3, hst.c 2, trivial⟩ (li 9 2 [vstr w_group, vstr w_by] hst (fun b135 _ hst => ?_)))
  obtain ⟨m136, hl137, hst, hs138⟩ := hst.obj_slice (T := TStr) (xs := [w_group, w_by]) (RC.k1 rfl (RC.k1 rfl (RC.nil _ _))) rfl
  have e139 := hl131.trans hl137
  have hst := pk33 hst
  have e144 := e54.trans (hl53.trans (hl131.trans hl137))
  obtain ⟨r140, hq141, h⟩ := bs h
  refine cal (c_writer_list_i2 hq141 hst (RC.mono hl137 hrc126) (RS.mono e139 hv60) (RS.mono e139 hv61) (RS.mono e139 hv62) (RS.mono e139 hv63) (RS.mono e139 hv64) (RS.mono e139 hv65) hs138 (Glob.mono e144 hG)) ?_
  rintro _ _ ⟨m142, A146, c147, cs148, v150, v151, v152, v153, v154, v155, rfl, hl143, hst, hrc149, hv150, hv151, hv152, hv153, hv154, hv155⟩
  obtain ⟨A156, c157, rfl⟩ := hv150.shape
  obtain ⟨A158, c159, rfl⟩ := hv151.shape
  obtain ⟨A160, c161, rfl⟩ := hv152.shape
  obtain ⟨A162, c163, rfl⟩ := hv153.shape
  obtain ⟨A164, c165, rfl⟩ := hv154.shape
  obtain ⟨A166, c167, rfl⟩ := hv155.shape
  refine nl (tn (qr (sg 5 [(48, vp ob0 0), (49, vp b14 6), (50, vs A164 r140.2.Compute c165), (51, vi ((r140.2.Compute).length : Int)), (52, vf 135 [] [vp b13 0, vp b14 0])] [(ad b13 0, vp ob0 0), (ad b14 6, vs A164 r140.2.Compute c165)] ⟨hst.c 2, hst.c 3, trivial⟩ (li 9 1 [vstr w_compute] hst (fun b168 _ hst => ?_)))))
  obtain ⟨m169, hl170, hst, hs171⟩ := hst.obj_slice (T := TStr) (xs := [w_compute]) (RC.k1 rfl (RC.nil _ _)) rfl
  have e176 := e144.trans (hl143.trans hl170)
  obtain ⟨r172, hq173, h⟩ := bs h
  refine cal (c_writer_list_i3 hq173 hst (RC.mono hl170 hrc149) (RS.mono hl170 hv150) (RS.mono hl170 hv151) (RS.mono hl170 hv152) (RS.mono hl170 hv153) (RS.mono hl170 hv154) (RS.mono hl170 hv155) hs171 (Glob.mono e176 hG)) ?_
  rintro _ _ ⟨m174, A178, c179, cs180, v182, v183, v184, v185, v186, v187, rfl, hl175, hst, hrc181, hv182, hv183, hv184, hv185, hv186, hv187⟩
  obtain ⟨A188, c189, rfl⟩ := hv182.shape
  obtain ⟨A190, c191, rfl⟩ := hv183.shape
  obtain ⟨A192, c193, rfl⟩ := hv184.shape
  obtain ⟨A194, c195, rfl⟩ := hv185.shape
  obtain ⟨A196, c197, rfl⟩ := hv186.shape
  obtain ⟨A198, c199, rfl⟩ := hv187.shape
  refine nl (tn (qr (sg 5 [(55, vp ob0 0), (56, vp b14 7), (57, vs A198 r172.2.Order c199), (58, vi ((r172.2.Order).length : Int)), (59, vf 137 [] [vp b13 0, vp b14 0])] [(ad b13 0, vp ob0 0), (ad b14 7, vs A198 r172.2.Order c199)] ⟨hst.c 2, hst.c 3, trivial⟩ (li 9 2 [vstr w_order, vstr w_by] hst (fun b200 _ hst => ?_)))))
  obtain ⟨m201, hl202, hst, hs203⟩ := hst.obj_slice (T := TStr) (xs := [w_order, w_by]) (RC.k1 rfl (RC.k1 rfl (RC.nil _ _))) rfl
  have e208 := e176.trans (hl175.trans hl202)
  obtain ⟨r204, hq205, h⟩ := bs h
  refine cal (c_writer_list_i4 hq205 hst (RC.mono hl202 hrc181) (RS.mono hl202 hv182) (RS.mono hl202 hv183) (RS.mono hl202 hv184) (RS.mono hl202 hv185) (RS.mono hl202 hv186) (RS.mono hl202 hv187) hs203 (Glob.mono e208 hG)) ?_
  rintro _ _ ⟨m206, A210, c211, cs212, v214, v215, v216, v217, v218, v219, rfl, hl207, hst, hrc213, hv214, hv215, hv216, hv217, hv218, hv219⟩
  obtain ⟨A220, c221, rfl⟩ := hv214.shape
  obtain ⟨A222, c223, rfl⟩ := hv215.shape
  obtain ⟨A224, c225, rfl⟩ := hv216.shape
  obtain ⟨A226, c227, rfl⟩ := hv217.shape
  obtain ⟨A228, c229, rfl⟩ := hv218.shape
  obtain ⟨A230, c231, rfl⟩ := hv219.shape
  refine nl (tn (qr (sg 3 [(62, vp b14 8), (63, vi r204.2.Limit), (64, vb (r204.2.Limit != 0))] [(ad b14 8, vi r204.2.Limit)] ⟨hst.c 3, trivial⟩ (nl (tn (cn h (fun h => ?_) (fun h => ?_)))))))
  ·refine qr (sg 1 [(65, vp ob0 0)] [(ad b13 0, vp ob0 0)] ⟨hst.c 2, trivial⟩ (li 9 1 [vstr w_limit] hst (fun b232 _ hst => ?_)))
   obtain ⟨m233, hl234, hst, hs235⟩ := hst.obj_slice (T := TStr) (xs := [w_limit]) (RC.k1 rfl (RC.nil _ _)) rfl
   have e240 := e208.trans (hl207.trans hl234)
   obtain ⟨r236, hq237, h⟩ := bs h
   refine cal (c_writer_words hq237 hst (RC.mono hl234 hrc213) hs235 (Glob.mono e240 hG)) ?_
   rintro _ _ ⟨m238, A242, c243, cs244, rfl, hl239, hst, hrc245⟩
   refine nl (tn (rg (sg 3 [(68, vp ob0 0), (69, vp b14 8), (70, vi r204.2.Limit)] [(ad b13 0, vp ob0 0), (ad b14 8, vi r204.2.Limit)] ⟨hst.c 2, hst.c 3, trivial⟩ ?_)))
   have e250 := e240.trans hl239
   obtain ⟨r246, hq247, h⟩ := bs h
   refine cal (c_writer_number hq247 hst hrc245 (Glob.mono e250 hG)) ?_
   rintro _ _ ⟨m248, A252, c253, cs254, rfl, hl249, hst, hrc255⟩
   refine nl (we [] ?_)
   have hst := pk26 hst
   have e256 := e250.trans hl249
   have h := Option.some.inj h; subst h
   exact ⟨_, rfl, m248, A252, c253, cs254, rfl, e256, hst, hrc255⟩
  refine wp_skip (we [] ?_)
  have hst := pk26 hst
  have e257 := e208.trans hl207
  cases h
  exact ⟨_, rfl, m206, A210, c211, cs212, rfl, e257, hst, hrc213⟩
 refine qr (sg 3 [(22, vp b14 3), (23, va (cGInterval r50.2.Slots)), (24, va [vi 0, vi 0])] [(ad b14 3, vi r50.2.Slots.From), (ad b14 4, vi r50.2.Slots.To)] ⟨hst.c 2, hst.c 2, trivial⟩ (vl (ran ((r50.2.Slots.From == 0) && ((r50.2.Slots.To == 0) && true)) (cGInterval r50.2.Slots) [vi 0, vi 0]) (nl (tn (cn h (fun h => ?_) (fun h => ?_))))))
 ·refine qr (sg 1 [(26, vp ob0 0)] [(ad b13 0, vp ob0 0)] ⟨hst.c 3, trivial⟩ (li 9 1 [vstr w_slots] hst (fun b258 _ hst => ?_)))
  obtain ⟨m259, hl260, hst, hs261⟩ := hst.obj_slice (T := TStr) (xs := [w_slots]) (RC.k1 rfl (RC.nil _ _)) rfl
  have e266 := e54.trans (hl53.trans hl260)
  obtain ⟨r262, hq263, h⟩ := bs h
  refine cal (c_writer_words hq263 hst (RC.mono hl260 hrc59) hs261 (Glob.mono e266 hG)) ?_
  rintro _ _ ⟨m264, A268, c269, cs270, rfl, hl265, hst, hrc271⟩
  refine nl (tn (qr (sg 4 [(29, vp ob0 0), (30, vp b14 3), (31, vp b14 3), (32, vi r50.2.Slots.From)] [(ad b13 0, vp ob0 0), (ad b14 3, vi r50.2.Slots.From)] ⟨hst.c 3, hst.c 2, trivial⟩ ?_)))
  have e276 := e266.trans hl265
  obtain ⟨r272, hq273, h⟩ := bs h
  refine cal (c_writer_number hq273 hst hrc271 (Glob.mono e276 hG)) ?_
  rintro _ _ ⟨m274, A278, c279, cs280, rfl, hl275, hst, hrc281⟩
  refine nl (tn (qr (sg 1 [(34, vp ob0 0)] [(ad b13 0, vp ob0 0)] ⟨hst.c 3, trivial⟩ ?_)))
  have e286 := e276.trans hl275
  obtain ⟨r282, hq283, h⟩ := bs h
  refine cal (c_writer_sign hq283 hst hrc281 (Glob.mono e286 hG)) ?_
  rintro _ _ ⟨m284, A288, c289, cs290, rfl, hl285, hst, hrc291⟩
  refine nl (tn (rg (sg 4 [(36, vp ob0 0), (37, vp b14 3), (38, vp b14 4), (39, vi r50.2.Slots.To)] [(ad b13 0, vp ob0 0), (ad b14 4, vi r50.2.Slots.To)] ⟨hst.c 3, hst.c 2, trivial⟩ ?_)))
  have e296 := e286.trans hl285
  obtain ⟨r292, hq293, h⟩ := bs h
  refine cal (c_writer_number hq293 hst hrc291 (Glob.mono e296 hG)) ?_
  rintro _ _ ⟨m294, A298, c299, cs300, rfl, hl295, hst, hrc301⟩
  refine nl (tn ?_)
  have e302 := hl260.trans (hl265.trans (hl275.trans (hl285.trans hl295)))
  exact ⟨_, k, m294, (r292.out), A298, c299, cs300, (r292.last.kind), (r292.last.at_), (r292.last.s_), (r292.last.n_), (act_upds ⟨by kernel_rfl, by kernel_rfl, trivial⟩), (by omega), h, e302, hst, hrc301⟩
 refine wp_skip (tn ?_)
 exact ⟨_, k, m52, (r50.1.out), A56, c57, cs58, (r50.1.last.kind), (r50.1.last.at_), (r50.1.last.s_), (r50.1.last.n_), (act_upds ⟨by kernel_rfl, by kernel_rfl, trivial⟩), (by omega), h, (Mem.le.refl _), hst, hrc59⟩

def R_syntax_Check (g : World) (m : Mem) (F : List Asr) (r : Int) (v : Value) (w' : World) : Prop := ∃ (m' : Mem), v = vi r ∧ m.le m' ∧ St g m' (F) w'
theorem c_syntax_Check {k : Nat} {a0 : GQuery} {r : Int} {g : World} {m : Mem} {F : List Asr} {w : World} {u0 : Value} {u1 : Value} {u2 : Value} {u3 : Value} {u4 : Value} {u5 : Value} (h : syntax_Check k a0 = some r) (hst : St g m (F) w) (hu0 : RS (TGVariable) m u0 a0.Variables) (hu1 : RS (TGRelation) m u1 a0.Relations) (hu2 : RS (TGAbsence) m u2 a0.Absences) (hu3 : RS (TGColumn) m u3 a0.Group) (hu4 : RS (TGAggregate) m u4 a0.Compute) (hu5 : RS (TGOrderKey) m u5 a0.Order) (hG : Glob m) :
    Calls Tryz.prog 30 ⟨[va (cGQuery a0 u0 u1 u2 u3 u4 u5)]⟩ w (OPost (R_syntax_Check g m F) r) := by
 refine calls_enter Tryz.func30 rfl rfl ?_
 unfold syntax_Check at h
 obtain ⟨A1, c2, rfl⟩ := hu0.shape
 obtain ⟨A3, c4, rfl⟩ := hu1.shape
 obtain ⟨A5, c6, rfl⟩ := hu2.shape
 obtain ⟨A7, c8, rfl⟩ := hu3.shape
 obtain ⟨A9, c10, rfl⟩ := hu4.shape
 obtain ⟨A11, c12, rfl⟩ := hu5.shape
 refine qr (bo_ (cGQuery a0 (vs A1 a0.Variables c2) (vs A3 a0.Relations c4) (vs A5 a0.Absences c6) (vs A7 a0.Group c8) (vs A9 a0.Compute c10) (vs A11 a0.Order c12)) hst (fun b13 _ hst => ?_))
 refine s0 1 [(2, vi 0)] (nl (tn (sq (qr (sg 1 [(6, va (cGQuery a0 (vs A1 a0.Variables c2) (vs A3 a0.Relations c4) (vs A5 a0.Absences c6) (vs A7 a0.Group c8) (vs A9 a0.Compute c10) (vs A11 a0.Order c12)))] [(ad b13 0, vs A1 a0.Variables c2), (ad b13 1, vs A3 a0.Relations c4), (ad b13 2, vs A5 a0.Absences c6), (ad b13 3, vi a0.Slots.From), (ad b13 4, vi a0.Slots.To), (ad b13 5, vs A7 a0.Group c8), (ad b13 6, vs A9 a0.Compute c10), (ad b13 7, vs A11 a0.Order c12), (ad b13 8, vi a0.Limit)] ⟨hst.c 0, hst.c 0, hst.c 0, hst.c 0, hst.c 0, hst.c 0, hst.c 0, hst.c 0, hst.c 0, trivial⟩ ?_)))))
 obtain ⟨r18, hq19, h⟩ := bs h
 refine cal (c_syntax_checkPattern hq19 hst hu0 hu1 hu2 hu3 hu4 hu5 hG) ?_
 rintro _ _ ⟨m20, rfl, hl21, hst⟩
 refine s0 1 [(3, vi r18)] (nl (tn (qr (s0 2 [(8, vi r18), (9, vb (r18 != 0))] (nl (tn (cn h (fun h => ?_) (fun h => ?_))))))))
 ·refine qr (s0 2 [(10, vi r18), (2, vi r18)] (nl (tn (wp_ret (tr (wr [vi r18] ?_))))))
  have hst := pk0 hst
  have h := Option.some.inj h; subst h
  exact ⟨_, rfl, m20, rfl, hl21, hst⟩
 refine wp_skip (tn (sq (qr (sg 1 [(11, va (cGQuery a0 (vs A1 a0.Variables c2) (vs A3 a0.Relations c4) (vs A5 a0.Absences c6) (vs A7 a0.Group c8) (vs A9 a0.Compute c10) (vs A11 a0.Order c12)))] [(ad b13 0, vs A1 a0.Variables c2), (ad b13 1, vs A3 a0.Relations c4), (ad b13 2, vs A5 a0.Absences c6), (ad b13 3, vi a0.Slots.From), (ad b13 4, vi a0.Slots.To), (ad b13 5, vs A7 a0.Group c8), (ad b13 6, vs A9 a0.Compute c10), (ad b13 7, vs A11 a0.Order c12), (ad b13 8, vi a0.Limit)] ⟨hst.c 0, hst.c 0, hst.c 0, hst.c 0, hst.c 0, hst.c 0, hst.c 0, hst.c 0, hst.c 0, trivial⟩ ?_))))
 obtain ⟨r26, hq27, h⟩ := bs h
 refine cal (c_syntax_checkResults hq27 hst (RS.mono hl21 hu0) (RS.mono hl21 hu1) (RS.mono hl21 hu2) (RS.mono hl21 hu3) (RS.mono hl21 hu4) (RS.mono hl21 hu5) (Glob.mono hl21 hG)) ?_
 rintro _ _ ⟨m28, rfl, hl29, hst⟩
 refine s0 1 [(4, vi r26)] (nl (tn (qr (s0 2 [(13, vi r26), (14, vb (r26 != 0))] (nl (tn (cn h (fun h => ?_) (fun h => ?_))))))))
 ·refine qr (s0 2 [(15, vi r26), (2, vi r26)] (nl (tn (wp_ret (tr (wr [vi r26] ?_))))))
  have hst := pk0 hst
  have e30 := hl21.trans hl29
  have h := Option.some.inj h; subst h
  exact ⟨_, rfl, m28, rfl, e30, hst⟩
 refine wp_skip (tn (qr (al [vn, vi 0, vi 0, vstr w_0, vi 0] hst (fun b31 _ hst => ?_))))
 have hrc33 := RC.nil (TInt .u8) m28
 have hst := hst.nil_row 5 1
 refine nl (tn (qr (sg 1 [(16, va (cGQuery a0 (vs A1 a0.Variables c2) (vs A3 a0.Relations c4) (vs A5 a0.Absences c6) (vs A7 a0.Group c8) (vs A9 a0.Compute c10) (vs A11 a0.Order c12)))] [(ad b13 0, vs A1 a0.Variables c2), (ad b13 1, vs A3 a0.Relations c4), (ad b13 2, vs A5 a0.Absences c6), (ad b13 3, vi a0.Slots.From), (ad b13 4, vi a0.Slots.To), (ad b13 5, vs A7 a0.Group c8), (ad b13 6, vs A9 a0.Compute c10), (ad b13 7, vs A11 a0.Order c12), (ad b13 8, vi a0.Limit)] ⟨hst.c 2, hst.c 2, hst.c 2, hst.c 2, hst.c 2, hst.c 2, hst.c 2, hst.c 2, hst.c 2, trivial⟩ ?_)))
 have e34 := hl21.trans hl29
 have hst := pk1 hst
 obtain ⟨r35, hq36, h⟩ := bs h
 refine cal (c_writer_query hq36 hst hrc33 (RS.mono e34 hu0) (RS.mono e34 hu1) (RS.mono e34 hu2) (RS.mono e34 hu3) (RS.mono e34 hu4) (RS.mono e34 hu5) (Glob.mono e34 hG)) ?_
 rintro _ _ ⟨m37, A40, c41, cs42, rfl, hl38, hst, hrc43⟩
 refine nl (tn (sq (qr (sg 4 [(18, vp b31 0), (19, vs A40 r35.out c41), (20, vi ((r35.out).length : Int)), (21, vb (decide (((r35.out).length : Int) > 4096)))] [(ad b31 0, vs A40 r35.out c41)] ⟨hst.c 0, trivial⟩ (nl (tn (cn h (fun h => ?_) (fun h => ?_))))))))
 ·refine qr ?_
  have hst := pk27 hst
  refine s0 1 [(2, vi 5)] (nl (tn (wp_ret (tr (wr [vi 5] ?_)))))
  have e44 := e34.trans hl38
  have h := Option.some.inj h; subst h
  exact ⟨_, rfl, m37, rfl, e44, hst⟩
 refine wp_skip (tn (qr ?_))
 have hst := pk27 hst
 refine s0 1 [(2, vi 0)] (nl (tn (wp_ret (wr [vi 0] ?_))))
 have e45 := e34.trans hl38
 have h := Option.some.inj h; subst h
 exact ⟨_, rfl, m37, rfl, e45, hst⟩

def R_syntax_Parse (g : World) (m : Mem) (F : List Asr) (r : GQuery × Int × Int) (v : Value) (w' : World) : Prop := ∃ (m' : Mem) (v0 : Value) (v1 : Value) (v2 : Value) (v3 : Value) (v4 : Value) (v5 : Value), v = vt [va (cGQuery r.1 v0 v1 v2 v3 v4 v5), vi r.2.1, vi r.2.2] ∧ m.le m' ∧ St g m' (F) w' ∧ RS (TGVariable) m' v0 r.1.Variables ∧ RS (TGRelation) m' v1 r.1.Relations ∧ RS (TGAbsence) m' v2 r.1.Absences ∧ RS (TGColumn) m' v3 r.1.Group ∧ RS (TGAggregate) m' v4 r.1.Compute ∧ RS (TGOrderKey) m' v5 r.1.Order
theorem c_syntax_Parse {k : Nat} {a0 : Str} {r : GQuery × Int × Int} {g : World} {m : Mem} {F : List Asr} {w : World} (h : syntax_Parse k a0 = some r) (hst : St g m (F) w) (hG : Glob m) :
    Calls Tryz.prog 19 ⟨[vstr a0]⟩ w (OPost (R_syntax_Parse g m F) r) := by
 refine calls_enter Tryz.func19 rfl rfl ?_
 unfold syntax_Parse at h
 refine qr (al [vn, vn, vn, vi 0, vi 0, vn, vn, vn, vi 0] hst (fun b1 _ hst => ?_))
 have hrc3 := RC.nil (TGVariable) m
 have hst := hst.nil_row 95 8
 have hrc5 := RC.nil (TGRelation) m
 have hst := hst.nil_row 104 3
 have hrc7 := RC.nil (TGAbsence) m
 have hst := hst.nil_row 106 11
 have hrc9 := RC.nil (TGColumn) m
 have hst := hst.nil_row 101 3
 have hrc11 := RC.nil (TGAggregate) m
 have hst := hst.nil_row 110 6
 have hrc13 := RC.nil (TGOrderKey) m
 have hst := hst.nil_row 112 2
 refine s0 2 [(3, vi 0), (4, vi 0)] (nl (tn (sq (qr (s0 2 [(7, vstr a0), (8, vf 48 [] [vp b1 0])] ?_)))))
 have hst := pk24 hst
 obtain ⟨r37, hq38, h⟩ := bs h
 refine cal (c_syntax_parse hq38 hst hrc3 hrc5 hrc7 hrc9 hrc11 hrc13 hG) ?_
 rintro _ _ ⟨m39, v41, v42, v43, v44, v45, v46, rfl, hl40, hst, hv41, hv42, hv43, hv44, hv45, hv46⟩
 obtain ⟨A47, c48, rfl⟩ := hv41.shape
 obtain ⟨A49, c50, rfl⟩ := hv42.shape
 obtain ⟨A51, c52, rfl⟩ := hv43.shape
 obtain ⟨A53, c54, rfl⟩ := hv44.shape
 obtain ⟨A55, c56, rfl⟩ := hv45.shape
 obtain ⟨A57, c58, rfl⟩ := hv46.shape
 refine al [vi 0, vi 0] hst (fun b59 _ hst => ?_)
 refine so0 0 (cSFailure r37.2) (cSFailure r37.2) hst (fun _ hst => ?_)
 refine nl (tn (qr (sg 3 [(10, vp b59 1), (11, vi r37.2.e_), (12, vb (r37.2.e_ != 0))] [(ad b59 1, vi r37.2.e_)] ⟨hst.c 0, trivial⟩ (nl (tn (cn h (fun h => ?_) (fun h => ?_)))))))
 ·refine sq (wc_draw false (fun x => Rd m39 (oo b59 84 (cSFailure r37.2) :: []) x) (by kernel_rfl) ?_)
  have hst := hst.drew
  refine wpG_seg [0, 1, 3, 2, 4] [(13, va [vn, vn, vn, vi 0, vi 0, vn, vn, vn, vi 0]), (14, vp b59 0), (16, vp b59 1), (15, vi r37.2.at_), (17, vi r37.2.e_)] [(ad b59 0, vi r37.2.at_), (ad b59 1, vi r37.2.e_)] #[true, true, true, true, true, false, false, false] (fuel := 3) (PQ.then_ (PQ.then_ PQ.body)) (by kernel_rfl) (by kernel_rfl) (hst.rd.with_ 0 rfl (hst.rd.none_)) (fun x hx => ⟨hx.c 0, hx.c 0, trivial⟩) ?_
  refine wpG_exec 5 (by kernel_rfl) rfl (so1 0 [vn, vn, vn, vi 0, vi 0, vn, vn, vn, vi 0] [vn, vn, vn, vi 0, vi 0, vn, vn, vn, vi 0] hst (fun _ hst => ?_))
  refine nl (tn (⟨_, fun _ h => h, .inr (hst.rd.with_ 0 rfl (hst.rd.none_)), ?_⟩))
  refine wpG_seg [6] [(3, vi r37.2.at_)] [] #[true, true, true, true, true, true, true, false] (fuel := 1) (PQ.then_ (PQ.then_ PQ.body)) (by kernel_rfl) (by kernel_rfl) (hst.rd.with_ 0 rfl (hst.rd.none_)) (fun x hx => trivial) ?_
  refine wpG_exec 7 (by kernel_rfl) rfl (sg 1 [(4, vi r37.2.e_)] [] trivial (nl (tn (⟨_, fun _ h => h, .inl ⟨rfl, allListed_of _ (by kernel_rfl)⟩, ?_⟩))))
  refine wpG_done (by kernel_rfl) (tn (wp_ret (tr (wrr [va [vn, vn, vn, vi 0, vi 0, vn, vn, vn, vi 0], vi r37.2.at_, vi r37.2.e_] [(ad b1 0, vn), (ad b1 1, vn), (ad b1 2, vn), (ad b1 3, vi 0), (ad b1 4, vi 0), (ad b1 5, vn), (ad b1 6, vn), (ad b1 7, vn), (ad b1 8, vi 0)] ⟨hst.c 1, hst.c 1, hst.c 1, hst.c 1, hst.c 1, hst.c 1, hst.c 1, hst.c 1, hst.c 1, trivial⟩ ?_))))
  have hst := pk2 hst
  cases h
  exact ⟨_, rfl, m39, (vn), (vn), (vn), (vn), (vn), (vn), rfl, hl40, hst, (RS.nil _ _), (RS.nil _ _), (RS.nil _ _), (RS.nil _ _), (RS.nil _ _), (RS.nil _ _)⟩
 refine wp_skip (tn (sq (qr (sg 1 [(18, va (cGQuery r37.1 (vs A47 r37.1.Variables c48) (vs A49 r37.1.Relations c50) (vs A51 r37.1.Absences c52) (vs A53 r37.1.Group c54) (vs A55 r37.1.Compute c56) (vs A57 r37.1.Order c58)))] [(ad b1 0, vs A47 r37.1.Variables c48), (ad b1 1, vs A49 r37.1.Relations c50), (ad b1 2, vs A51 r37.1.Absences c52), (ad b1 3, vi r37.1.Slots.From), (ad b1 4, vi r37.1.Slots.To), (ad b1 5, vs A53 r37.1.Group c54), (ad b1 6, vs A55 r37.1.Compute c56), (ad b1 7, vs A57 r37.1.Order c58), (ad b1 8, vi r37.1.Limit)] ⟨hst.c 1, hst.c 1, hst.c 1, hst.c 1, hst.c 1, hst.c 1, hst.c 1, hst.c 1, hst.c 1, trivial⟩ ?_))))
 obtain ⟨r60, hq61, h⟩ := bs h
 refine cal (c_syntax_Check hq61 hst hv41 hv42 hv43 hv44 hv45 hv46 (Glob.mono hl40 hG)) ?_
 rintro _ _ ⟨m62, rfl, hl63, hst⟩
 refine s0 1 [(6, vi r60)] (nl (tn (qr (s0 2 [(20, vi r60), (21, vb (r60 != 0))] (nl (tn (cn h (fun h => ?_) (fun h => ?_))))))))
 ·refine qr (s0 2 [(22, va [vn, vn, vn, vi 0, vi 0, vn, vn, vn, vi 0]), (23, vi r60)] (so1 0 [vn, vn, vn, vi 0, vi 0, vn, vn, vn, vi 0] [vn, vn, vn, vi 0, vi 0, vn, vn, vn, vi 0] hst (fun _ hst => ?_)))
  refine s0 2 [(3, vi 0), (4, vi r60)] (nl (tn (wp_ret (tr (wrr [va [vn, vn, vn, vi 0, vi 0, vn, vn, vn, vi 0], vi 0, vi r60] [(ad b1 0, vn), (ad b1 1, vn), (ad b1 2, vn), (ad b1 3, vi 0), (ad b1 4, vi 0), (ad b1 5, vn), (ad b1 6, vn), (ad b1 7, vn), (ad b1 8, vi 0)] ⟨hst.c 1, hst.c 1, hst.c 1, hst.c 1, hst.c 1, hst.c 1, hst.c 1, hst.c 1, hst.c 1, trivial⟩ ?_)))))
  have hst := pk2 hst
  have e64 := hl40.trans hl63
  cases h
  exact ⟨_, rfl, m62, (vn), (vn), (vn), (vn), (vn), (vn), rfl, e64, hst, (RS.nil _ _), (RS.nil _ _), (RS.nil _ _), (RS.nil _ _), (RS.nil _ _), (RS.nil _ _)⟩
 refine wp_skip (tn (qr (sg 1 [(24, va (cGQuery r37.1 (vs A47 r37.1.Variables c48) (vs A49 r37.1.Relations c50) (vs A51 r37.1.Absences c52) (vs A53 r37.1.Group c54) (vs A55 r37.1.Compute c56) (vs A57 r37.1.Order c58)))] [(ad b1 0, vs A47 r37.1.Variables c48), (ad b1 1, vs A49 r37.1.Relations c50), (ad b1 2, vs A51 r37.1.Absences c52), (ad b1 3, vi r37.1.Slots.From), (ad b1 4, vi r37.1.Slots.To), (ad b1 5, vs A53 r37.1.Group c54), (ad b1 6, vs A55 r37.1.Compute c56), (ad b1 7, vs A57 r37.1.Order c58), (ad b1 8, vi r37.1.Limit)] ⟨hst.c 1, hst.c 1, hst.c 1, hst.c 1, hst.c 1, hst.c 1, hst.c 1, hst.c 1, hst.c 1, trivial⟩ (so1 0 (cGQuery r37.1 (vs A47 r37.1.Variables c48) (vs A49 r37.1.Relations c50) (vs A51 r37.1.Absences c52) (vs A53 r37.1.Group c54) (vs A55 r37.1.Compute c56) (vs A57 r37.1.Order c58)) (cGQuery r37.1 (vs A47 r37.1.Variables c48) (vs A49 r37.1.Relations c50) (vs A51 r37.1.Absences c52) (vs A53 r37.1.Group c54) (vs A55 r37.1.Compute c56) (vs A57 r37.1.Order c58)) hst (fun _ hst => ?_)))))
 refine s0 2 [(3, vi 0), (4, vi 0)] (nl (tn (wp_ret (wrr [va (cGQuery r37.1 (vs A47 r37.1.Variables c48) (vs A49 r37.1.Relations c50) (vs A51 r37.1.Absences c52) (vs A53 r37.1.Group c54) (vs A55 r37.1.Compute c56) (vs A57 r37.1.Order c58)), vi 0, vi 0] [(ad b1 0, vs A47 r37.1.Variables c48), (ad b1 1, vs A49 r37.1.Relations c50), (ad b1 2, vs A51 r37.1.Absences c52), (ad b1 3, vi r37.1.Slots.From), (ad b1 4, vi r37.1.Slots.To), (ad b1 5, vs A53 r37.1.Group c54), (ad b1 6, vs A55 r37.1.Compute c56), (ad b1 7, vs A57 r37.1.Order c58), (ad b1 8, vi r37.1.Limit)] ⟨hst.c 1, hst.c 1, hst.c 1, hst.c 1, hst.c 1, hst.c 1, hst.c 1, hst.c 1, hst.c 1, trivial⟩ ?_))))
 have hst := pk2 hst
 have e65 := hl40.trans hl63
 cases h
 exact ⟨_, rfl, m62, (vs A47 r37.1.Variables c48), (vs A49 r37.1.Relations c50), (vs A51 r37.1.Absences c52), (vs A53 r37.1.Group c54), (vs A55 r37.1.Compute c56), (vs A57 r37.1.Order c58), rfl, e65, hst, (RS.mono hl63 hv41), (RS.mono hl63 hv42), (RS.mono hl63 hv43), (RS.mono hl63 hv44), (RS.mono hl63 hv45), (RS.mono hl63 hv46)⟩

def R_syntax_Print (g : World) (m : Mem) (F : List Asr) (r : Str × Int) (v : Value) (w' : World) : Prop := ∃ (m' : Mem), v = vt [vstr r.1, vi r.2] ∧ m.le m' ∧ St g m' (F) w'
theorem c_syntax_Print {k : Nat} {a0 : GQuery} {r : Str × Int} {g : World} {m : Mem} {F : List Asr} {w : World} {u0 : Value} {u1 : Value} {u2 : Value} {u3 : Value} {u4 : Value} {u5 : Value} (h : syntax_Print k a0 = some r) (hst : St g m (F) w) (hu0 : RS (TGVariable) m u0 a0.Variables) (hu1 : RS (TGRelation) m u1 a0.Relations) (hu2 : RS (TGAbsence) m u2 a0.Absences) (hu3 : RS (TGColumn) m u3 a0.Group) (hu4 : RS (TGAggregate) m u4 a0.Compute) (hu5 : RS (TGOrderKey) m u5 a0.Order) (hG : Glob m) :
    Calls Tryz.prog 28 ⟨[va (cGQuery a0 u0 u1 u2 u3 u4 u5)]⟩ w (OPost (R_syntax_Print g m F) r) := by
 refine calls_enter Tryz.func28 rfl rfl ?_
 unfold syntax_Print at h
 obtain ⟨A1, c2, rfl⟩ := hu0.shape
 obtain ⟨A3, c4, rfl⟩ := hu1.shape
 obtain ⟨A5, c6, rfl⟩ := hu2.shape
 obtain ⟨A7, c8, rfl⟩ := hu3.shape
 obtain ⟨A9, c10, rfl⟩ := hu4.shape
 obtain ⟨A11, c12, rfl⟩ := hu5.shape
 refine qr (bo_ (cGQuery a0 (vs A1 a0.Variables c2) (vs A3 a0.Relations c4) (vs A5 a0.Absences c6) (vs A7 a0.Group c8) (vs A9 a0.Compute c10) (vs A11 a0.Order c12)) hst (fun b13 _ hst => ?_))
 refine s0 2 [(2, vstr w_0), (3, vi 0)] (nl (tn (sq (qr (sg 1 [(6, va (cGQuery a0 (vs A1 a0.Variables c2) (vs A3 a0.Relations c4) (vs A5 a0.Absences c6) (vs A7 a0.Group c8) (vs A9 a0.Compute c10) (vs A11 a0.Order c12)))] [(ad b13 0, vs A1 a0.Variables c2), (ad b13 1, vs A3 a0.Relations c4), (ad b13 2, vs A5 a0.Absences c6), (ad b13 3, vi a0.Slots.From), (ad b13 4, vi a0.Slots.To), (ad b13 5, vs A7 a0.Group c8), (ad b13 6, vs A9 a0.Compute c10), (ad b13 7, vs A11 a0.Order c12), (ad b13 8, vi a0.Limit)] ⟨hst.c 0, hst.c 0, hst.c 0, hst.c 0, hst.c 0, hst.c 0, hst.c 0, hst.c 0, hst.c 0, trivial⟩ ?_)))))
 obtain ⟨r14, hq15, h⟩ := bs h
 refine cal (c_syntax_Check hq15 hst hu0 hu1 hu2 hu3 hu4 hu5 hG) ?_
 rintro _ _ ⟨m16, rfl, hl17, hst⟩
 refine s0 1 [(4, vi r14)] (nl (tn (qr (s0 2 [(8, vi r14), (9, vb (r14 != 0))] (nl (tn (cn h (fun h => ?_) (fun h => ?_))))))))
 ·refine qr (s0 3 [(10, vi r14), (2, vstr w_0), (3, vi r14)] (nl (tn (wp_ret (tr (wr [vstr w_0, vi r14] ?_))))))
  have hst := pk0 hst
  cases h
  exact ⟨_, rfl, m16, rfl, hl17, hst⟩
 refine wp_skip (tn (qr (al [vn, vi 0, vi 0, vstr w_0, vi 0] hst (fun b18 _ hst => ?_))))
 have hrc20 := RC.nil (TInt .u8) m16
 have hst := hst.nil_row 5 1
 refine nl (tn (qr (sg 1 [(11, va (cGQuery a0 (vs A1 a0.Variables c2) (vs A3 a0.Relations c4) (vs A5 a0.Absences c6) (vs A7 a0.Group c8) (vs A9 a0.Compute c10) (vs A11 a0.Order c12)))] [(ad b13 0, vs A1 a0.Variables c2), (ad b13 1, vs A3 a0.Relations c4), (ad b13 2, vs A5 a0.Absences c6), (ad b13 3, vi a0.Slots.From), (ad b13 4, vi a0.Slots.To), (ad b13 5, vs A7 a0.Group c8), (ad b13 6, vs A9 a0.Compute c10), (ad b13 7, vs A11 a0.Order c12), (ad b13 8, vi a0.Limit)] ⟨hst.c 2, hst.c 2, hst.c 2, hst.c 2, hst.c 2, hst.c 2, hst.c 2, hst.c 2, hst.c 2, trivial⟩ ?_)))
 have hst := pk1 hst
 obtain ⟨r21, hq22, h⟩ := bs h
 refine cal (c_writer_query hq22 hst hrc20 (RS.mono hl17 hu0) (RS.mono hl17 hu1) (RS.mono hl17 hu2) (RS.mono hl17 hu3) (RS.mono hl17 hu4) (RS.mono hl17 hu5) (Glob.mono hl17 hG)) ?_
 rintro _ _ ⟨m23, A26, c27, cs28, rfl, hl24, hst, hrc29⟩
 refine nl (tn (qr (sg 2 [(13, vp b18 0), (14, vs A26 r21.out c27)] [(ad b18 0, vs A26 r21.out c27)] ⟨hst.c 0, trivial⟩ (vl (cro hst.rd 1 hrc29) (s0 2 [(2, vstr (List.map (fun q : Int => UInt8.ofNat q.toNat) r21.out)), (3, vi 0)] ?_)))))
 refine nl (tn (wp_ret (wr [vstr (List.map (fun q : Int => UInt8.ofNat q.toNat) r21.out), vi 0] ?_)))
 have hst := pk27 hst
 have e30 := hl17.trans hl24
 cases h
 exact ⟨_, rfl, m23, rfl, e30, hst⟩

def R_syntax_ParsePred_c1 (g : World) (m : Mem) (F : List Asr) (ob0 : Nat) (ob1 : Nat) (r : SParser × GPred) (v : Value) (w' : World) : Prop := ∃ (m' : Mem) (v0 : Value), v = vt [] ∧ m.le m' ∧ St g m' (oo ob0 155 (cSParser r.1) :: oo ob1 44 (cGPred r.2 v0) :: F) w' ∧ RS (TGPred) m' v0 r.2.Args
theorem c_syntax_ParsePred_c1 {k : Nat} {a0 : SParser} {a1 : GPred} {r : Except Pan (SParser × GPred)} {g : World} {m : Mem} {F : List Asr} {w : World} {ob0 : Nat} {ob1 : Nat} {A1_ : Option Addr} {c1_ : Nat} {cs1_ : List Value} (h : syntax_ParsePred_c1 k a0 a1 = some r) (hst : St g m (oo ob0 155 (cSParser a0) :: oo ob1 44 (cGPred a1 (vs A1_ a1.Args c1_)) :: rw_ 44 7 A1_ a1.Args c1_ cs1_ :: F) w) (hrc1_ : RC (TGPred) m a1.Args cs1_) :
    Calls Tryz.prog 50 ⟨[vp ob0 0, vp ob1 0]⟩ w (XPost (R_syntax_ParsePred_c1 g m F ob0 ob1) g m (oo ob1 44 (cGPred a1 (vs A1_ a1.Args c1_)) :: rw_ 44 7 A1_ a1.Args c1_ cs1_ :: F) r) := by
 refine calls_enter Tryz.func50 rfl rfl ?_
 unfold syntax_ParsePred_c1 at h
 refine rg (s0 1 [(3, vp ob0 0)] ?_)
 rcases xbind_some h with ⟨p5, hq2, rfl⟩ | ⟨r1, hq2, h⟩
 ·exact cpa (c_parser_predicate hq2 hst) (fun _ _ hp => ⟨rfl, _, rfl, hp.p (Mem.le.refl _) 2 [0, 0]⟩)
 refine cal (c_parser_predicate hq2 hst) ?_
 rintro _ _ ⟨m3, v6, rfl, hl4, hst, hv6⟩
 obtain ⟨A7, c8, rfl⟩ := hv6.shape
 refine so1 0 (cGPred r1.2 (vs A7 r1.2.Args c8)) (cGPred r1.2 (vs A7 r1.2.Args c8)) hst (fun _ hst => ?_)
 refine nl (we [] ?_)
 have hst := pk28 hst
 cases h
 exact ⟨_, rfl, m3, (vs A7 r1.2.Args c8), rfl, hl4, hst, hv6⟩

def R_syntax_parse_i1 (g : World) (m : Mem) (F : List Asr) (ob1 : Nat) (r : GPred × SFailure) (v : Value) (w' : World) : Prop := ∃ (m' : Mem) (v0 : Value), v = va (cSFailure r.2) ∧ m.le m' ∧ St g m' (oo ob1 44 (cGPred r.1 v0) :: F) w' ∧ RS (TGPred) m' v0 r.1.Args
theorem c_syntax_parse_i1 {k : Nat} {a0 : Str} {a1 : GPred} {r : GPred × SFailure} {g : World} {m : Mem} {F : List Asr} {w : World} {ob1 : Nat} {A1_ : Option Addr} {c1_ : Nat} {cs1_ : List Value} (h : syntax_parse_i1 k a0 a1 = some r) (hst : St g m (oo ob1 44 (cGPred a1 (vs A1_ a1.Args c1_)) :: rw_ 44 7 A1_ a1.Args c1_ cs1_ :: F) w) (hrc1_ : RC (TGPred) m a1.Args cs1_) :
    Calls Tryz.prog 47 ⟨[vstr a0, vf 50 [] [vp ob1 0]]⟩ w (OPost (R_syntax_parse_i1 g m F ob1) r) := by
 refine calls_enter_d Tryz.func47 rfl rfl ?_
 unfold syntax_parse_i1 at h
 refine qr (al [vi 0, vi 0] hst (fun b1 _ hst => ?_))
 refine nl (tn (sq (qr (s0 3 [(6, vstr a0), (7, vi ((a0).length : Int)), (8, vb (decide (((a0).length : Int) > 4096)))] (nl (tn (cn h (fun h => ?_) (fun h => ?_))))))))
 ·refine qr (s0 1 [(9, va [vi 0, vi 5])] (so0 0 [vi 0, vi 5] [vi 0, vi 5] hst (fun _ hst => ?_)))
  refine nl (tn (wp_ret (tr ?_)))
  have hst := pk5 hst
  obtain ⟨m2, hl3, hst, hs4⟩ := hst.seal_row (T := TGPred) (xs := a1.Args) rfl hrc1_
  refine wc_ret_d0 [va [vi 0, vi 5]] [(ad b1 0, vi 0), (ad b1 1, vi 5)] (by kernel_rfl) ⟨hst.c 0, hst.c 0, trivial⟩ ?_
  have hst := pk0 hst
  cases h
  exact ⟨_, rfl, m2, (vs A1_ a1.Args c1_), rfl, hl3, hst, hs4⟩
 refine wp_skip (tn (qr (s0 1 [(10, vf 101 [] [vp b1 0])] (wl_defer (d := { target := .fn (.func 101) ⟨[vp b1 0]⟩, args := ⟨[]⟩ }) rfl (by kernel_rfl) (nl (tn (qr (s0 3 [(11, vstr a0), (12, va [vstr a0, vi 0]), (13, va [vstr a0, vi 0, vi 0, vi 0, vstr w_0, vi 0])] (bo_ [vstr a0, vi 0, vi 0, vi 0, vstr w_0, vi 0] hst (fun b5 _ hst => ?_))))))))))
 refine s0 1 [(5, vp b5 0)] (nl (tn (qr (s0 1 [(15, vp b5 0)] ?_))))
 rcases xcatch_some h with ⟨p10, hq7, h⟩ | ⟨r6, hq7, h⟩
 ·refine cpa (c_parser_advance hq7 hst) (fun _ _ hp => ?_)
  refine tp ?_
  obtain ⟨rfl, m8, hl9, hst⟩ := hp
  have hst := pk5 hst
  obtain ⟨m11, hl12, hst, hs13⟩ := hst.seal_row (T := TGPred) (xs := a1.Args) rfl (RC.mono hl9 hrc1_)
  refine wc_pan_rec (p := p10) (b := b1) hst (fun _ => rfl) ⟨[va [vi p10.1, vi p10.2]], [(ad b1 0, vi p10.1), (ad b1 1, vi p10.2)], (by kernel_rfl), fun w9 hst => ⟨⟨hst.c 0, hst.c 0, trivial⟩, ?_⟩⟩
  have hst := pk0 hst
  have e14 := hl9.trans hl12
  cases h
  exact ⟨_, rfl, m11, (vs A1_ a1.Args c1_), rfl, e14, hst, hs13⟩
 refine cal (c_parser_advance hq7 hst) ?_
 rintro _ _ ⟨m8, rfl, hl9, hst⟩
 refine nl (tn (qr (s0 2 [(17, vf 50 [] [vp ob1 0]), (18, vp b5 0)] ?_)))
 have hst := pk35 hst
 rcases xcatch_some h with ⟨p19, hq16, h⟩ | ⟨r15, hq16, h⟩
 ·refine cpa (c_syntax_ParsePred_c1 hq16 hst (RC.mono hl9 hrc1_)) (fun _ _ hp => ?_)
  refine tp ?_
  obtain ⟨rfl, m17, hl18, hst⟩ := hp
  have hst := pk1 hst
  have e23 := hl9.trans hl18
  obtain ⟨m20, hl21, hst, hs22⟩ := hst.seal_row (T := TGPred) (xs := a1.Args) rfl (RC.mono e23 hrc1_)
  have hst := pk1 hst
  refine wc_pan_rec (p := p19) (b := b1) hst (fun _ => rfl) ⟨[va [vi p19.1, vi p19.2]], [(ad b1 0, vi p19.1), (ad b1 1, vi p19.2)], (by kernel_rfl), fun w9 hst => ⟨⟨hst.c 0, hst.c 0, trivial⟩, ?_⟩⟩
  have hst := pk0 hst
  have e24 := e23.trans hl21
  cases h
  exact ⟨_, rfl, m20, (vs A1_ a1.Args c1_), rfl, e24, hst, hs22⟩
 refine cal (c_syntax_ParsePred_c1 hq16 hst (RC.mono hl9 hrc1_)) ?_
 rintro _ _ ⟨m17, v25, rfl, hl18, hst, hv25⟩
 obtain ⟨A26, c27, rfl⟩ := hv25.shape
 refine nl (tn (sq (qr (sg 6 [(20, vp b5 0), (21, vp b5 0), (22, vp b5 2), (23, vp b5 2), (24, vi r15.1.t_.kind), (25, vb (r15.1.t_.kind != 0))] [(ad b5 2, vi r15.1.t_.kind)] ⟨hst.c 0, trivial⟩ (nl (tn (cn h (fun h => ?_) (fun h => ?_))))))))
 ·refine rg (s0 1 [(26, vp b5 0)] ?_)
  rcases xcatch_some h with ⟨p32, hq29, h⟩ | ⟨r28, hq29, h⟩
  ·refine cpa (c_parser_wrong hq29 hst) (fun _ _ hp => ?_)
   refine tp ?_
   obtain ⟨rfl, m30, hl31, hst⟩ := hp
   have hst := pk5 hst
   refine wc_pan_rec (p := p32) (b := b1) hst (fun _ => rfl) ⟨[va [vi p32.1, vi p32.2]], [(ad b1 0, vi p32.1), (ad b1 1, vi p32.2)], (by kernel_rfl), fun w9 hst => ⟨⟨hst.c 0, hst.c 0, trivial⟩, ?_⟩⟩
   have hst := pk2 hst
   have e33 := hl9.trans (hl18.trans hl31)
   cases h
   exact ⟨_, rfl, m30, (vs A26 r15.2.Args c27), rfl, e33, hst, (RS.mono hl31 hv25)⟩
  cases h
 refine wp_skip (tn (qr (s0 1 [(28, va [vi 0, vi 0])] (so2 0 [vi 0, vi 0] [vi 0, vi 0] hst (fun _ hst => ?_)))))
 refine nl (tn (wp_ret ((wc_ret_rec (b := b1) (fun _ => rfl)) [va [vi 0, vi 0]] [(ad b1 0, vi 0), (ad b1 1, vi 0)] (by kernel_rfl) ⟨hst.c 2, hst.c 2, trivial⟩ ?_)))
 have hst := pk15 hst
 have e34 := hl9.trans hl18
 cases h
 exact ⟨_, rfl, m17, (vs A26 r15.2.Args c27), rfl, e34, hst, hv25⟩

def R_syntax_ParsePred (g : World) (m : Mem) (F : List Asr) (r : GPred × Int × Int) (v : Value) (w' : World) : Prop := ∃ (m' : Mem) (v0 : Value), v = vt [va (cGPred r.1 v0), vi r.2.1, vi r.2.2] ∧ m.le m' ∧ St g m' (F) w' ∧ RS (TGPred) m' v0 r.1.Args
theorem c_syntax_ParsePred {k : Nat} {a0 : Str} {r : GPred × Int × Int} {g : World} {m : Mem} {F : List Asr} {w : World} (h : syntax_ParsePred k a0 = some r) (hst : St g m (F) w) :
    Calls Tryz.prog 20 ⟨[vstr a0]⟩ w (OPost (R_syntax_ParsePred g m F) r) := by
 refine calls_enter Tryz.func20 rfl rfl ?_
 unfold syntax_ParsePred at h
 refine qr (al [vi 0, vstr w_0, vstr w_0, vi 0, vstr w_0, vi 0, vn] hst (fun b1 _ hst => ?_))
 have hrc3 := RC.nil (TGPred) m
 have hst := hst.nil_row 44 7
 refine s0 2 [(3, vi 0), (4, vi 0)] (nl (tn (sq (qr (s0 2 [(7, vstr a0), (8, vf 50 [] [vp b1 0])] ?_)))))
 have hst := pk1 hst
 obtain ⟨r12, hq13, h⟩ := bs h
 refine cal (c_syntax_parse_i1 hq13 hst hrc3) ?_
 rintro _ _ ⟨m14, v16, rfl, hl15, hst, hv16⟩
 obtain ⟨A17, c18, rfl⟩ := hv16.shape
 refine al [vi 0, vi 0] hst (fun b19 _ hst => ?_)
 refine so0 0 (cSFailure r12.2) (cSFailure r12.2) hst (fun _ hst => ?_)
 refine nl (tn (qr (sg 3 [(10, vp b19 1), (11, vi r12.2.e_), (12, vb (r12.2.e_ != 0))] [(ad b19 1, vi r12.2.e_)] ⟨hst.c 0, trivial⟩ (nl (tn (cn h (fun h => ?_) (fun h => ?_)))))))
 ·refine sq (wc_draw false (fun x => Rd m14 (oo b19 84 (cSFailure r12.2) :: []) x) (by kernel_rfl) ?_)
  have hst := hst.drew
  refine wpG_seg [0, 1, 3, 2, 4] [(13, va [vi 0, vstr w_0, vstr w_0, vi 0, vstr w_0, vi 0, vn]), (14, vp b19 0), (16, vp b19 1), (15, vi r12.2.at_), (17, vi r12.2.e_)] [(ad b19 0, vi r12.2.at_), (ad b19 1, vi r12.2.e_)] #[true, true, true, true, true, false, false, false] (fuel := 3) (PQ.then_ (PQ.then_ PQ.body)) (by kernel_rfl) (by kernel_rfl) (hst.rd.with_ 0 rfl (hst.rd.none_)) (fun x hx => ⟨hx.c 0, hx.c 0, trivial⟩) ?_
  refine wpG_exec 5 (by kernel_rfl) rfl (so1 0 [vi 0, vstr w_0, vstr w_0, vi 0, vstr w_0, vi 0, vn] [vi 0, vstr w_0, vstr w_0, vi 0, vstr w_0, vi 0, vn] hst (fun _ hst => ?_))
  refine nl (tn (⟨_, fun _ h => h, .inr (hst.rd.with_ 0 rfl (hst.rd.none_)), ?_⟩))
  refine wpG_seg [6] [(3, vi r12.2.at_)] [] #[true, true, true, true, true, true, true, false] (fuel := 1) (PQ.then_ (PQ.then_ PQ.body)) (by kernel_rfl) (by kernel_rfl) (hst.rd.with_ 0 rfl (hst.rd.none_)) (fun x hx => trivial) ?_
  refine wpG_exec 7 (by kernel_rfl) rfl (sg 1 [(4, vi r12.2.e_)] [] trivial (nl (tn (⟨_, fun _ h => h, .inl ⟨rfl, allListed_of _ (by kernel_rfl)⟩, ?_⟩))))
  refine wpG_done (by kernel_rfl) (tn (wp_ret (tr (wrr [va [vi 0, vstr w_0, vstr w_0, vi 0, vstr w_0, vi 0, vn], vi r12.2.at_, vi r12.2.e_] [(ad b1 0, vi 0), (ad b1 1, vstr w_0), (ad b1 2, vstr w_0), (ad b1 3, vi 0), (ad b1 4, vstr w_0), (ad b1 5, vi 0), (ad b1 6, vn)] ⟨hst.c 1, hst.c 1, hst.c 1, hst.c 1, hst.c 1, hst.c 1, hst.c 1, trivial⟩ ?_))))
  have hst := pk2 hst
  cases h
  exact ⟨_, rfl, m14, (vn), rfl, hl15, hst, (RS.nil _ _)⟩
 refine wp_skip (tn (sq (qr (sg 1 [(18, va (cGPred r12.1 (vs A17 r12.1.Args c18)))] [(ad b1 0, vi r12.1.Op), (ad b1 1, vstr r12.1.Field), (ad b1 2, vstr r12.1.Key), (ad b1 3, vi r12.1.Value.Kind), (ad b1 4, vstr r12.1.Value.Text), (ad b1 5, vi r12.1.Value.Int), (ad b1 6, vs A17 r12.1.Args c18)] ⟨hst.c 1, hst.c 1, hst.c 1, hst.c 1, hst.c 1, hst.c 1, hst.c 1, trivial⟩ ?_))))
 obtain ⟨r20, hq21, h⟩ := bs h
 refine cal (c_syntax_CheckPred hq21 hst hv16) ?_
 rintro _ _ ⟨m22, rfl, hl23, hst⟩
 refine s0 1 [(6, vi r20)] (nl (tn (qr (s0 2 [(20, vi r20), (21, vb (r20 != 0))] (nl (tn (cn h (fun h => ?_) (fun h => ?_))))))))
 ·refine qr (s0 2 [(22, va [vi 0, vstr w_0, vstr w_0, vi 0, vstr w_0, vi 0, vn]), (23, vi r20)] (so1 0 [vi 0, vstr w_0, vstr w_0, vi 0, vstr w_0, vi 0, vn] [vi 0, vstr w_0, vstr w_0, vi 0, vstr w_0, vi 0, vn] hst (fun _ hst => ?_)))
  refine s0 2 [(3, vi 0), (4, vi r20)] (nl (tn (wp_ret (tr (wrr [va [vi 0, vstr w_0, vstr w_0, vi 0, vstr w_0, vi 0, vn], vi 0, vi r20] [(ad b1 0, vi 0), (ad b1 1, vstr w_0), (ad b1 2, vstr w_0), (ad b1 3, vi 0), (ad b1 4, vstr w_0), (ad b1 5, vi 0), (ad b1 6, vn)] ⟨hst.c 1, hst.c 1, hst.c 1, hst.c 1, hst.c 1, hst.c 1, hst.c 1, trivial⟩ ?_)))))
  have hst := pk2 hst
  have e24 := hl15.trans hl23
  cases h
  exact ⟨_, rfl, m22, (vn), rfl, e24, hst, (RS.nil _ _)⟩
 refine wp_skip (tn (qr (sg 1 [(24, va (cGPred r12.1 (vs A17 r12.1.Args c18)))] [(ad b1 0, vi r12.1.Op), (ad b1 1, vstr r12.1.Field), (ad b1 2, vstr r12.1.Key), (ad b1 3, vi r12.1.Value.Kind), (ad b1 4, vstr r12.1.Value.Text), (ad b1 5, vi r12.1.Value.Int), (ad b1 6, vs A17 r12.1.Args c18)] ⟨hst.c 1, hst.c 1, hst.c 1, hst.c 1, hst.c 1, hst.c 1, hst.c 1, trivial⟩ (so1 0 (cGPred r12.1 (vs A17 r12.1.Args c18)) (cGPred r12.1 (vs A17 r12.1.Args c18)) hst (fun _ hst => ?_)))))
 refine s0 2 [(3, vi 0), (4, vi 0)] (nl (tn (wp_ret (wrr [va (cGPred r12.1 (vs A17 r12.1.Args c18)), vi 0, vi 0] [(ad b1 0, vi r12.1.Op), (ad b1 1, vstr r12.1.Field), (ad b1 2, vstr r12.1.Key), (ad b1 3, vi r12.1.Value.Kind), (ad b1 4, vstr r12.1.Value.Text), (ad b1 5, vi r12.1.Value.Int), (ad b1 6, vs A17 r12.1.Args c18)] ⟨hst.c 1, hst.c 1, hst.c 1, hst.c 1, hst.c 1, hst.c 1, hst.c 1, trivial⟩ ?_))))
 have hst := pk2 hst
 have e25 := hl15.trans hl23
 cases h
 exact ⟨_, rfl, m22, (vs A17 r12.1.Args c18), rfl, e25, hst, (RS.mono hl23 hv16)⟩

def R_syntax_PrintPred (g : World) (m : Mem) (F : List Asr) (r : Str × Int) (v : Value) (w' : World) : Prop := ∃ (m' : Mem), v = vt [vstr r.1, vi r.2] ∧ m.le m' ∧ St g m' (F) w'
theorem c_syntax_PrintPred {k : Nat} {a0 : GPred} {r : Str × Int} {g : World} {m : Mem} {F : List Asr} {w : World} {u0 : Value} (h : syntax_PrintPred k a0 = some r) (hst : St g m (F) w) (hu0 : RS (TGPred) m u0 a0.Args) (hG : Glob m) :
    Calls Tryz.prog 33 ⟨[va (cGPred a0 u0)]⟩ w (OPost (R_syntax_PrintPred g m F) r) := by
 refine calls_enter Tryz.func33 rfl rfl ?_
 unfold syntax_PrintPred at h
 obtain ⟨A1, c2, rfl⟩ := hu0.shape
 refine qr (bo_ (cGPred a0 (vs A1 a0.Args c2)) hst (fun b3 _ hst => ?_))
 refine s0 2 [(2, vstr w_0), (3, vi 0)] (nl (tn (sq (qr (sg 1 [(6, va (cGPred a0 (vs A1 a0.Args c2)))] [(ad b3 0, vi a0.Op), (ad b3 1, vstr a0.Field), (ad b3 2, vstr a0.Key), (ad b3 3, vi a0.Value.Kind), (ad b3 4, vstr a0.Value.Text), (ad b3 5, vi a0.Value.Int), (ad b3 6, vs A1 a0.Args c2)] ⟨hst.c 0, hst.c 0, hst.c 0, hst.c 0, hst.c 0, hst.c 0, hst.c 0, trivial⟩ ?_)))))
 obtain ⟨r4, hq5, h⟩ := bs h
 refine cal (c_syntax_CheckPred hq5 hst hu0) ?_
 rintro _ _ ⟨m6, rfl, hl7, hst⟩
 refine s0 1 [(4, vi r4)] (nl (tn (qr (s0 2 [(8, vi r4), (9, vb (r4 != 0))] (nl (tn (cn h (fun h => ?_) (fun h => ?_))))))))
 ·refine qr (s0 3 [(10, vi r4), (2, vstr w_0), (3, vi r4)] (nl (tn (wp_ret (tr (wr [vstr w_0, vi r4] ?_))))))
  have hst := pk0 hst
  cases h
  exact ⟨_, rfl, m6, rfl, hl7, hst⟩
 refine wp_skip (tn (qr (al [vn, vi 0, vi 0, vstr w_0, vi 0] hst (fun b8 _ hst => ?_))))
 have hrc10 := RC.nil (TInt .u8) m6
 have hst := hst.nil_row 5 1
 refine nl (tn (qr (sg 1 [(11, va (cGPred a0 (vs A1 a0.Args c2)))] [(ad b3 0, vi a0.Op), (ad b3 1, vstr a0.Field), (ad b3 2, vstr a0.Key), (ad b3 3, vi a0.Value.Kind), (ad b3 4, vstr a0.Value.Text), (ad b3 5, vi a0.Value.Int), (ad b3 6, vs A1 a0.Args c2)] ⟨hst.c 2, hst.c 2, hst.c 2, hst.c 2, hst.c 2, hst.c 2, hst.c 2, trivial⟩ ?_)))
 have hst := pk1 hst
 obtain ⟨r11, hq12, h⟩ := bs h
 refine cal (c_writer_pred hq12 hst hrc10 (RS.mono hl7 hu0) (Glob.mono hl7 hG)) ?_
 rintro _ _ ⟨m13, A16, c17, cs18, rfl, hl14, hst, hrc19⟩
 refine nl (tn (qr (sg 2 [(13, vp b8 0), (14, vs A16 r11.out c17)] [(ad b8 0, vs A16 r11.out c17)] ⟨hst.c 0, trivial⟩ (vl (cro hst.rd 1 hrc19) (s0 2 [(2, vstr (List.map (fun q : Int => UInt8.ofNat q.toNat) r11.out)), (3, vi 0)] ?_)))))
 refine nl (tn (wp_ret (wr [vstr (List.map (fun q : Int => UInt8.ofNat q.toNat) r11.out), vi 0] ?_)))
 have hst := pk27 hst
 have e20 := hl7.trans hl14
 cases h
 exact ⟨_, rfl, m13, rfl, e20, hst⟩

def R_l36_known (g : World) (m : Mem) (F : List Asr) (r : Bool) (v : Value) (w' : World) : Prop := ∃ (m' : Mem), v = vb r ∧ m.le m' ∧ St g m' (F) w'
theorem c_l36_known {k : Nat} {r : Bool} {g : World} {m : Mem} {F : List Asr} {w : World} (h : l36_known k = some r) (hst : St g m (F) w) (hG : Glob m) :
    Calls Tryz.prog 14 ⟨[]⟩ w (OPost (R_l36_known g m F) r) := by
 refine calls_enter Tryz.func14 rfl rfl ?_
 unfold l36_known at h
 refine qr (s0 1 [(0, vb false)] (nl (tn (qr ?_))))
 obtain ⟨r1, hq2, h⟩ := bs h
 refine cal (c_syntax_Parse hq2 hst hG) ?_
 rintro _ _ ⟨m3, v5, v6, v7, v8, v9, v10, rfl, hl4, hst, hv5, hv6, hv7, hv8, hv9, hv10⟩
 obtain ⟨A11, c12, rfl⟩ := hv5.shape
 obtain ⟨A13, c14, rfl⟩ := hv6.shape
 obtain ⟨A15, c16, rfl⟩ := hv7.shape
 obtain ⟨A17, c18, rfl⟩ := hv8.shape
 obtain ⟨A19, c20, rfl⟩ := hv9.shape
 obtain ⟨A21, c22, rfl⟩ := hv10.shape
 refine s0 4 [(14, vt [va (cGQuery r1.1 (vs A11 r1.1.Variables c12) (vs A13 r1.1.Relations c14) (vs A15 r1.1.Absences c16) (vs A17 r1.1.Group c18) (vs A19 r1.1.Compute c20) (vs A21 r1.1.Order c22)), vi r1.2.1, vi r1.2.2]), (16, va (cGQuery r1.1 (vs A11 r1.1.Variables c12) (vs A13 r1.1.Relations c14) (vs A15 r1.1.Absences c16) (vs A17 r1.1.Group c18) (vs A19 r1.1.Compute c20) (vs A21 r1.1.Order c22))), (17, vi r1.2.1), (18, vi r1.2.2)] (al [vn, vn, vn, vi 0, vi 0, vn, vn, vn, vi 0] hst (fun b23 _ hst => ?_))
 have hrc25 := RC.nil (TGVariable) m3
 have hst := hst.nil_row 95 8
 have hrc27 := RC.nil (TGRelation) m3
 have hst := hst.nil_row 104 3
 have hrc29 := RC.nil (TGAbsence) m3
 have hst := hst.nil_row 106 11
 have hrc31 := RC.nil (TGColumn) m3
 have hst := hst.nil_row 101 3
 have hrc33 := RC.nil (TGAggregate) m3
 have hst := hst.nil_row 110 6
 have hrc35 := RC.nil (TGOrderKey) m3
 have hst := hst.nil_row 112 2
 refine so6 0 (cGQuery r1.1 (vs A11 r1.1.Variables c12) (vs A13 r1.1.Relations c14) (vs A15 r1.1.Absences c16) (vs A17 r1.1.Group c18) (vs A19 r1.1.Compute c20) (vs A21 r1.1.Order c22)) (cGQuery r1.1 (vs A11 r1.1.Variables c12) (vs A13 r1.1.Relations c14) (vs A15 r1.1.Absences c16) (vs A17 r1.1.Group c18) (vs A19 r1.1.Compute c20) (vs A21 r1.1.Order c22)) hst (fun _ hst => ?_)
 refine s0 2 [(2, vi r1.2.1), (3, vi r1.2.2)] (nl (tn (qr ?_)))
 have hst := pk34 hst
 refine sg 1 [(20, va (cGQuery r1.1 (vs A11 r1.1.Variables c12) (vs A13 r1.1.Relations c14) (vs A15 r1.1.Absences c16) (vs A17 r1.1.Group c18) (vs A19 r1.1.Compute c20) (vs A21 r1.1.Order c22)))] [(ad b23 0, vs A11 r1.1.Variables c12), (ad b23 1, vs A13 r1.1.Relations c14), (ad b23 2, vs A15 r1.1.Absences c16), (ad b23 3, vi r1.1.Slots.From), (ad b23 4, vi r1.1.Slots.To), (ad b23 5, vs A17 r1.1.Group c18), (ad b23 6, vs A19 r1.1.Compute c20), (ad b23 7, vs A21 r1.1.Order c22), (ad b23 8, vi r1.1.Limit)] ⟨hst.c 0, hst.c 0, hst.c 0, hst.c 0, hst.c 0, hst.c 0, hst.c 0, hst.c 0, hst.c 0, trivial⟩ ?_
 obtain ⟨r36, hq37, h⟩ := bs h
 refine cal (c_syntax_Print hq37 hst hv5 hv6 hv7 hv8 hv9 hv10 (Glob.mono hl4 hG)) ?_
 rintro _ _ ⟨m38, rfl, hl39, hst⟩
 refine s0 5 [(19, vt [vstr r36.1, vi r36.2]), (22, vstr r36.1), (23, vi r36.2), (4, vstr r36.1), (5, vi r36.2)] (nl (tn (qr ?_)))
 obtain ⟨r40, hq41, h⟩ := bs h
 refine cal (c_syntax_ParsePred hq41 hst) ?_
 rintro _ _ ⟨m42, v44, rfl, hl43, hst, hv44⟩
 obtain ⟨A45, c46, rfl⟩ := hv44.shape
 refine s0 4 [(24, vt [va (cGPred r40.1 (vs A45 r40.1.Args c46)), vi r40.2.1, vi r40.2.2]), (26, va (cGPred r40.1 (vs A45 r40.1.Args c46))), (27, vi r40.2.1), (28, vi r40.2.2)] (al [vi 0, vstr w_0, vstr w_0, vi 0, vstr w_0, vi 0, vn] hst (fun b47 _ hst => ?_))
 have hrc49 := RC.nil (TGPred) m42
 have hst := hst.nil_row 44 7
 refine so1 0 (cGPred r40.1 (vs A45 r40.1.Args c46)) (cGPred r40.1 (vs A45 r40.1.Args c46)) hst (fun _ hst => ?_)
 refine s0 2 [(7, vi r40.2.1), (8, vi r40.2.2)] (nl (tn (qr ?_)))
 have hst := pk15 hst
 have e54 := hl4.trans (hl39.trans hl43)
 obtain ⟨r50, hq51, h⟩ := bs h
 refine cal (c_syntax_Parse hq51 hst (Glob.mono e54 hG)) ?_
 rintro _ _ ⟨m52, v55, v56, v57, v58, v59, v60, rfl, hl53, hst, hv55, hv56, hv57, hv58, hv59, hv60⟩
 obtain ⟨A61, c62, rfl⟩ := hv55.shape
 obtain ⟨A63, c64, rfl⟩ := hv56.shape
 obtain ⟨A65, c66, rfl⟩ := hv57.shape
 obtain ⟨A67, c68, rfl⟩ := hv58.shape
 obtain ⟨A69, c70, rfl⟩ := hv59.shape
 obtain ⟨A71, c72, rfl⟩ := hv60.shape
 refine s0 4 [(29, vt [va (cGQuery r50.1 (vs A61 r50.1.Variables c62) (vs A63 r50.1.Relations c64) (vs A65 r50.1.Absences c66) (vs A67 r50.1.Group c68) (vs A69 r50.1.Compute c70) (vs A71 r50.1.Order c72)), vi r50.2.1, vi r50.2.2]), (31, va (cGQuery r50.1 (vs A61 r50.1.Variables c62) (vs A63 r50.1.Relations c64) (vs A65 r50.1.Absences c66) (vs A67 r50.1.Group c68) (vs A69 r50.1.Compute c70) (vs A71 r50.1.Order c72))), (32, vi r50.2.1), (33, vi r50.2.2)] (al [vn, vn, vn, vi 0, vi 0, vn, vn, vn, vi 0] hst (fun b73 _ hst => ?_))
 have hrc75 := RC.nil (TGVariable) m52
 have hst := hst.nil_row 95 8
 have hrc77 := RC.nil (TGRelation) m52
 have hst := hst.nil_row 104 3
 have hrc79 := RC.nil (TGAbsence) m52
 have hst := hst.nil_row 106 11
 have hrc81 := RC.nil (TGColumn) m52
 have hst := hst.nil_row 101 3
 have hrc83 := RC.nil (TGAggregate) m52
 have hst := hst.nil_row 110 6
 have hrc85 := RC.nil (TGOrderKey) m52
 have hst := hst.nil_row 112 2
 refine so6 0 (cGQuery r50.1 (vs A61 r50.1.Variables c62) (vs A63 r50.1.Relations c64) (vs A65 r50.1.Absences c66) (vs A67 r50.1.Group c68) (vs A69 r50.1.Compute c70) (vs A71 r50.1.Order c72)) (cGQuery r50.1 (vs A61 r50.1.Variables c62) (vs A63 r50.1.Relations c64) (vs A65 r50.1.Absences c66) (vs A67 r50.1.Group c68) (vs A69 r50.1.Compute c70) (vs A71 r50.1.Order c72)) hst (fun _ hst => ?_)
 refine s0 2 [(10, vi r50.2.1), (11, vi r50.2.2)] (nl (tn (qr ?_)))
 have hst := pk36 hst
 refine sg 1 [(35, va (cGPred r40.1 (vs A45 r40.1.Args c46)))] [(ad b47 0, vi r40.1.Op), (ad b47 1, vstr r40.1.Field), (ad b47 2, vstr r40.1.Key), (ad b47 3, vi r40.1.Value.Kind), (ad b47 4, vstr r40.1.Value.Text), (ad b47 5, vi r40.1.Value.Int), (ad b47 6, vs A45 r40.1.Args c46)] ⟨hst.c 0, hst.c 0, hst.c 0, hst.c 0, hst.c 0, hst.c 0, hst.c 0, trivial⟩ ?_
 have e90 := e54.trans hl53
 obtain ⟨r86, hq87, h⟩ := bs h
 refine cal (c_syntax_PrintPred hq87 hst (RS.mono hl53 hv44) (Glob.mono e90 hG)) ?_
 rintro _ _ ⟨m88, rfl, hl89, hst⟩
 refine s0 5 [(34, vt [vstr r86.1, vi r86.2]), (37, vstr r86.1), (38, vi r86.2), (12, vstr r86.1), (13, vi r86.2)] (nl (tn (qr (s0 3 [(39, vi r1.2.2), (40, vb (r1.2.2 == 0)), (41, vb (r1.2.2 == 0))] ?_))))
 rcases sp h with ⟨hc91, h⟩ | ⟨hc91, h⟩
 ·rw [hc91]
  refine s0 4 [(42, vi r1.2.1), (43, vb (r1.2.1 == 0)), (44, vb (r1.2.1 == 0)), (45, vb (r1.2.1 == 0))] ?_
  rcases sp h with ⟨hc92, h⟩ | ⟨hc92, h⟩
  ·rw [hc92]
   refine s0 4 [(46, vi r36.2), (47, vb (r36.2 == 0)), (48, vb (r36.2 == 0)), (49, vb (r36.2 == 0))] ?_
   rcases sp h with ⟨hc93, h⟩ | ⟨hc93, h⟩
   ·rw [hc93]
    refine s0 1 [(50, vstr r36.1)] (vl (re r36.1 wt48) (s0 2 [(52, vb (r36.1 == wt48)), (53, vb (r36.1 == wt48))] ?_))
    rcases sp h with ⟨hc94, h⟩ | ⟨hc94, h⟩
    ·rw [hc94]
     refine s0 4 [(54, vi r40.2.2), (55, vb (r40.2.2 == 0)), (56, vb (r40.2.2 == 0)), (57, vb (r40.2.2 == 0))] ?_
     rcases sp h with ⟨hc95, h⟩ | ⟨hc95, h⟩
     ·rw [hc95]
      refine s0 4 [(58, vi r86.2), (59, vb (r86.2 == 0)), (60, vb (r86.2 == 0)), (61, vb (r86.2 == 0))] ?_
      rcases sp h with ⟨hc96, h⟩ | ⟨hc96, h⟩
      ·rw [hc96]
       refine s0 1 [(62, vstr r86.1)] (vl (re r86.1 wt49) (s0 2 [(64, vb (r86.1 == wt49)), (65, vb (r86.1 == wt49))] ?_))
       rcases sp h with ⟨hc97, h⟩ | ⟨hc97, h⟩
       ·rw [hc97]
        refine s0 4 [(66, vi r50.2.1), (67, vb (r50.2.1 == 5)), (68, vb (r50.2.1 == 5)), (69, vb (r50.2.1 == 5))] ?_
        rcases sp h with ⟨hc98, h⟩ | ⟨hc98, h⟩
        ·rw [hc98]
         refine s0 4 [(70, vi r50.2.2), (71, vb (r50.2.2 == 14)), (72, vb (r50.2.2 == 14)), (0, vb (r50.2.2 == 14))] (nl (tn (wp_ret (wr [vb (r50.2.2 == 14)] ?_))))
         have hst := pk0 hst
         have e99 := e90.trans hl89
         cases h
         exact ⟨_, rfl, m88, rfl, e99, hst⟩
        rw [hc98]
        refine s0 4 [(70, undef), (71, undef), (72, vb false), (0, vb false)] (nl (tn (wp_ret (wr [vb false] ?_))))
        have hst := pk0 hst
        have e100 := e90.trans hl89
        have h := Option.some.inj h; subst h
        exact ⟨_, rfl, m88, rfl, e100, hst⟩
       rw [hc97]
       refine s0 8 [(66, undef), (67, undef), (68, vb false), (69, vb false), (70, undef), (71, undef), (72, vb false), (0, vb false)] (nl (tn (wp_ret (wr [vb false] ?_))))
       have hst := pk0 hst
       have e101 := e90.trans hl89
       have h := Option.some.inj h; subst h
       exact ⟨_, rfl, m88, rfl, e101, hst⟩
      rw [hc96]
      refine s0 12 [(62, undef), (63, undef), (64, vb false), (65, vb false), (66, undef), (67, undef), (68, vb false), (69, vb false), (70, undef), (71, undef), (72, vb false), (0, vb false)] (nl (tn (wp_ret (wr [vb false] ?_))))
      have hst := pk0 hst
      have e102 := e90.trans hl89
      have h := Option.some.inj h; subst h
      exact ⟨_, rfl, m88, rfl, e102, hst⟩
     rw [hc95]
     refine s0 16 [(58, undef), (59, undef), (60, vb false), (61, vb false), (62, undef), (63, undef), (64, vb false), (65, vb false), (66, undef), (67, undef), (68, vb false), (69, vb false), (70, undef), (71, undef), (72, vb false), (0, vb false)] (nl (tn (wp_ret (wr [vb false] ?_))))
     have hst := pk0 hst
     have e103 := e90.trans hl89
     have h := Option.some.inj h; subst h
     exact ⟨_, rfl, m88, rfl, e103, hst⟩
    rw [hc94]
    refine s0 20 [(54, undef), (55, undef), (56, vb false), (57, vb false), (58, undef), (59, undef), (60, vb false), (61, vb false), (62, undef), (63, undef), (64, vb false), (65, vb false), (66, undef), (67, undef), (68, vb false), (69, vb false), (70, undef), (71, undef), (72, vb false), (0, vb false)] (nl (tn (wp_ret (wr [vb false] ?_))))
    have hst := pk0 hst
    have e104 := e90.trans hl89
    have h := Option.some.inj h; subst h
    exact ⟨_, rfl, m88, rfl, e104, hst⟩
   rw [hc93]
   refine s0 24 [(50, undef), (51, undef), (52, vb false), (53, vb false), (54, undef), (55, undef), (56, vb false), (57, vb false), (58, undef), (59, undef), (60, vb false), (61, vb false), (62, undef), (63, undef), (64, vb false), (65, vb false), (66, undef), (67, undef), (68, vb false), (69, vb false), (70, undef), (71, undef), (72, vb false), (0, vb false)] (nl (tn (wp_ret (wr [vb false] ?_))))
   have hst := pk0 hst
   have e105 := e90.trans hl89
   have h := Option.some.inj h; subst h
   exact ⟨_, rfl, m88, rfl, e105, hst⟩
  rw [hc92]
  refine s0 28 [(46, undef), (47, undef), (48, vb false), (49, vb false), (50, undef), (51, undef), (52, vb false), (53, vb false), (54, undef), (55, undef), (56, vb false), (57, vb false), (58, undef), (59, undef), (60, vb false), (61, vb false), (62, undef), (63, undef), (64, vb false), (65, vb false), (66, undef), (67, undef), (68, vb false), (69, vb false), (70, undef), (71, undef), (72, vb false), (0, vb false)] (nl (tn (wp_ret (wr [vb false] ?_))))
  have hst := pk0 hst
  have e106 := e90.trans hl89
  have h := Option.some.inj h; subst h
  exact ⟨_, rfl, m88, rfl, e106, hst⟩
 rw [hc91]
 refine s0 32 [(42, undef), (43, undef), (44, vb false), (45, vb false), (46, undef), (47, undef), (48, vb false), (49, vb false), (50, undef), (51, undef), (52, vb false), (53, vb false), (54, undef), (55, undef), (56, vb false), (57, vb false), (58, undef), (59, undef), (60, vb false), (61, vb false), (62, undef), (63, undef), (64, vb false), (65, vb false), (66, undef), (67, undef), (68, vb false), (69, vb false), (70, undef), (71, undef), (72, vb false), (0, vb false)] (nl (tn (wp_ret (wr [vb false] ?_))))
 have hst := pk0 hst
 have e107 := e90.trans hl89
 have h := Option.some.inj h; subst h
 exact ⟨_, rfl, m88, rfl, e107, hst⟩

end Go.Proofs.YtfnaahkgegfbnaaGreatDoor
