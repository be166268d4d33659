/- Contracts of Go functions. Written by a program of this session. -/
import Derived.Test.YtfnaahkgegfbnaaGreatDoorPK
import Derived.Test.YtfnaahkgegfbnaaGreatDoorShelf
import Derived.Test.YtfnaahkgegfbnaaGreatDoorDa
import Derived.Test.YtfnaahkgegfbnaaGreatDoorGa0
set_option linter.unusedVariables false
set_option linter.unusedSimpArgs false
set_option maxRecDepth 10000
namespace Go.Proofs.YtfnaahkgegfbnaaGreatDoor

def R_parser_query (g : World) (m : Mem) (F : List Asr) (ob0 : Nat) (r : SParser × GQuery) (v : Value) (w' : World) : Prop := ∃ (m' : Mem) (v0 : Value) (v1 : Value) (v2 : Value) (v3 : Value) (v4 : Value) (v5 : Value), v = va (cGQuery r.2 v0 v1 v2 v3 v4 v5) ∧ m.le m' ∧ St g m' (oo ob0 155 (cSParser r.1) :: F) w' ∧ RS (TGVariable) m' v0 r.2.Variables ∧ RS (TGRelation) m' v1 r.2.Relations ∧ RS (TGAbsence) m' v2 r.2.Absences ∧ RS (TGColumn) m' v3 r.2.Group ∧ RS (TGAggregate) m' v4 r.2.Compute ∧ RS (TGOrderKey) m' v5 r.2.Order
theorem c_parser_query {k : Nat} {a0 : SParser} {r : Except Pan (SParser × GQuery)} {g : World} {m : Mem} {F : List Asr} {w : World} {ob0 : Nat} (h : parser_query k a0 = some r) (hst : St g m (oo ob0 155 (cSParser a0) :: F) w) (hG : Glob m) :
    Calls Tryz.prog 49 ⟨[vp ob0 0]⟩ w (XPost (R_parser_query g m F ob0) g m F r) := by
 refine calls_enter Tryz.func49 rfl rfl ?_
 unfold parser_query at h
 refine qr (bo_ [vp ob0 0] hst (fun b1 _ hst => ?_))
 refine al [vn, vn, vn, vi 0, vi 0, vn, vn, vn, vi 0] hst (fun b2 _ hst => ?_)
 have hrc4 := RC.nil (TGVariable) m
 have hst := hst.nil_row 95 8
 have hrc6 := RC.nil (TGRelation) m
 have hst := hst.nil_row 104 3
 have hrc8 := RC.nil (TGAbsence) m
 have hst := hst.nil_row 106 11
 have hrc10 := RC.nil (TGColumn) m
 have hst := hst.nil_row 101 3
 have hrc12 := RC.nil (TGAggregate) m
 have hst := hst.nil_row 110 6
 have hrc14 := RC.nil (TGOrderKey) m
 have hst := hst.nil_row 112 2
 refine nl (tn (qr (al [vn, vn, vn, vi 0, vi 0, vn, vn, vn, vi 0] hst (fun b15 _ hst => ?_))))
 have hrc17 := RC.nil (TGVariable) m
 have hst := hst.nil_row 95 8
 have hrc19 := RC.nil (TGRelation) m
 have hst := hst.nil_row 104 3
 have hrc21 := RC.nil (TGAbsence) m
 have hst := hst.nil_row 106 11
 have hrc23 := RC.nil (TGColumn) m
 have hst := hst.nil_row 101 3
 have hrc25 := RC.nil (TGAggregate) m
 have hst := hst.nil_row 110 6
 have hrc27 := RC.nil (TGOrderKey) m
 have hst := hst.nil_row 112 2
 refine nl (tn (qr (sg 1 [(4, vp ob0 0)] [(ad b1 0, vp ob0 0)] ⟨hst.c 14, trivial⟩ ?_)))
 have hst := pk4 hst
 rcases xbind_some h with ⟨p32, hq29, rfl⟩ | ⟨r28, hq29, h⟩
 ·exact cpa (c_parser_need hq29 hst) (fun _ _ hp => ⟨rfl, _, rfl, hp.p (Mem.le.refl _) 15 []⟩)
 refine cal (c_parser_need hq29 hst) ?_
 rintro _ _ ⟨m30, rfl, hl31, hst⟩
 refine nl (tn (qr (sg 2 [(6, vp ob0 0), (7, vf 106 [] [vp b15 0, vp b1 0])] [(ad b1 0, vp ob0 0)] ⟨hst.c 15, trivial⟩ ?_)))
 have hst := pk13 hst
 rcases xbind_some h with ⟨p37, hq34, rfl⟩ | ⟨r33, hq34, h⟩
 ·exact cpa (c_parser_list hq34 hst (RC.mono hl31 hrc17) (RC.mono hl31 hrc19) (RC.mono hl31 hrc21) (RC.mono hl31 hrc23) (RC.mono hl31 hrc25) (RC.mono hl31 hrc27) (Glob.mono hl31 hG)) (fun _ _ hp => ⟨rfl, _, rfl, hp.p hl31 8 []⟩)
 refine cal (c_parser_list hq34 hst (RC.mono hl31 hrc17) (RC.mono hl31 hrc19) (RC.mono hl31 hrc21) (RC.mono hl31 hrc23) (RC.mono hl31 hrc25) (RC.mono hl31 hrc27) (Glob.mono hl31 hG)) ?_
 rintro _ _ ⟨m35, A44, c45, cs46, A48, c49, cs50, A52, c53, cs54, A56, c57, cs58, A60, c61, cs62, A64, c65, cs66, rfl, hl36, hst, hrc47, hrc51, hrc55, hrc59, hrc63, hrc67⟩
 refine nl (tn (wc_join (fun a w => ∃ (f0 : Fr) (k150 : Nat) (m152 : Mem) (x110 : List GVariable) (A111 : Option Addr) (c112 : Nat) (cs113 : List Value) (x115 : List GRelation) (A116 : Option Addr) (c117 : Nat) (cs118 : List Value) (x120 : List GAbsence) (A121 : Option Addr) (c122 : Nat) (cs123 : List Value) (x125 : List GColumn) (A126 : Option Addr) (c127 : Nat) (cs128 : List Value) (x130 : List GAggregate) (A131 : Option Addr) (c132 : Nat) (cs133 : List Value) (x135 : List GOrderKey) (A136 : Option Addr) (c137 : Nat) (cs138 : List Value) (x140 : Str) (x141 : Int) (x142 : Int) (x143 : Int) (x144 : Str) (x145 : Int) (x146 : Int) (x147 : Int) (x148 : Int), a = act Tryz.f49.ntmps (upds f0 [(1, vp b1 0), (2, vp b2 0), (3, vp b15 0)]) ∧ k150 ≤ k ∧ parser_query_j1 k150 x110 x115 x120 x125 x130 x135 x140 x141 x142 x143 x144 x145 x146 x147 x148 = some r ∧ m35.le m152 ∧ St g m152 (oo ob0 155 [vstr x140, vi x141, vi x142, vi x143, vstr x144, vi x145] :: oo b15 36 [vs A111 x110 c112, vs A116 x115 c117, vs A121 x120 c122, vi x146, vi x147, vs A126 x125 c127, vs A131 x130 c132, vs A136 x135 c137, vi x148] :: rw_ 95 8 A111 x110 c112 cs113 :: rw_ 104 3 A116 x115 c117 cs118 :: rw_ 106 11 A121 x120 c122 cs123 :: rw_ 101 3 A126 x125 c127 cs128 :: rw_ 110 6 A131 x130 c132 cs133 :: rw_ 112 2 A136 x135 c137 cs138 :: oo b1 86 [vp ob0 0] :: rn 112 2 :: rn 110 6 :: rn 101 3 :: rn 106 11 :: rn 104 3 :: rn 95 8 :: oo b2 36 [vn, vn, vn, vi 0, vi 0, vn, vn, vn, vi 0] :: F) w ∧ RC (TGVariable) m152 x110 cs113 ∧ RC (TGRelation) m152 x115 cs118 ∧ RC (TGAbsence) m152 x120 cs123 ∧ RC (TGColumn) m152 x125 cs128 ∧ RC (TGAggregate) m152 x130 cs133 ∧ RC (TGOrderKey) m152 x135 cs138) ?_ ?_))
 ·rintro _ _ ⟨f0, k150, m152, x110, A111, c112, cs113, x115, A116, c117, cs118, x120, A121, c122, cs123, x125, A126, c127, cs128, x130, A131, c132, cs133, x135, A136, c137, cs138, x140, x141, x142, x143, x144, x145, x146, x147, x148, rfl, hk151, h, hl149, hst, hrc114, hrc119, hrc124, hrc129, hrc134, hrc139⟩
  unfold parser_query_j1 at h
  refine wc_join (fun a w => ∃ (f0 : Fr) (k186 : Nat) (m188 : Mem) (x177 : Str) (x178 : Int) (x179 : Int) (x180 : Int) (x181 : Str) (x182 : Int) (x183 : Int) (x184 : Int), a = act Tryz.f49.ntmps (upds f0 [(1, vp b1 0), (2, vp b2 0), (3, vp b15 0)]) ∧ k186 ≤ k150 ∧ parser_query_j2 k186 x110 x115 x120 x125 x130 x135 x148 x177 x178 x179 x180 x181 x182 x183 x184 = some r ∧ m152.le m188 ∧ St g m188 (oo ob0 155 [vstr x177, vi x178, vi x179, vi x180, vstr x181, vi x182] :: oo b15 36 [vs A111 x110 c112, vs A116 x115 c117, vs A121 x120 c122, vi x183, vi x184, vs A126 x125 c127, vs A131 x130 c132, vs A136 x135 c137, vi x148] :: rw_ 95 8 A111 x110 c112 cs113 :: rw_ 104 3 A116 x115 c117 cs118 :: rw_ 106 11 A121 x120 c122 cs123 :: rw_ 101 3 A126 x125 c127 cs128 :: rw_ 110 6 A131 x130 c132 cs133 :: rw_ 112 2 A136 x135 c137 cs138 :: oo b1 86 [vp ob0 0] :: rn 112 2 :: rn 110 6 :: rn 101 3 :: rn 106 11 :: rn 104 3 :: rn 95 8 :: oo b2 36 [vn, vn, vn, vi 0, vi 0, vn, vn, vn, vi 0] :: F) w) ?_ ?_
  ·rintro _ _ ⟨f0, k186, m188, x177, x178, x179, x180, x181, x182, x183, x184, rfl, hk187, h, hl185, hst⟩
   unfold parser_query_j2 at h
   refine wc_join (fun a w => ∃ (f0 : Fr) (k278 : Nat) (m280 : Mem) (x238 : List GVariable) (A239 : Option Addr) (c240 : Nat) (cs241 : List Value) (x243 : List GRelation) (A244 : Option Addr) (c245 : Nat) (cs246 : List Value) (x248 : List GAbsence) (A249 : Option Addr) (c250 : Nat) (cs251 : List Value) (x253 : List GColumn) (A254 : Option Addr) (c255 : Nat) (cs256 : List Value) (x258 : List GAggregate) (A259 : Option Addr) (c260 : Nat) (cs261 : List Value) (x263 : List GOrderKey) (A264 : Option Addr) (c265 : Nat) (cs266 : List Value) (x268 : Str) (x269 : Int) (x270 : Int) (x271 : Int) (x272 : Str) (x273 : Int) (x274 : Int) (x275 : Int) (x276 : Int), a = act Tryz.f49.ntmps (upds f0 [(1, vp b1 0), (2, vp b2 0), (3, vp b15 0)]) ∧ k278 ≤ k186 ∧ parser_query_j3 k278 x238 x243 x248 x253 x258 x263 x268 x269 x270 x271 x272 x273 x274 x275 x276 = some r ∧ m188.le m280 ∧ St g m280 (oo ob0 155 [vstr x268, vi x269, vi x270, vi x271, vstr x272, vi x273] :: oo b15 36 [vs A239 x238 c240, vs A244 x243 c245, vs A249 x248 c250, vi x274, vi x275, vs A254 x253 c255, vs A259 x258 c260, vs A264 x263 c265, vi x276] :: rw_ 95 8 A239 x238 c240 cs241 :: rw_ 104 3 A244 x243 c245 cs246 :: rw_ 106 11 A249 x248 c250 cs251 :: rw_ 101 3 A254 x253 c255 cs256 :: rw_ 110 6 A259 x258 c260 cs261 :: rw_ 112 2 A264 x263 c265 cs266 :: oo b1 86 [vp ob0 0] :: rn 112 2 :: rn 110 6 :: rn 101 3 :: rn 106 11 :: rn 104 3 :: rn 95 8 :: oo b2 36 [vn, vn, vn, vi 0, vi 0, vn, vn, vn, vi 0] :: F) w ∧ RC (TGVariable) m280 x238 cs241 ∧ RC (TGRelation) m280 x243 cs246 ∧ RC (TGAbsence) m280 x248 cs251 ∧ RC (TGColumn) m280 x253 cs256 ∧ RC (TGAggregate) m280 x258 cs261 ∧ RC (TGOrderKey) m280 x263 cs266) ?_ ?_
   ·rintro _ _ ⟨f0, k278, m280, x238, A239, c240, cs241, x243, A244, c245, cs246, x248, A249, c250, cs251, x253, A254, c255, cs256, x258, A259, c260, cs261, x263, A264, c265, cs266, x268, x269, x270, x271, x272, x273, x274, x275, x276, rfl, hk279, h, hl277, hst, hrc242, hrc247, hrc252, hrc257, hrc262, hrc267⟩
    unfold parser_query_j3 at h
    refine wc_join (fun a w => ∃ (f0 : Fr) (k363 : Nat) (m365 : Mem) (x323 : List GVariable) (A324 : Option Addr) (c325 : Nat) (cs326 : List Value) (x328 : List GRelation) (A329 : Option Addr) (c330 : Nat) (cs331 : List Value) (x333 : List GAbsence) (A334 : Option Addr) (c335 : Nat) (cs336 : List Value) (x338 : List GColumn) (A339 : Option Addr) (c340 : Nat) (cs341 : List Value) (x343 : List GAggregate) (A344 : Option Addr) (c345 : Nat) (cs346 : List Value) (x348 : List GOrderKey) (A349 : Option Addr) (c350 : Nat) (cs351 : List Value) (x353 : Str) (x354 : Int) (x355 : Int) (x356 : Int) (x357 : Str) (x358 : Int) (x359 : Int) (x360 : Int) (x361 : Int), a = act Tryz.f49.ntmps (upds f0 [(1, vp b1 0), (2, vp b2 0), (3, vp b15 0)]) ∧ k363 ≤ k278 ∧ parser_query_j4 k363 x323 x328 x333 x338 x343 x348 x353 x354 x355 x356 x357 x358 x359 x360 x361 = some r ∧ m280.le m365 ∧ St g m365 (oo ob0 155 [vstr x353, vi x354, vi x355, vi x356, vstr x357, vi x358] :: oo b15 36 [vs A324 x323 c325, vs A329 x328 c330, vs A334 x333 c335, vi x359, vi x360, vs A339 x338 c340, vs A344 x343 c345, vs A349 x348 c350, vi x361] :: rw_ 95 8 A324 x323 c325 cs326 :: rw_ 104 3 A329 x328 c330 cs331 :: rw_ 106 11 A334 x333 c335 cs336 :: rw_ 101 3 A339 x338 c340 cs341 :: rw_ 110 6 A344 x343 c345 cs346 :: rw_ 112 2 A349 x348 c350 cs351 :: oo b1 86 [vp ob0 0] :: rn 112 2 :: rn 110 6 :: rn 101 3 :: rn 106 11 :: rn 104 3 :: rn 95 8 :: oo b2 36 [vn, vn, vn, vi 0, vi 0, vn, vn, vn, vi 0] :: F) w ∧ RC (TGVariable) m365 x323 cs326 ∧ RC (TGRelation) m365 x328 cs331 ∧ RC (TGAbsence) m365 x333 cs336 ∧ RC (TGColumn) m365 x338 cs341 ∧ RC (TGAggregate) m365 x343 cs346 ∧ RC (TGOrderKey) m365 x348 cs351) ?_ ?_
    ·rintro _ _ ⟨f0, k363, m365, x323, A324, c325, cs326, x328, A329, c330, cs331, x333, A334, c335, cs336, x338, A339, c340, cs341, x343, A344, c345, cs346, x348, A349, c350, cs351, x353, x354, x355, x356, x357, x358, x359, x360, x361, rfl, hk364, h, hl362, hst, hrc327, hrc332, hrc337, hrc342, hrc347, hrc352⟩
     unfold parser_query_j4 at h
     refine sq (qr (sg 1 [(38, vp ob0 0)] [(ad b1 0, vp ob0 0)] ⟨hst.c 8, trivial⟩ ?_))
     rcases xbind_some h with ⟨p370, hq367, rfl⟩ | ⟨r366, hq367, h⟩
     ·have e371 := hl31.trans (hl36.trans (hl149.trans (hl185.trans (hl277.trans hl362))))
      exact cpa (c_parser_takes hq367 hst) (fun _ _ hp => ⟨rfl, _, rfl, hp.p e371 15 []⟩)
     refine cal (c_parser_takes hq367 hst) ?_
     rintro _ _ ⟨m368, rfl, hl369, hst⟩
     refine nl (tn (cn h (fun h => ?_) (fun h => ?_)))
     ·refine qr (sg 1 [(40, vp ob0 0)] [(ad b1 0, vp ob0 0)] ⟨hst.c 8, trivial⟩ ?_)
      rcases xbind_some h with ⟨p376, hq373, rfl⟩ | ⟨r372, hq373, h⟩
      ·have e377 := hl31.trans (hl36.trans (hl149.trans (hl185.trans (hl277.trans (hl362.trans hl369)))))
       exact cpa (c_parser_need hq373 hst) (fun _ _ hp => ⟨rfl, _, rfl, hp.p e377 15 []⟩)
      refine cal (c_parser_need hq373 hst) ?_
      rintro _ _ ⟨m374, rfl, hl375, hst⟩
      refine nl (tn (rg (sg 2 [(42, vp ob0 0), (43, vf 116 [] [vp b1 0, vp b15 0])] [(ad b1 0, vp ob0 0)] ⟨hst.c 8, trivial⟩ ?_)))
      have e378 := hl369.trans hl375
      have hst := pk14 hst
      rcases xbind_some h with ⟨p383, hq380, rfl⟩ | ⟨r379, hq380, h⟩
      ·have e384 := hl31.trans (hl36.trans (hl149.trans (hl185.trans (hl277.trans (hl362.trans (hl369.trans hl375))))))
       exact cpa (c_parser_list_i4 hq380 hst (RC.mono e378 hrc327) (RC.mono e378 hrc332) (RC.mono e378 hrc337) (RC.mono e378 hrc342) (RC.mono e378 hrc347) (RC.mono e378 hrc352)) (fun _ _ hp => ⟨rfl, _, rfl, hp.p e384 8 []⟩)
      refine cal (c_parser_list_i4 hq380 hst (RC.mono e378 hrc327) (RC.mono e378 hrc332) (RC.mono e378 hrc337) (RC.mono e378 hrc342) (RC.mono e378 hrc347) (RC.mono e378 hrc352)) ?_
      rintro _ _ ⟨m381, A391, c392, cs393, A395, c396, cs397, A399, c400, cs401, A403, c404, cs405, A407, c408, cs409, A411, c412, cs413, rfl, hl382, hst, hrc394, hrc398, hrc402, hrc406, hrc410, hrc414⟩
      refine nl (tn (sq (qr (sg 1 [(45, vp ob0 0)] [(ad b1 0, vp ob0 0)] ⟨hst.c 1, trivial⟩ ?_))))
      rcases xbind_some h with ⟨p419, hq416, rfl⟩ | ⟨r415, hq416, h⟩
      ·have e420 := hl31.trans (hl36.trans (hl149.trans (hl185.trans (hl277.trans (hl362.trans (hl369.trans (hl375.trans hl382)))))))
       exact cpa (c_parser_takes hq416 hst) (fun _ _ hp => ⟨rfl, _, rfl, hp.p e420 15 []⟩)
      refine cal (c_parser_takes hq416 hst) ?_
      rintro _ _ ⟨m417, rfl, hl418, hst⟩
      refine nl (tn (cn h (fun h => ?_) (fun h => ?_)))
      ·refine rg (sg 1 [(47, vp ob0 0)] [(ad b1 0, vp ob0 0)] ⟨hst.c 1, trivial⟩ ?_)
       rcases xbind_some h with ⟨p425, hq422, rfl⟩ | ⟨r421, hq422, h⟩
       ·have e426 := hl31.trans (hl36.trans (hl149.trans (hl185.trans (hl277.trans (hl362.trans (hl369.trans (hl375.trans (hl382.trans hl418))))))))
        exact cpa (c_parser_int hq422 hst) (fun _ _ hp => ⟨rfl, _, rfl, hp.p e426 15 []⟩)
       refine cal (c_parser_int hq422 hst) ?_
       rintro _ _ ⟨m423, rfl, hl424, hst⟩
       refine s0 1 [(49, vp b15 8)] (so2 8 [vi r421.2] [vs A391 r379.2.Variables c392, vs A395 r379.2.Relations c396, vs A399 r379.2.Absences c400, vi r379.2.Slots.From, vi r379.2.Slots.To, vs A403 r379.2.Group c404, vs A407 r379.2.Compute c408, vs A411 r379.2.Order c412, vi r421.2] hst (fun _ hst => ?_))
       refine nl (tn (qr (sg 1 [(50, va [vs A391 r379.2.Variables c392, vs A395 r379.2.Relations c396, vs A399 r379.2.Absences c400, vi r379.2.Slots.From, vi r379.2.Slots.To, vs A403 r379.2.Group c404, vs A407 r379.2.Compute c408, vs A411 r379.2.Order c412, vi r421.2])] [(ad b15 0, vs A391 r379.2.Variables c392), (ad b15 1, vs A395 r379.2.Relations c396), (ad b15 2, vs A399 r379.2.Absences c400), (ad b15 3, vi r379.2.Slots.From), (ad b15 4, vi r379.2.Slots.To), (ad b15 5, vs A403 r379.2.Group c404), (ad b15 6, vs A407 r379.2.Compute c408), (ad b15 7, vs A411 r379.2.Order c412), (ad b15 8, vi r421.2)] ⟨hst.c 2, hst.c 2, hst.c 2, hst.c 2, hst.c 2, hst.c 2, hst.c 2, hst.c 2, hst.c 2, trivial⟩ (so15 0 [vs A391 r379.2.Variables c392, vs A395 r379.2.Relations c396, vs A399 r379.2.Absences c400, vi r379.2.Slots.From, vi r379.2.Slots.To, vs A403 r379.2.Group c404, vs A407 r379.2.Compute c408, vs A411 r379.2.Order c412, vi r421.2] [vs A391 r379.2.Variables c392, vs A395 r379.2.Relations c396, vs A399 r379.2.Absences c400, vi r379.2.Slots.From, vi r379.2.Slots.To, vs A403 r379.2.Group c404, vs A407 r379.2.Compute c408, vs A411 r379.2.Order c412, vi r421.2] hst (fun _ hst => ?_)))))
       refine nl (tn (wp_ret ?_))
       have hst := pk17 hst
       have e430 := hl418.trans hl424
       obtain ⟨m427, hl428, hst, hs429⟩ := hst.seal_row (T := TGVariable) (xs := r379.2.Variables) rfl (RC.mono e430 hrc394)
       have hst := pk17 hst
       have e434 := e430.trans hl428
       obtain ⟨m431, hl432, hst, hs433⟩ := hst.seal_row (T := TGRelation) (xs := r379.2.Relations) rfl (RC.mono e434 hrc398)
       have hst := pk17 hst
       have e438 := e434.trans hl432
       obtain ⟨m435, hl436, hst, hs437⟩ := hst.seal_row (T := TGAbsence) (xs := r379.2.Absences) rfl (RC.mono e438 hrc402)
       have hst := pk17 hst
       have e442 := e438.trans hl436
       obtain ⟨m439, hl440, hst, hs441⟩ := hst.seal_row (T := TGColumn) (xs := r379.2.Group) rfl (RC.mono e442 hrc406)
       have hst := pk17 hst
       have e446 := e442.trans hl440
       obtain ⟨m443, hl444, hst, hs445⟩ := hst.seal_row (T := TGAggregate) (xs := r379.2.Compute) rfl (RC.mono e446 hrc410)
       have hst := pk17 hst
       have e450 := e446.trans hl444
       obtain ⟨m447, hl448, hst, hs449⟩ := hst.seal_row (T := TGOrderKey) (xs := r379.2.Order) rfl (RC.mono e450 hrc414)
       refine wrr [va [vs A391 r379.2.Variables c392, vs A395 r379.2.Relations c396, vs A399 r379.2.Absences c400, vi r379.2.Slots.From, vi r379.2.Slots.To, vs A403 r379.2.Group c404, vs A407 r379.2.Compute c408, vs A411 r379.2.Order c412, vi r421.2]] [(ad b2 0, vs A391 r379.2.Variables c392), (ad b2 1, vs A395 r379.2.Relations c396), (ad b2 2, vs A399 r379.2.Absences c400), (ad b2 3, vi r379.2.Slots.From), (ad b2 4, vi r379.2.Slots.To), (ad b2 5, vs A403 r379.2.Group c404), (ad b2 6, vs A407 r379.2.Compute c408), (ad b2 7, vs A411 r379.2.Order c412), (ad b2 8, vi r421.2)] ⟨hst.c 9, hst.c 9, hst.c 9, hst.c 9, hst.c 9, hst.c 9, hst.c 9, hst.c 9, hst.c 9, trivial⟩ ?_
       have e451 := hl432.trans (hl436.trans (hl440.trans (hl444.trans hl448)))
       have e452 := hl436.trans (hl440.trans (hl444.trans hl448))
       have e453 := hl440.trans (hl444.trans hl448)
       have e454 := hl444.trans hl448
       have hst := pk18 hst
       have e455 := hl31.trans (hl36.trans (hl149.trans (hl185.trans (hl277.trans (hl362.trans (hl369.trans (hl375.trans (hl382.trans (hl418.trans (hl424.trans (hl428.trans (hl432.trans (hl436.trans (hl440.trans (hl444.trans hl448)))))))))))))))
       cases h
       exact ⟨_, rfl, m447, (vs A391 r379.2.Variables c392), (vs A395 r379.2.Relations c396), (vs A399 r379.2.Absences c400), (vs A403 r379.2.Group c404), (vs A407 r379.2.Compute c408), (vs A411 r379.2.Order c412), rfl, e455, hst, (RS.mono e451 hs429), (RS.mono e452 hs433), (RS.mono e453 hs437), (RS.mono e454 hs441), (RS.mono hl448 hs445), hs449⟩
      refine wp_skip (tn (qr (sg 1 [(50, va (cGQuery r379.2 (vs A391 r379.2.Variables c392) (vs A395 r379.2.Relations c396) (vs A399 r379.2.Absences c400) (vs A403 r379.2.Group c404) (vs A407 r379.2.Compute c408) (vs A411 r379.2.Order c412)))] [(ad b15 0, vs A391 r379.2.Variables c392), (ad b15 1, vs A395 r379.2.Relations c396), (ad b15 2, vs A399 r379.2.Absences c400), (ad b15 3, vi r379.2.Slots.From), (ad b15 4, vi r379.2.Slots.To), (ad b15 5, vs A403 r379.2.Group c404), (ad b15 6, vs A407 r379.2.Compute c408), (ad b15 7, vs A411 r379.2.Order c412), (ad b15 8, vi r379.2.Limit)] ⟨hst.c 2, hst.c 2, hst.c 2, hst.c 2, hst.c 2, hst.c 2, hst.c 2, hst.c 2, hst.c 2, trivial⟩ (so15 0 (cGQuery r379.2 (vs A391 r379.2.Variables c392) (vs A395 r379.2.Relations c396) (vs A399 r379.2.Absences c400) (vs A403 r379.2.Group c404) (vs A407 r379.2.Compute c408) (vs A411 r379.2.Order c412)) (cGQuery r379.2 (vs A391 r379.2.Variables c392) (vs A395 r379.2.Relations c396) (vs A399 r379.2.Absences c400) (vs A403 r379.2.Group c404) (vs A407 r379.2.Compute c408) (vs A411 r379.2.Order c412)) hst (fun _ hst => ?_)))))
      refine nl (tn (wp_ret ?_))
      have hst := pk17 hst
      obtain ⟨m456, hl457, hst, hs458⟩ := hst.seal_row (T := TGVariable) (xs := r379.2.Variables) rfl (RC.mono hl418 hrc394)
      have hst := pk17 hst
      have e462 := hl418.trans hl457
      obtain ⟨m459, hl460, hst, hs461⟩ := hst.seal_row (T := TGRelation) (xs := r379.2.Relations) rfl (RC.mono e462 hrc398)
      have hst := pk17 hst
      have e466 := e462.trans hl460
      obtain ⟨m463, hl464, hst, hs465⟩ := hst.seal_row (T := TGAbsence) (xs := r379.2.Absences) rfl (RC.mono e466 hrc402)
      have hst := pk17 hst
      have e470 := e466.trans hl464
      obtain ⟨m467, hl468, hst, hs469⟩ := hst.seal_row (T := TGColumn) (xs := r379.2.Group) rfl (RC.mono e470 hrc406)
      have hst := pk17 hst
      have e474 := e470.trans hl468
      obtain ⟨m471, hl472, hst, hs473⟩ := hst.seal_row (T := TGAggregate) (xs := r379.2.Compute) rfl (RC.mono e474 hrc410)
      have hst := pk17 hst
      have e478 := e474.trans hl472
      obtain ⟨m475, hl476, hst, hs477⟩ := hst.seal_row (T := TGOrderKey) (xs := r379.2.Order) rfl (RC.mono e478 hrc414)
      refine wrr [va (cGQuery r379.2 (vs A391 r379.2.Variables c392) (vs A395 r379.2.Relations c396) (vs A399 r379.2.Absences c400) (vs A403 r379.2.Group c404) (vs A407 r379.2.Compute c408) (vs A411 r379.2.Order c412))] [(ad b2 0, vs A391 r379.2.Variables c392), (ad b2 1, vs A395 r379.2.Relations c396), (ad b2 2, vs A399 r379.2.Absences c400), (ad b2 3, vi r379.2.Slots.From), (ad b2 4, vi r379.2.Slots.To), (ad b2 5, vs A403 r379.2.Group c404), (ad b2 6, vs A407 r379.2.Compute c408), (ad b2 7, vs A411 r379.2.Order c412), (ad b2 8, vi r379.2.Limit)] ⟨hst.c 9, hst.c 9, hst.c 9, hst.c 9, hst.c 9, hst.c 9, hst.c 9, hst.c 9, hst.c 9, trivial⟩ ?_
      have e479 := hl460.trans (hl464.trans (hl468.trans (hl472.trans hl476)))
      have e480 := hl464.trans (hl468.trans (hl472.trans hl476))
      have e481 := hl468.trans (hl472.trans hl476)
      have e482 := hl472.trans hl476
      have hst := pk18 hst
      have e483 := hl31.trans (hl36.trans (hl149.trans (hl185.trans (hl277.trans (hl362.trans (hl369.trans (hl375.trans (hl382.trans (hl418.trans (hl457.trans (hl460.trans (hl464.trans (hl468.trans (hl472.trans hl476))))))))))))))
      cases h
      exact ⟨_, rfl, m475, (vs A391 r379.2.Variables c392), (vs A395 r379.2.Relations c396), (vs A399 r379.2.Absences c400), (vs A403 r379.2.Group c404), (vs A407 r379.2.Compute c408), (vs A411 r379.2.Order c412), rfl, e483, hst, (RS.mono e479 hs458), (RS.mono e480 hs461), (RS.mono e481 hs465), (RS.mono e482 hs469), (RS.mono hl476 hs473), hs477⟩
     refine wp_skip (tn (sq (qr (sg 1 [(45, vp ob0 0)] [(ad b1 0, vp ob0 0)] ⟨hst.c 8, trivial⟩ ?_))))
     rcases xbind_some h with ⟨p488, hq485, rfl⟩ | ⟨r484, hq485, h⟩
     ·have e489 := hl31.trans (hl36.trans (hl149.trans (hl185.trans (hl277.trans (hl362.trans hl369)))))
      exact cpa (c_parser_takes hq485 hst) (fun _ _ hp => ⟨rfl, _, rfl, hp.p e489 15 []⟩)
     refine cal (c_parser_takes hq485 hst) ?_
     rintro _ _ ⟨m486, rfl, hl487, hst⟩
     refine nl (tn (cn h (fun h => ?_) (fun h => ?_)))
     ·refine rg (sg 1 [(47, vp ob0 0)] [(ad b1 0, vp ob0 0)] ⟨hst.c 8, trivial⟩ ?_)
      rcases xbind_some h with ⟨p494, hq491, rfl⟩ | ⟨r490, hq491, h⟩
      ·have e495 := hl31.trans (hl36.trans (hl149.trans (hl185.trans (hl277.trans (hl362.trans (hl369.trans hl487))))))
       exact cpa (c_parser_int hq491 hst) (fun _ _ hp => ⟨rfl, _, rfl, hp.p e495 15 []⟩)
      refine cal (c_parser_int hq491 hst) ?_
      rintro _ _ ⟨m492, rfl, hl493, hst⟩
      refine s0 1 [(49, vp b15 8)] (so1 8 [vi r490.2] [vs A324 x323 c325, vs A329 x328 c330, vs A334 x333 c335, vi x359, vi x360, vs A339 x338 c340, vs A344 x343 c345, vs A349 x348 c350, vi r490.2] hst (fun _ hst => ?_))
      refine nl (tn (qr (sg 1 [(50, va [vs A324 x323 c325, vs A329 x328 c330, vs A334 x333 c335, vi x359, vi x360, vs A339 x338 c340, vs A344 x343 c345, vs A349 x348 c350, vi r490.2])] [(ad b15 0, vs A324 x323 c325), (ad b15 1, vs A329 x328 c330), (ad b15 2, vs A334 x333 c335), (ad b15 3, vi x359), (ad b15 4, vi x360), (ad b15 5, vs A339 x338 c340), (ad b15 6, vs A344 x343 c345), (ad b15 7, vs A349 x348 c350), (ad b15 8, vi r490.2)] ⟨hst.c 1, hst.c 1, hst.c 1, hst.c 1, hst.c 1, hst.c 1, hst.c 1, hst.c 1, hst.c 1, trivial⟩ (so15 0 [vs A324 x323 c325, vs A329 x328 c330, vs A334 x333 c335, vi x359, vi x360, vs A339 x338 c340, vs A344 x343 c345, vs A349 x348 c350, vi r490.2] [vs A324 x323 c325, vs A329 x328 c330, vs A334 x333 c335, vi x359, vi x360, vs A339 x338 c340, vs A344 x343 c345, vs A349 x348 c350, vi r490.2] hst (fun _ hst => ?_)))))
      refine nl (tn (wp_ret ?_))
      have hst := pk5 hst
      have e499 := hl369.trans (hl487.trans hl493)
      obtain ⟨m496, hl497, hst, hs498⟩ := hst.seal_row (T := TGVariable) (xs := x323) rfl (RC.mono e499 hrc327)
      have hst := pk5 hst
      have e503 := e499.trans hl497
      obtain ⟨m500, hl501, hst, hs502⟩ := hst.seal_row (T := TGRelation) (xs := x328) rfl (RC.mono e503 hrc332)
      have hst := pk5 hst
      have e507 := e503.trans hl501
      obtain ⟨m504, hl505, hst, hs506⟩ := hst.seal_row (T := TGAbsence) (xs := x333) rfl (RC.mono e507 hrc337)
      have hst := pk5 hst
      have e511 := e507.trans hl505
      obtain ⟨m508, hl509, hst, hs510⟩ := hst.seal_row (T := TGColumn) (xs := x338) rfl (RC.mono e511 hrc342)
      have hst := pk5 hst
      have e515 := e511.trans hl509
      obtain ⟨m512, hl513, hst, hs514⟩ := hst.seal_row (T := TGAggregate) (xs := x343) rfl (RC.mono e515 hrc347)
      have hst := pk5 hst
      have e519 := e515.trans hl513
      obtain ⟨m516, hl517, hst, hs518⟩ := hst.seal_row (T := TGOrderKey) (xs := x348) rfl (RC.mono e519 hrc352)
      refine wrr [va [vs A324 x323 c325, vs A329 x328 c330, vs A334 x333 c335, vi x359, vi x360, vs A339 x338 c340, vs A344 x343 c345, vs A349 x348 c350, vi r490.2]] [(ad b2 0, vs A324 x323 c325), (ad b2 1, vs A329 x328 c330), (ad b2 2, vs A334 x333 c335), (ad b2 3, vi x359), (ad b2 4, vi x360), (ad b2 5, vs A339 x338 c340), (ad b2 6, vs A344 x343 c345), (ad b2 7, vs A349 x348 c350), (ad b2 8, vi r490.2)] ⟨hst.c 9, hst.c 9, hst.c 9, hst.c 9, hst.c 9, hst.c 9, hst.c 9, hst.c 9, hst.c 9, trivial⟩ ?_
      have e520 := hl501.trans (hl505.trans (hl509.trans (hl513.trans hl517)))
      have e521 := hl505.trans (hl509.trans (hl513.trans hl517))
      have e522 := hl509.trans (hl513.trans hl517)
      have e523 := hl513.trans hl517
      have hst := pk18 hst
      have e524 := hl31.trans (hl36.trans (hl149.trans (hl185.trans (hl277.trans (hl362.trans (hl369.trans (hl487.trans (hl493.trans (hl497.trans (hl501.trans (hl505.trans (hl509.trans (hl513.trans hl517)))))))))))))
      cases h
      exact ⟨_, rfl, m516, (vs A324 x323 c325), (vs A329 x328 c330), (vs A334 x333 c335), (vs A339 x338 c340), (vs A344 x343 c345), (vs A349 x348 c350), rfl, e524, hst, (RS.mono e520 hs498), (RS.mono e521 hs502), (RS.mono e522 hs506), (RS.mono e523 hs510), (RS.mono hl517 hs514), hs518⟩
     refine wp_skip (tn (qr (sg 1 [(50, va [vs A324 x323 c325, vs A329 x328 c330, vs A334 x333 c335, vi x359, vi x360, vs A339 x338 c340, vs A344 x343 c345, vs A349 x348 c350, vi x361])] [(ad b15 0, vs A324 x323 c325), (ad b15 1, vs A329 x328 c330), (ad b15 2, vs A334 x333 c335), (ad b15 3, vi x359), (ad b15 4, vi x360), (ad b15 5, vs A339 x338 c340), (ad b15 6, vs A344 x343 c345), (ad b15 7, vs A349 x348 c350), (ad b15 8, vi x361)] ⟨hst.c 1, hst.c 1, hst.c 1, hst.c 1, hst.c 1, hst.c 1, hst.c 1, hst.c 1, hst.c 1, trivial⟩ (so15 0 [vs A324 x323 c325, vs A329 x328 c330, vs A334 x333 c335, vi x359, vi x360, vs A339 x338 c340, vs A344 x343 c345, vs A349 x348 c350, vi x361] [vs A324 x323 c325, vs A329 x328 c330, vs A334 x333 c335, vi x359, vi x360, vs A339 x338 c340, vs A344 x343 c345, vs A349 x348 c350, vi x361] hst (fun _ hst => ?_)))))
     refine nl (tn (wp_ret ?_))
     have hst := pk5 hst
     have e528 := hl369.trans hl487
     obtain ⟨m525, hl526, hst, hs527⟩ := hst.seal_row (T := TGVariable) (xs := x323) rfl (RC.mono e528 hrc327)
     have hst := pk5 hst
     have e532 := e528.trans hl526
     obtain ⟨m529, hl530, hst, hs531⟩ := hst.seal_row (T := TGRelation) (xs := x328) rfl (RC.mono e532 hrc332)
     have hst := pk5 hst
     have e536 := e532.trans hl530
     obtain ⟨m533, hl534, hst, hs535⟩ := hst.seal_row (T := TGAbsence) (xs := x333) rfl (RC.mono e536 hrc337)
     have hst := pk5 hst
     have e540 := e536.trans hl534
     obtain ⟨m537, hl538, hst, hs539⟩ := hst.seal_row (T := TGColumn) (xs := x338) rfl (RC.mono e540 hrc342)
     have hst := pk5 hst
     have e544 := e540.trans hl538
     obtain ⟨m541, hl542, hst, hs543⟩ := hst.seal_row (T := TGAggregate) (xs := x343) rfl (RC.mono e544 hrc347)
     have hst := pk5 hst
     have e548 := e544.trans hl542
     obtain ⟨m545, hl546, hst, hs547⟩ := hst.seal_row (T := TGOrderKey) (xs := x348) rfl (RC.mono e548 hrc352)
     refine wrr [va [vs A324 x323 c325, vs A329 x328 c330, vs A334 x333 c335, vi x359, vi x360, vs A339 x338 c340, vs A344 x343 c345, vs A349 x348 c350, vi x361]] [(ad b2 0, vs A324 x323 c325), (ad b2 1, vs A329 x328 c330), (ad b2 2, vs A334 x333 c335), (ad b2 3, vi x359), (ad b2 4, vi x360), (ad b2 5, vs A339 x338 c340), (ad b2 6, vs A344 x343 c345), (ad b2 7, vs A349 x348 c350), (ad b2 8, vi x361)] ⟨hst.c 9, hst.c 9, hst.c 9, hst.c 9, hst.c 9, hst.c 9, hst.c 9, hst.c 9, hst.c 9, trivial⟩ ?_
     have e549 := hl530.trans (hl534.trans (hl538.trans (hl542.trans hl546)))
     have e550 := hl534.trans (hl538.trans (hl542.trans hl546))
     have e551 := hl538.trans (hl542.trans hl546)
     have e552 := hl542.trans hl546
     have hst := pk18 hst
     have e553 := hl31.trans (hl36.trans (hl149.trans (hl185.trans (hl277.trans (hl362.trans (hl369.trans (hl487.trans (hl526.trans (hl530.trans (hl534.trans (hl538.trans (hl542.trans hl546))))))))))))
     cases h
     exact ⟨_, rfl, m545, (vs A324 x323 c325), (vs A329 x328 c330), (vs A334 x333 c335), (vs A339 x338 c340), (vs A344 x343 c345), (vs A349 x348 c350), rfl, e553, hst, (RS.mono e549 hs527), (RS.mono e550 hs531), (RS.mono e551 hs535), (RS.mono e552 hs539), (RS.mono hl546 hs543), hs547⟩
    refine qr (sg 1 [(33, vp ob0 0)] [(ad b1 0, vp ob0 0)] ⟨hst.c 8, trivial⟩ ?_)
    rcases xbind_some h with ⟨p558, hq555, rfl⟩ | ⟨r554, hq555, h⟩
    ·have e559 := hl31.trans (hl36.trans (hl149.trans (hl185.trans hl277)))
     exact cpa (c_parser_takes hq555 hst) (fun _ _ hp => ⟨rfl, _, rfl, hp.p e559 15 []⟩)
    refine cal (c_parser_takes hq555 hst) ?_
    rintro _ _ ⟨m556, rfl, hl557, hst⟩
    refine nl (tn (cn h (fun h => ?_) (fun h => ?_)))
    ·refine rg (sg 2 [(35, vp ob0 0), (36, vf 114 [] [vp b15 0, vp b1 0])] [(ad b1 0, vp ob0 0)] ⟨hst.c 8, trivial⟩ ?_)
     have e564 := hl31.trans (hl36.trans (hl149.trans (hl185.trans (hl277.trans hl557))))
     rcases xbind_some h with ⟨p565, hq561, rfl⟩ | ⟨r560, hq561, h⟩
     ·exact cpa (c_parser_list_i3 hq561 hst (RC.mono hl557 hrc242) (RC.mono hl557 hrc247) (RC.mono hl557 hrc252) (RC.mono hl557 hrc257) (RC.mono hl557 hrc262) (RC.mono hl557 hrc267) (Glob.mono e564 hG)) (fun _ _ hp => ⟨rfl, _, rfl, hp.p e564 8 []⟩)
     refine cal (c_parser_list_i3 hq561 hst (RC.mono hl557 hrc242) (RC.mono hl557 hrc247) (RC.mono hl557 hrc252) (RC.mono hl557 hrc257) (RC.mono hl557 hrc262) (RC.mono hl557 hrc267) (Glob.mono e564 hG)) ?_
     rintro _ _ ⟨m562, A572, c573, cs574, A576, c577, cs578, A580, c581, cs582, A584, c585, cs586, A588, c589, cs590, A592, c593, cs594, rfl, hl563, hst, hrc575, hrc579, hrc583, hrc587, hrc591, hrc595⟩
     refine nl (tn ?_)
     have e596 := hl557.trans hl563
     exact ⟨_, k278, m562, (r560.2.Variables), A572, c573, cs574, (r560.2.Relations), A576, c577, cs578, (r560.2.Absences), A580, c581, cs582, (r560.2.Group), A584, c585, cs586, (r560.2.Compute), A588, c589, cs590, (r560.2.Order), A592, c593, cs594, (r560.1.x_.s_), (r560.1.x_.at_), (r560.1.t_.kind), (r560.1.t_.at_), (r560.1.t_.s_), (r560.1.t_.n_), (r560.2.Slots.From), (r560.2.Slots.To), (r560.2.Limit), (act_upds ⟨by kernel_rfl, by kernel_rfl, by kernel_rfl, trivial⟩), (by omega), h, e596, hst, hrc575, hrc579, hrc583, hrc587, hrc591, hrc595⟩
    refine wp_skip (tn ?_)
    exact ⟨_, k278, m556, (x238), A239, c240, cs241, (x243), A244, c245, cs246, (x248), A249, c250, cs251, (x253), A254, c255, cs256, (x258), A259, c260, cs261, (x263), A264, c265, cs266, (r554.1.x_.s_), (r554.1.x_.at_), (r554.1.t_.kind), (r554.1.t_.at_), (r554.1.t_.s_), (r554.1.t_.n_), (x274), (x275), (x276), (act_upds ⟨by kernel_rfl, by kernel_rfl, by kernel_rfl, trivial⟩), (by omega), h, hl557, hst, (RC.mono hl557 hrc242), (RC.mono hl557 hrc247), (RC.mono hl557 hrc252), (RC.mono hl557 hrc257), (RC.mono hl557 hrc262), (RC.mono hl557 hrc267)⟩
   refine qr (sg 1 [(26, vp ob0 0)] [(ad b1 0, vp ob0 0)] ⟨hst.c 8, trivial⟩ ?_)
   rcases xbind_some h with ⟨p601, hq598, rfl⟩ | ⟨r597, hq598, h⟩
   ·have e602 := hl31.trans (hl36.trans (hl149.trans hl185))
    exact cpa (c_parser_takes hq598 hst) (fun _ _ hp => ⟨rfl, _, rfl, hp.p e602 15 []⟩)
   refine cal (c_parser_takes hq598 hst) ?_
   rintro _ _ ⟨m599, rfl, hl600, hst⟩
   refine nl (tn (cn h (fun h => ?_) (fun h => ?_)))
   ·refine qr (sg 1 [(28, vp ob0 0)] [(ad b1 0, vp ob0 0)] ⟨hst.c 8, trivial⟩ ?_)
    rcases xbind_some h with ⟨p607, hq604, rfl⟩ | ⟨r603, hq604, h⟩
    ·have e608 := hl31.trans (hl36.trans (hl149.trans (hl185.trans hl600)))
     exact cpa (c_parser_need hq604 hst) (fun _ _ hp => ⟨rfl, _, rfl, hp.p e608 15 []⟩)
    refine cal (c_parser_need hq604 hst) ?_
    rintro _ _ ⟨m605, rfl, hl606, hst⟩
    refine nl (tn (rg (sg 2 [(30, vp ob0 0), (31, vf 112 [] [vp b15 0, vp b1 0])] [(ad b1 0, vp ob0 0)] ⟨hst.c 8, trivial⟩ ?_)))
    have e609 := hl185.trans (hl600.trans hl606)
    have e614 := hl31.trans (hl36.trans (hl149.trans (hl185.trans (hl600.trans hl606))))
    rcases xbind_some h with ⟨p615, hq611, rfl⟩ | ⟨r610, hq611, h⟩
    ·exact cpa (c_parser_list_i2 hq611 hst (RC.mono e609 hrc114) (RC.mono e609 hrc119) (RC.mono e609 hrc124) (RC.mono e609 hrc129) (RC.mono e609 hrc134) (RC.mono e609 hrc139) (Glob.mono e614 hG)) (fun _ _ hp => ⟨rfl, _, rfl, hp.p e614 8 []⟩)
    refine cal (c_parser_list_i2 hq611 hst (RC.mono e609 hrc114) (RC.mono e609 hrc119) (RC.mono e609 hrc124) (RC.mono e609 hrc129) (RC.mono e609 hrc134) (RC.mono e609 hrc139) (Glob.mono e614 hG)) ?_
    rintro _ _ ⟨m612, A622, c623, cs624, A626, c627, cs628, A630, c631, cs632, A634, c635, cs636, A638, c639, cs640, A642, c643, cs644, rfl, hl613, hst, hrc625, hrc629, hrc633, hrc637, hrc641, hrc645⟩
    refine nl (tn ?_)
    have e646 := hl600.trans (hl606.trans hl613)
    exact ⟨_, k186, m612, (r610.2.Variables), A622, c623, cs624, (r610.2.Relations), A626, c627, cs628, (r610.2.Absences), A630, c631, cs632, (r610.2.Group), A634, c635, cs636, (r610.2.Compute), A638, c639, cs640, (r610.2.Order), A642, c643, cs644, (r610.1.x_.s_), (r610.1.x_.at_), (r610.1.t_.kind), (r610.1.t_.at_), (r610.1.t_.s_), (r610.1.t_.n_), (r610.2.Slots.From), (r610.2.Slots.To), (r610.2.Limit), (act_upds ⟨by kernel_rfl, by kernel_rfl, by kernel_rfl, trivial⟩), (by omega), h, e646, hst, hrc625, hrc629, hrc633, hrc637, hrc641, hrc645⟩
   refine wp_skip (tn ?_)
   have e647 := hl185.trans hl600
   exact ⟨_, k186, m599, (x110), A111, c112, cs113, (x115), A116, c117, cs118, (x120), A121, c122, cs123, (x125), A126, c127, cs128, (x130), A131, c132, cs133, (x135), A136, c137, cs138, (r597.1.x_.s_), (r597.1.x_.at_), (r597.1.t_.kind), (r597.1.t_.at_), (r597.1.t_.s_), (r597.1.t_.n_), (x183), (x184), (x148), (act_upds ⟨by kernel_rfl, by kernel_rfl, by kernel_rfl, trivial⟩), (by omega), h, hl600, hst, (RC.mono e647 hrc114), (RC.mono e647 hrc119), (RC.mono e647 hrc124), (RC.mono e647 hrc129), (RC.mono e647 hrc134), (RC.mono e647 hrc139)⟩
  refine qr (sg 1 [(14, vp ob0 0)] [(ad b1 0, vp ob0 0)] ⟨hst.c 8, trivial⟩ ?_)
  rcases xbind_some h with ⟨p652, hq649, rfl⟩ | ⟨r648, hq649, h⟩
  ·have e653 := hl31.trans (hl36.trans hl149)
   exact cpa (c_parser_takes hq649 hst) (fun _ _ hp => ⟨rfl, _, rfl, hp.p e653 15 []⟩)
  refine cal (c_parser_takes hq649 hst) ?_
  rintro _ _ ⟨m650, rfl, hl651, hst⟩
  refine nl (tn (cn h (fun h => ?_) (fun h => ?_)))
  ·refine qr (sg 1 [(16, vp ob0 0)] [(ad b1 0, vp ob0 0)] ⟨hst.c 8, trivial⟩ ?_)
   rcases xbind_some h with ⟨p658, hq655, rfl⟩ | ⟨r654, hq655, h⟩
   ·have e659 := hl31.trans (hl36.trans (hl149.trans hl651))
    exact cpa (c_parser_int hq655 hst) (fun _ _ hp => ⟨rfl, _, rfl, hp.p e659 15 []⟩)
   refine cal (c_parser_int hq655 hst) ?_
   rintro _ _ ⟨m656, rfl, hl657, hst⟩
   refine s0 2 [(18, vp b15 3), (19, vp b15 3)] (so1 3 [vi r654.2] [vs A111 x110 c112, vs A116 x115 c117, vs A121 x120 c122, vi r654.2, vi x147, vs A126 x125 c127, vs A131 x130 c132, vs A136 x135 c137, vi x148] hst (fun _ hst => ?_))
   refine nl (tn (qr (sg 1 [(20, vp ob0 0)] [(ad b1 0, vp ob0 0)] ⟨hst.c 8, trivial⟩ ?_)))
   rcases xbind_some h with ⟨p664, hq661, rfl⟩ | ⟨r660, hq661, h⟩
   ·have e665 := hl31.trans (hl36.trans (hl149.trans (hl651.trans hl657)))
    exact cpa (c_parser_need hq661 hst) (fun _ _ hp => ⟨rfl, _, rfl, hp.p e665 15 []⟩)
   refine cal (c_parser_need hq661 hst) ?_
   rintro _ _ ⟨m662, rfl, hl663, hst⟩
   refine nl (tn (rg (sg 1 [(22, vp ob0 0)] [(ad b1 0, vp ob0 0)] ⟨hst.c 8, trivial⟩ ?_)))
   rcases xbind_some h with ⟨p670, hq667, rfl⟩ | ⟨r666, hq667, h⟩
   ·have e671 := hl31.trans (hl36.trans (hl149.trans (hl651.trans (hl657.trans hl663))))
    exact cpa (c_parser_int hq667 hst) (fun _ _ hp => ⟨rfl, _, rfl, hp.p e671 15 []⟩)
   refine cal (c_parser_int hq667 hst) ?_
   rintro _ _ ⟨m668, rfl, hl669, hst⟩
   refine s0 2 [(24, vp b15 3), (25, vp b15 4)] (so1 4 [vi r666.2] [vs A111 x110 c112, vs A116 x115 c117, vs A121 x120 c122, vi r654.2, vi r666.2, vs A126 x125 c127, vs A131 x130 c132, vs A136 x135 c137, vi x148] hst (fun _ hst => ?_))
   refine nl (tn ?_)
   have e672 := hl651.trans (hl657.trans (hl663.trans hl669))
   exact ⟨_, k150, m668, (r666.1.x_.s_), (r666.1.x_.at_), (r666.1.t_.kind), (r666.1.t_.at_), (r666.1.t_.s_), (r666.1.t_.n_), (r654.2), (r666.2), (act_upds ⟨by kernel_rfl, by kernel_rfl, by kernel_rfl, trivial⟩), (by omega), h, e672, hst⟩
  refine wp_skip (tn ?_)
  exact ⟨_, k150, m650, (r648.1.x_.s_), (r648.1.x_.at_), (r648.1.t_.kind), (r648.1.t_.at_), (r648.1.t_.s_), (r648.1.t_.n_), (x146), (x147), (act_upds ⟨by kernel_rfl, by kernel_rfl, by kernel_rfl, trivial⟩), (by omega), h, hl651, hst⟩
 refine qr (sg 1 [(9, vp ob0 0)] [(ad b1 0, vp ob0 0)] ⟨hst.c 8, trivial⟩ ?_)
 rcases xbind_some h with ⟨p677, hq674, rfl⟩ | ⟨r673, hq674, h⟩
 ·have e678 := hl31.trans hl36
  exact cpa (c_parser_takes hq674 hst) (fun _ _ hp => ⟨rfl, _, rfl, hp.p e678 15 []⟩)
 refine cal (c_parser_takes hq674 hst) ?_
 rintro _ _ ⟨m675, rfl, hl676, hst⟩
 refine nl (tn (cn h (fun h => ?_) (fun h => ?_)))
 ·refine rg (sg 2 [(11, vp ob0 0), (12, vf 109 [] [vp b1 0, vp b15 0])] [(ad b1 0, vp ob0 0)] ⟨hst.c 8, trivial⟩ ?_)
  have hst := pk14 hst
  have e683 := hl31.trans (hl36.trans hl676)
  rcases xbind_some h with ⟨p684, hq680, rfl⟩ | ⟨r679, hq680, h⟩
  ·exact cpa (c_parser_list_i1 hq680 hst (RC.mono hl676 hrc47) (RC.mono hl676 hrc51) (RC.mono hl676 hrc55) (RC.mono hl676 hrc59) (RC.mono hl676 hrc63) (RC.mono hl676 hrc67) (Glob.mono e683 hG)) (fun _ _ hp => ⟨rfl, _, rfl, hp.p e683 8 []⟩)
  refine cal (c_parser_list_i1 hq680 hst (RC.mono hl676 hrc47) (RC.mono hl676 hrc51) (RC.mono hl676 hrc55) (RC.mono hl676 hrc59) (RC.mono hl676 hrc63) (RC.mono hl676 hrc67) (Glob.mono e683 hG)) ?_
  rintro _ _ ⟨m681, A691, c692, cs693, A695, c696, cs697, A699, c700, cs701, A703, c704, cs705, A707, c708, cs709, A711, c712, cs713, rfl, hl682, hst, hrc694, hrc698, hrc702, hrc706, hrc710, hrc714⟩
  refine nl (tn ?_)
  have e715 := hl676.trans hl682
  have hst := pk19 hst
  exact ⟨_, k, m681, (r679.2.Variables), A691, c692, cs693, (r679.2.Relations), A695, c696, cs697, (r679.2.Absences), A699, c700, cs701, (r679.2.Group), A703, c704, cs705, (r679.2.Compute), A707, c708, cs709, (r679.2.Order), A711, c712, cs713, (r679.1.x_.s_), (r679.1.x_.at_), (r679.1.t_.kind), (r679.1.t_.at_), (r679.1.t_.s_), (r679.1.t_.n_), (r679.2.Slots.From), (r679.2.Slots.To), (r679.2.Limit), (act_upds ⟨by kernel_rfl, by kernel_rfl, by kernel_rfl, trivial⟩), (by omega), h, e715, hst, hrc694, hrc698, hrc702, hrc706, hrc710, hrc714⟩
 refine wp_skip (tn ?_)
 exact ⟨_, k, m675, (r33.2.Variables), A44, c45, cs46, (r33.2.Relations), A48, c49, cs50, (r33.2.Absences), A52, c53, cs54, (r33.2.Group), A56, c57, cs58, (r33.2.Compute), A60, c61, cs62, (r33.2.Order), A64, c65, cs66, (r673.1.x_.s_), (r673.1.x_.at_), (r673.1.t_.kind), (r673.1.t_.at_), (r673.1.t_.s_), (r673.1.t_.n_), (r33.2.Slots.From), (r33.2.Slots.To), (r33.2.Limit), (act_upds ⟨by kernel_rfl, by kernel_rfl, by kernel_rfl, trivial⟩), (by omega), h, hl676, hst, (RC.mono hl676 hrc47), (RC.mono hl676 hrc51), (RC.mono hl676 hrc55), (RC.mono hl676 hrc59), (RC.mono hl676 hrc63), (RC.mono hl676 hrc67)⟩

def R_syntax_Parse_c1 (g : World) (m : Mem) (F : List Asr) (ob0 : Nat) (ob1 : Nat) (r : SParser × GQuery) (v : Value) (w' : World) : Prop := ∃ (m' : Mem) (v0 : Value) (v1 : Value) (v2 : Value) (v3 : Value) (v4 : Value) (v5 : Value), v = vt [] ∧ m.le m' ∧ St g m' (oo ob0 155 (cSParser r.1) :: oo ob1 36 (cGQuery r.2 v0 v1 v2 v3 v4 v5) :: F) w' ∧ RS (TGVariable) m' v0 r.2.Variables ∧ RS (TGRelation) m' v1 r.2.Relations ∧ RS (TGAbsence) m' v2 r.2.Absences ∧ RS (TGColumn) m' v3 r.2.Group ∧ RS (TGAggregate) m' v4 r.2.Compute ∧ RS (TGOrderKey) m' v5 r.2.Order
theorem c_syntax_Parse_c1 {k : Nat} {a0 : SParser} {a1 : GQuery} {r : Except Pan (SParser × GQuery)} {g : World} {m : Mem} {F : List Asr} {w : World} {ob0 : Nat} {ob1 : Nat} {A6_ : Option Addr} {c6_ : Nat} {cs6_ : List Value} {A7_ : Option Addr} {c7_ : Nat} {cs7_ : List Value} {A8_ : Option Addr} {c8_ : Nat} {cs8_ : List Value} {A9_ : Option Addr} {c9_ : Nat} {cs9_ : List Value} {A10_ : Option Addr} {c10_ : Nat} {cs10_ : List Value} {A11_ : Option Addr} {c11_ : Nat} {cs11_ : List Value} (h : syntax_Parse_c1 k a0 a1 = some r) (hst : St g m (oo ob0 155 (cSParser a0) :: oo ob1 36 (cGQuery a1 (vs A6_ a1.Variables c6_) (vs A7_ a1.Relations c7_) (vs A8_ a1.Absences c8_) (vs A9_ a1.Group c9_) (vs A10_ a1.Compute c10_) (vs A11_ a1.Order c11_)) :: rw_ 95 8 A6_ a1.Variables c6_ cs6_ :: rw_ 104 3 A7_ a1.Relations c7_ cs7_ :: rw_ 106 11 A8_ a1.Absences c8_ cs8_ :: rw_ 101 3 A9_ a1.Group c9_ cs9_ :: rw_ 110 6 A10_ a1.Compute c10_ cs10_ :: rw_ 112 2 A11_ a1.Order c11_ cs11_ :: F) w) (hrc6_ : RC (TGVariable) m a1.Variables cs6_) (hrc7_ : RC (TGRelation) m a1.Relations cs7_) (hrc8_ : RC (TGAbsence) m a1.Absences cs8_) (hrc9_ : RC (TGColumn) m a1.Group cs9_) (hrc10_ : RC (TGAggregate) m a1.Compute cs10_) (hrc11_ : RC (TGOrderKey) m a1.Order cs11_) (hG : Glob m) :
    Calls Tryz.prog 48 ⟨[vp ob0 0, vp ob1 0]⟩ w (XPost (R_syntax_Parse_c1 g m F ob0 ob1) g m (oo ob1 36 (cGQuery a1 (vs A6_ a1.Variables c6_) (vs A7_ a1.Relations c7_) (vs A8_ a1.Absences c8_) (vs A9_ a1.Group c9_) (vs A10_ a1.Compute c10_) (vs A11_ a1.Order c11_)) :: rw_ 95 8 A6_ a1.Variables c6_ cs6_ :: rw_ 104 3 A7_ a1.Relations c7_ cs7_ :: rw_ 106 11 A8_ a1.Absences c8_ cs8_ :: rw_ 101 3 A9_ a1.Group c9_ cs9_ :: rw_ 110 6 A10_ a1.Compute c10_ cs10_ :: rw_ 112 2 A11_ a1.Order c11_ cs11_ :: F) r) := by
 refine calls_enter Tryz.func48 rfl rfl ?_
 unfold syntax_Parse_c1 at h
 refine rg (s0 1 [(3, vp ob0 0)] ?_)
 rcases xbind_some h with ⟨p5, hq2, rfl⟩ | ⟨r1, hq2, h⟩
 ·exact cpa (c_parser_query hq2 hst hG) (fun _ _ hp => ⟨rfl, _, rfl, hp.p (Mem.le.refl _) 7 [0, 0, 0, 0, 0, 0, 0]⟩)
 refine cal (c_parser_query hq2 hst hG) ?_
 rintro _ _ ⟨m3, v6, v7, v8, v9, v10, v11, rfl, hl4, hst, hv6, hv7, hv8, hv9, hv10, hv11⟩
 obtain ⟨A12, c13, rfl⟩ := hv6.shape
 obtain ⟨A14, c15, rfl⟩ := hv7.shape
 obtain ⟨A16, c17, rfl⟩ := hv8.shape
 obtain ⟨A18, c19, rfl⟩ := hv9.shape
 obtain ⟨A20, c21, rfl⟩ := hv10.shape
 obtain ⟨A22, c23, rfl⟩ := hv11.shape
 refine so1 0 (cGQuery r1.2 (vs A12 r1.2.Variables c13) (vs A14 r1.2.Relations c15) (vs A16 r1.2.Absences c17) (vs A18 r1.2.Group c19) (vs A20 r1.2.Compute c21) (vs A22 r1.2.Order c23)) (cGQuery r1.2 (vs A12 r1.2.Variables c13) (vs A14 r1.2.Relations c15) (vs A16 r1.2.Absences c17) (vs A18 r1.2.Group c19) (vs A20 r1.2.Compute c21) (vs A22 r1.2.Order c23)) hst (fun _ hst => ?_)
 refine nl (we [] ?_)
 have hst := pk20 hst
 cases h
 exact ⟨_, rfl, m3, (vs A12 r1.2.Variables c13), (vs A14 r1.2.Relations c15), (vs A16 r1.2.Absences c17), (vs A18 r1.2.Group c19), (vs A20 r1.2.Compute c21), (vs A22 r1.2.Order c23), rfl, hl4, hst, hv6, hv7, hv8, hv9, hv10, hv11⟩

def R_syntax_parse (g : World) (m : Mem) (F : List Asr) (ob1 : Nat) (r : GQuery × SFailure) (v : Value) (w' : World) : Prop := ∃ (m' : Mem) (v0 : Value) (v1 : Value) (v2 : Value) (v3 : Value) (v4 : Value) (v5 : Value), v = va (cSFailure r.2) ∧ m.le m' ∧ St g m' (oo ob1 36 (cGQuery r.1 v0 v1 v2 v3 v4 v5) :: F) w' ∧ RS (TGVariable) m' v0 r.1.Variables ∧ RS (TGRelation) m' v1 r.1.Relations ∧ RS (TGAbsence) m' v2 r.1.Absences ∧ RS (TGColumn) m' v3 r.1.Group ∧ RS (TGAggregate) m' v4 r.1.Compute ∧ RS (TGOrderKey) m' v5 r.1.Order
theorem c_syntax_parse {k : Nat} {a0 : Str} {a1 : GQuery} {r : GQuery × SFailure} {g : World} {m : Mem} {F : List Asr} {w : World} {ob1 : Nat} {A6_ : Option Addr} {c6_ : Nat} {cs6_ : List Value} {A7_ : Option Addr} {c7_ : Nat} {cs7_ : List Value} {A8_ : Option Addr} {c8_ : Nat} {cs8_ : List Value} {A9_ : Option Addr} {c9_ : Nat} {cs9_ : List Value} {A10_ : Option Addr} {c10_ : Nat} {cs10_ : List Value} {A11_ : Option Addr} {c11_ : Nat} {cs11_ : List Value} (h : syntax_parse k a0 a1 = some r) (hst : St g m (oo ob1 36 (cGQuery a1 (vs A6_ a1.Variables c6_) (vs A7_ a1.Relations c7_) (vs A8_ a1.Absences c8_) (vs A9_ a1.Group c9_) (vs A10_ a1.Compute c10_) (vs A11_ a1.Order c11_)) :: rw_ 95 8 A6_ a1.Variables c6_ cs6_ :: rw_ 104 3 A7_ a1.Relations c7_ cs7_ :: rw_ 106 11 A8_ a1.Absences c8_ cs8_ :: rw_ 101 3 A9_ a1.Group c9_ cs9_ :: rw_ 110 6 A10_ a1.Compute c10_ cs10_ :: rw_ 112 2 A11_ a1.Order c11_ cs11_ :: F) w) (hrc6_ : RC (TGVariable) m a1.Variables cs6_) (hrc7_ : RC (TGRelation) m a1.Relations cs7_) (hrc8_ : RC (TGAbsence) m a1.Absences cs8_) (hrc9_ : RC (TGColumn) m a1.Group cs9_) (hrc10_ : RC (TGAggregate) m a1.Compute cs10_) (hrc11_ : RC (TGOrderKey) m a1.Order cs11_) (hG : Glob m) :
    Calls Tryz.prog 47 ⟨[vstr a0, vf 48 [] [vp ob1 0]]⟩ w (OPost (R_syntax_parse g m F ob1) r) := by
 refine calls_enter_d Tryz.func47 rfl rfl ?_
 unfold syntax_parse at h
 refine qr (al [vi 0, vi 0] hst (fun b1 _ hst => ?_))
 refine nl (tn (sq (qr (s0 3 [(6, vstr a0), (7, vi ((a0).length : Int)), (8, vb (decide (((a0).length : Int) > 4096)))] (nl (tn (cn h (fun h => ?_) (fun h => ?_))))))))
 ·refine qr (s0 1 [(9, va [vi 0, vi 5])] (so0 0 [vi 0, vi 5] [vi 0, vi 5] hst (fun _ hst => ?_)))
  refine nl (tn (wp_ret (tr ?_)))
  have hst := pk5 hst
  obtain ⟨m2, hl3, hst, hs4⟩ := hst.seal_row (T := TGVariable) (xs := a1.Variables) rfl hrc6_
  have hst := pk5 hst
  obtain ⟨m5, hl6, hst, hs7⟩ := hst.seal_row (T := TGRelation) (xs := a1.Relations) rfl (RC.mono hl3 hrc7_)
  have hst := pk5 hst
  have e11 := hl3.trans hl6
  obtain ⟨m8, hl9, hst, hs10⟩ := hst.seal_row (T := TGAbsence) (xs := a1.Absences) rfl (RC.mono e11 hrc8_)
  have hst := pk5 hst
  have e15 := e11.trans hl9
  obtain ⟨m12, hl13, hst, hs14⟩ := hst.seal_row (T := TGColumn) (xs := a1.Group) rfl (RC.mono e15 hrc9_)
  have hst := pk5 hst
  have e19 := e15.trans hl13
  obtain ⟨m16, hl17, hst, hs18⟩ := hst.seal_row (T := TGAggregate) (xs := a1.Compute) rfl (RC.mono e19 hrc10_)
  have hst := pk5 hst
  have e23 := e19.trans hl17
  obtain ⟨m20, hl21, hst, hs22⟩ := hst.seal_row (T := TGOrderKey) (xs := a1.Order) rfl (RC.mono e23 hrc11_)
  refine wc_ret_d0 [va [vi 0, vi 5]] [(ad b1 0, vi 0), (ad b1 1, vi 5)] (by kernel_rfl) ⟨hst.c 0, hst.c 0, trivial⟩ ?_
  have e24 := hl6.trans (hl9.trans (hl13.trans (hl17.trans hl21)))
  have e25 := hl9.trans (hl13.trans (hl17.trans hl21))
  have e26 := hl13.trans (hl17.trans hl21)
  have e27 := hl17.trans hl21
  have hst := pk0 hst
  have e28 := e23.trans hl21
  cases h
  exact ⟨_, rfl, m20, (vs A6_ a1.Variables c6_), (vs A7_ a1.Relations c7_), (vs A8_ a1.Absences c8_), (vs A9_ a1.Group c9_), (vs A10_ a1.Compute c10_), (vs A11_ a1.Order c11_), rfl, e28, hst, (RS.mono e24 hs4), (RS.mono e25 hs7), (RS.mono e26 hs10), (RS.mono e27 hs14), (RS.mono hl21 hs18), hs22⟩
 refine wp_skip (tn (qr (s0 1 [(10, vf 101 [] [vp b1 0])] (wl_defer (d := { target := .fn (.func 101) ⟨[vp b1 0]⟩, args := ⟨[]⟩ }) rfl (by kernel_rfl) (nl (tn (qr (s0 3 [(11, vstr a0), (12, va [vstr a0, vi 0]), (13, va [vstr a0, vi 0, vi 0, vi 0, vstr w_0, vi 0])] (bo_ [vstr a0, vi 0, vi 0, vi 0, vstr w_0, vi 0] hst (fun b29 _ hst => ?_))))))))))
 refine s0 1 [(5, vp b29 0)] (nl (tn (qr (s0 1 [(15, vp b29 0)] ?_))))
 rcases xcatch_some h with ⟨p34, hq31, h⟩ | ⟨r30, hq31, h⟩
 ·refine cpa (c_parser_advance hq31 hst) (fun _ _ hp => ?_)
  refine tp ?_
  obtain ⟨rfl, m32, hl33, hst⟩ := hp
  have hst := pk5 hst
  obtain ⟨m35, hl36, hst, hs37⟩ := hst.seal_row (T := TGVariable) (xs := a1.Variables) rfl (RC.mono hl33 hrc6_)
  have hst := pk5 hst
  have e41 := hl33.trans hl36
  obtain ⟨m38, hl39, hst, hs40⟩ := hst.seal_row (T := TGRelation) (xs := a1.Relations) rfl (RC.mono e41 hrc7_)
  have hst := pk5 hst
  have e45 := e41.trans hl39
  obtain ⟨m42, hl43, hst, hs44⟩ := hst.seal_row (T := TGAbsence) (xs := a1.Absences) rfl (RC.mono e45 hrc8_)
  have hst := pk5 hst
  have e49 := e45.trans hl43
  obtain ⟨m46, hl47, hst, hs48⟩ := hst.seal_row (T := TGColumn) (xs := a1.Group) rfl (RC.mono e49 hrc9_)
  have hst := pk5 hst
  have e53 := e49.trans hl47
  obtain ⟨m50, hl51, hst, hs52⟩ := hst.seal_row (T := TGAggregate) (xs := a1.Compute) rfl (RC.mono e53 hrc10_)
  have hst := pk5 hst
  have e57 := e53.trans hl51
  obtain ⟨m54, hl55, hst, hs56⟩ := hst.seal_row (T := TGOrderKey) (xs := a1.Order) rfl (RC.mono e57 hrc11_)
  refine wc_pan_rec (p := p34) (b := b1) hst (fun _ => rfl) ⟨[va [vi p34.1, vi p34.2]], [(ad b1 0, vi p34.1), (ad b1 1, vi p34.2)], (by kernel_rfl), fun w9 hst => ⟨⟨hst.c 0, hst.c 0, trivial⟩, ?_⟩⟩
  have e58 := hl39.trans (hl43.trans (hl47.trans (hl51.trans hl55)))
  have e59 := hl43.trans (hl47.trans (hl51.trans hl55))
  have e60 := hl47.trans (hl51.trans hl55)
  have e61 := hl51.trans hl55
  have hst := pk0 hst
  have e62 := e57.trans hl55
  cases h
  exact ⟨_, rfl, m54, (vs A6_ a1.Variables c6_), (vs A7_ a1.Relations c7_), (vs A8_ a1.Absences c8_), (vs A9_ a1.Group c9_), (vs A10_ a1.Compute c10_), (vs A11_ a1.Order c11_), rfl, e62, hst, (RS.mono e58 hs37), (RS.mono e59 hs40), (RS.mono e60 hs44), (RS.mono e61 hs48), (RS.mono hl55 hs52), hs56⟩
 refine cal (c_parser_advance hq31 hst) ?_
 rintro _ _ ⟨m32, rfl, hl33, hst⟩
 refine nl (tn (qr (s0 2 [(17, vf 48 [] [vp ob1 0]), (18, vp b29 0)] ?_)))
 have hst := pk19 hst
 rcases xcatch_some h with ⟨p67, hq64, h⟩ | ⟨r63, hq64, h⟩
 ·refine cpa (c_syntax_Parse_c1 hq64 hst (RC.mono hl33 hrc6_) (RC.mono hl33 hrc7_) (RC.mono hl33 hrc8_) (RC.mono hl33 hrc9_) (RC.mono hl33 hrc10_) (RC.mono hl33 hrc11_) (Glob.mono hl33 hG)) (fun _ _ hp => ?_)
  refine tp ?_
  obtain ⟨rfl, m65, hl66, hst⟩ := hp
  have hst := pk1 hst
  have e71 := hl33.trans hl66
  obtain ⟨m68, hl69, hst, hs70⟩ := hst.seal_row (T := TGVariable) (xs := a1.Variables) rfl (RC.mono e71 hrc6_)
  have hst := pk1 hst
  have e75 := e71.trans hl69
  obtain ⟨m72, hl73, hst, hs74⟩ := hst.seal_row (T := TGRelation) (xs := a1.Relations) rfl (RC.mono e75 hrc7_)
  have hst := pk1 hst
  have e79 := e75.trans hl73
  obtain ⟨m76, hl77, hst, hs78⟩ := hst.seal_row (T := TGAbsence) (xs := a1.Absences) rfl (RC.mono e79 hrc8_)
  have hst := pk1 hst
  have e83 := e79.trans hl77
  obtain ⟨m80, hl81, hst, hs82⟩ := hst.seal_row (T := TGColumn) (xs := a1.Group) rfl (RC.mono e83 hrc9_)
  have hst := pk1 hst
  have e87 := e83.trans hl81
  obtain ⟨m84, hl85, hst, hs86⟩ := hst.seal_row (T := TGAggregate) (xs := a1.Compute) rfl (RC.mono e87 hrc10_)
  have hst := pk1 hst
  have e91 := e87.trans hl85
  obtain ⟨m88, hl89, hst, hs90⟩ := hst.seal_row (T := TGOrderKey) (xs := a1.Order) rfl (RC.mono e91 hrc11_)
  have hst := pk1 hst
  refine wc_pan_rec (p := p67) (b := b1) hst (fun _ => rfl) ⟨[va [vi p67.1, vi p67.2]], [(ad b1 0, vi p67.1), (ad b1 1, vi p67.2)], (by kernel_rfl), fun w9 hst => ⟨⟨hst.c 0, hst.c 0, trivial⟩, ?_⟩⟩
  have e92 := hl73.trans (hl77.trans (hl81.trans (hl85.trans hl89)))
  have e93 := hl77.trans (hl81.trans (hl85.trans hl89))
  have e94 := hl81.trans (hl85.trans hl89)
  have e95 := hl85.trans hl89
  have hst := pk0 hst
  have e96 := e91.trans hl89
  cases h
  exact ⟨_, rfl, m88, (vs A6_ a1.Variables c6_), (vs A7_ a1.Relations c7_), (vs A8_ a1.Absences c8_), (vs A9_ a1.Group c9_), (vs A10_ a1.Compute c10_), (vs A11_ a1.Order c11_), rfl, e96, hst, (RS.mono e92 hs70), (RS.mono e93 hs74), (RS.mono e94 hs78), (RS.mono e95 hs82), (RS.mono hl89 hs86), hs90⟩
 refine cal (c_syntax_Parse_c1 hq64 hst (RC.mono hl33 hrc6_) (RC.mono hl33 hrc7_) (RC.mono hl33 hrc8_) (RC.mono hl33 hrc9_) (RC.mono hl33 hrc10_) (RC.mono hl33 hrc11_) (Glob.mono hl33 hG)) ?_
 rintro _ _ ⟨m65, v97, v98, v99, v100, v101, v102, rfl, hl66, hst, hv97, hv98, hv99, hv100, hv101, hv102⟩
 obtain ⟨A103, c104, rfl⟩ := hv97.shape
 obtain ⟨A105, c106, rfl⟩ := hv98.shape
 obtain ⟨A107, c108, rfl⟩ := hv99.shape
 obtain ⟨A109, c110, rfl⟩ := hv100.shape
 obtain ⟨A111, c112, rfl⟩ := hv101.shape
 obtain ⟨A113, c114, rfl⟩ := hv102.shape
 refine nl (tn (sq (qr (sg 6 [(20, vp b29 0), (21, vp b29 0), (22, vp b29 2), (23, vp b29 2), (24, vi r63.1.t_.kind), (25, vb (r63.1.t_.kind != 0))] [(ad b29 2, vi r63.1.t_.kind)] ⟨hst.c 0, trivial⟩ (nl (tn (cn h (fun h => ?_) (fun h => ?_))))))))
 ·refine rg (s0 1 [(26, vp b29 0)] ?_)
  rcases xcatch_some h with ⟨p119, hq116, h⟩ | ⟨r115, hq116, h⟩
  ·refine cpa (c_parser_wrong hq116 hst) (fun _ _ hp => ?_)
   refine tp ?_
   obtain ⟨rfl, m117, hl118, hst⟩ := hp
   have hst := pk5 hst
   refine wc_pan_rec (p := p119) (b := b1) hst (fun _ => rfl) ⟨[va [vi p119.1, vi p119.2]], [(ad b1 0, vi p119.1), (ad b1 1, vi p119.2)], (by kernel_rfl), fun w9 hst => ⟨⟨hst.c 0, hst.c 0, trivial⟩, ?_⟩⟩
   have hst := pk2 hst
   have e120 := hl33.trans (hl66.trans hl118)
   cases h
   exact ⟨_, rfl, m117, (vs A103 r63.2.Variables c104), (vs A105 r63.2.Relations c106), (vs A107 r63.2.Absences c108), (vs A109 r63.2.Group c110), (vs A111 r63.2.Compute c112), (vs A113 r63.2.Order c114), rfl, e120, hst, (RS.mono hl118 hv97), (RS.mono hl118 hv98), (RS.mono hl118 hv99), (RS.mono hl118 hv100), (RS.mono hl118 hv101), (RS.mono hl118 hv102)⟩
  cases h
 refine wp_skip (tn (qr (s0 1 [(28, va [vi 0, vi 0])] (so2 0 [vi 0, vi 0] [vi 0, vi 0] hst (fun _ hst => ?_)))))
 refine nl (tn (wp_ret ((wc_ret_rec (b := b1) (fun _ => rfl)) [va [vi 0, vi 0]] [(ad b1 0, vi 0), (ad b1 1, vi 0)] (by kernel_rfl) ⟨hst.c 2, hst.c 2, trivial⟩ ?_)))
 have hst := pk15 hst
 have e121 := hl33.trans hl66
 cases h
 exact ⟨_, rfl, m65, (vs A103 r63.2.Variables c104), (vs A105 r63.2.Relations c106), (vs A107 r63.2.Absences c108), (vs A109 r63.2.Group c110), (vs A111 r63.2.Compute c112), (vs A113 r63.2.Order c114), rfl, e121, hst, hv97, hv98, hv99, hv100, hv101, hv102⟩

def R_attribute_isTest (g : World) (m : Mem) (F : List Asr) (r : Bool) (v : Value) (w' : World) : Prop := ∃ (m' : Mem), v = vb r ∧ m.le m' ∧ St g m' (F) w'
theorem c_attribute_isTest {a0 : GPred} {r : Bool} {g : World} {m : Mem} {F : List Asr} {w : World} {u0 : Value} (h : attribute_isTest a0 = some r) (hst : St g m (F) w) (hu0 : RS (TGPred) m u0 a0.Args) :
    Calls Tryz.prog 149 ⟨[va (cGPred a0 u0)]⟩ w (OPost (R_attribute_isTest g m F) r) := by
 refine calls_enter Tryz.func149 rfl rfl ?_
 unfold attribute_isTest at h
 obtain ⟨A1, c2, rfl⟩ := hu0.shape
 refine qr (bo_ (cGPred a0 (vs A1 a0.Args c2)) hst (fun b3 _ hst => ?_))
 refine s0 1 [(2, vb false)] (nl (tn (qr (sg 4 [(3, vp b3 0), (4, vi a0.Op), (5, vb (a0.Op == 5)), (6, vb (a0.Op == 5))] [(ad b3 0, vi a0.Op)] ⟨hst.c 0, trivial⟩ ?_))))
 rcases sp h with ⟨hc4, h⟩ | ⟨hc4, h⟩
 ·rw [hc4]
  refine s0 10 [(7, undef), (8, undef), (9, undef), (10, vb true), (11, vb true), (12, undef), (13, undef), (14, undef), (15, vb true), (2, vb true)] (nl (tn (wp_ret (wr [vb true] ?_))))
  have hst := pk0 hst
  have h := Option.some.inj h; subst h
  exact ⟨_, rfl, m, rfl, (Mem.le.refl _), hst⟩
 rw [hc4]
 refine sg 5 [(7, vp b3 0), (8, vi a0.Op), (9, vb (a0.Op == 6)), (10, vb (a0.Op == 6)), (11, vb (a0.Op == 6))] [(ad b3 0, vi a0.Op)] ⟨hst.c 0, trivial⟩ ?_
 rcases sp h with ⟨hc5, h⟩ | ⟨hc5, h⟩
 ·rw [hc5]
  refine s0 5 [(12, undef), (13, undef), (14, undef), (15, vb true), (2, vb true)] (nl (tn (wp_ret (wr [vb true] ?_))))
  have hst := pk0 hst
  have h := Option.some.inj h; subst h
  exact ⟨_, rfl, m, rfl, (Mem.le.refl _), hst⟩
 rw [hc5]
 refine sg 5 [(12, vp b3 0), (13, vi a0.Op), (14, vb (a0.Op == 7)), (15, vb (a0.Op == 7)), (2, vb (a0.Op == 7))] [(ad b3 0, vi a0.Op)] ⟨hst.c 0, trivial⟩ (nl (tn (wp_ret (wr [vb (a0.Op == 7)] ?_))))
 have hst := pk0 hst
 cases h
 exact ⟨_, rfl, m, rfl, (Mem.le.refl _), hst⟩

def R_attribute_within (g : World) (m : Mem) (F : List Asr) (r : Bool) (v : Value) (w' : World) : Prop := ∃ (m' : Mem), v = vb r ∧ m.le m' ∧ St g m' (F) w'
theorem c_attribute_within {k : Nat} {a0 : Str} {a1 : Int} {a2 : Int} {r : Bool} {g : World} {m : Mem} {F : List Asr} {w : World} (h : attribute_within k a0 a1 a2 = some r) (hst : St g m (F) w) :
    Calls Tryz.prog 170 ⟨[vstr a0, vu a1, vu a2]⟩ w (OPost (R_attribute_within g m F) r) := by
 refine calls_enter Tryz.func170 rfl rfl ?_
 unfold attribute_within at h
 refine qr (s0 1 [(6, vb false)] (nl (tn (sq (qr (s0 3 [(8, vstr a0), (9, vi ((a0).length : Int)), (10, vi 0)] (nl (tn (bk (wc_loop (fun kk a w => ∃ (f0 : Fr) (m22 : Mem) (x9 : Int), a = act Tryz.f170.ntmps (upds f0 [(0, vstr a0), (1, vu a1), (2, vu a2), (6, vb false), (9, vi ((a0).length : Int)), (10, vi x9)]) ∧ kk ≤ k ∧ attribute_within_l1 kk a0 a1 a2 x9 = some r ∧ m.le m22 ∧ St g m22 (F) w) k ?_ ?_))))))))))
 ·exact ⟨_, m, (0), (act_upds ⟨by kernel_rfl, by kernel_rfl, by kernel_rfl, by kernel_rfl, by kernel_rfl, by kernel_rfl, trivial⟩), (Nat.le_refl _), h, (Mem.le.refl _), hst⟩
 rintro k20 ih21 _ _ ⟨f0, m22, x9, rfl, hk19, h, hl18, hst⟩
 obtain _ | k24 := k20
 ·simp [attribute_within_l1] at h
 rw [attribute_within_l1] at h
 refine qr (s0 1 [(11, vb (decide (x9 < ((a0).length : Int))))] (nl (tn (sq (cn h (fun h => ?_) (fun h => ?_))))))
 ·refine wp_skip (tn (sq (bk (qr (s0 2 [(12, vi x9), (7, vi x9)] (nl (tn (qr (s0 2 [(13, vstr a0), (14, vi x9)] ?_)))))))))
  obtain ⟨c26, hc27, h⟩ := ix h
  refine vl (ria hc27.1 hc27.2) (s0 3 [(16, vu a1), (17, vb (decide ((c26.toNat : Int) < a1))), (18, vb (decide ((c26.toNat : Int) < a1)))] ?_)
  rcases sp h with ⟨hc28, h⟩ | ⟨hc28, h⟩
  ·rw [hc28]
   refine s0 6 [(19, undef), (20, undef), (21, undef), (22, undef), (23, undef), (24, vb true)] (nl (tn (ct (qr (s0 1 [(6, vb false)] (nl (tn (wp_ret (br (tr (tr (br (tr (wr [vb false] ?_))))))))))))))
   have h := Option.some.inj h; subst h
   exact ⟨_, rfl, m22, rfl, hl18, hst⟩
  rw [hc28]
  refine s0 2 [(19, vstr a0), (20, vi x9)] ?_
  obtain ⟨c30, hc31, h⟩ := ix h
  refine vl (ria hc31.1 hc31.2) (s0 3 [(22, vu a2), (23, vb (decide ((c30.toNat : Int) > a2))), (24, vb (decide ((c30.toNat : Int) > a2)))] (nl (tn (cn h (fun h => ?_) (fun h => ?_)))))
  ·refine qr (s0 1 [(6, vb false)] (nl (tn (wp_ret (br (tr (tr (br (tr (wr [vb false] ?_))))))))))
   have h := Option.some.inj h; subst h
   exact ⟨_, rfl, m22, rfl, hl18, hst⟩
  refine wp_skip (bn (tn (rg (s0 2 [(25, vi (w64 (x9 + 1))), (10, vi (w64 (x9 + 1)))] (nl (tn ?_))))))
  exact ih21 k24 (by omega) _ _ ⟨_, m22, (w64 (x9 + 1)), (act_upds ⟨by kernel_rfl, by kernel_rfl, by kernel_rfl, by kernel_rfl, by kernel_rfl, by kernel_rfl, trivial⟩), (by omega), h, hl18, hst⟩
 refine wp_exit (tx (tx (bx (tn (qr (s0 1 [(6, vb true)] (nl (tn (wp_ret (wr [vb true] ?_))))))))))
 have h := Option.some.inj h; subst h
 exact ⟨_, rfl, m22, rfl, hl18, hst⟩

def R_attribute_IsName (g : World) (m : Mem) (F : List Asr) (r : Bool) (v : Value) (w' : World) : Prop := ∃ (m' : Mem), v = vb r ∧ m.le m' ∧ St g m' (F) w'
theorem c_attribute_IsName {k : Nat} {a0 : Str} {r : Bool} {g : World} {m : Mem} {F : List Asr} {w : World} (h : attribute_IsName k a0 = some r) (hst : St g m (F) w) :
    Calls Tryz.prog 150 ⟨[vstr a0]⟩ w (OPost (R_attribute_IsName g m F) r) := by
 refine calls_enter Tryz.func150 rfl rfl ?_
 unfold attribute_IsName at h
 refine qr (s0 1 [(2, vb false)] (nl (tn (qr (s0 1 [(3, vstr a0)] (vl (rne a0 w_0) (s0 1 [(5, vb (!(a0 == w_0)))] ?_)))))))
 rcases sp h with ⟨hc1, h⟩ | ⟨hc1, h⟩
 ·rw [hc1]
  refine s0 5 [(6, vstr a0), (7, vi ((a0).length : Int)), (8, vb (decide (((a0).length : Int) ≤ 64))), (9, vb (decide (((a0).length : Int) ≤ 64))), (10, vb (decide (((a0).length : Int) ≤ 64)))] ?_
  rcases sp h with ⟨hc2, h⟩ | ⟨hc2, h⟩
  ·rw [hc2]
   refine s0 1 [(11, vstr a0)] ?_
   obtain ⟨r3, hq4, h⟩ := bs h
   refine cal (c_attribute_within hq4 hst) ?_
   rintro _ _ ⟨m5, rfl, hl6, hst⟩
   refine s0 2 [(13, vb r3), (2, vb r3)] (nl (tn (wp_ret (wr [vb r3] ?_))))
   have h := Option.some.inj h; subst h
   exact ⟨_, rfl, m5, rfl, hl6, hst⟩
  rw [hc2]
  refine s0 4 [(11, undef), (12, undef), (13, vb false), (2, vb false)] (nl (tn (wp_ret (wr [vb false] ?_))))
  have h := Option.some.inj h; subst h
  exact ⟨_, rfl, m, rfl, (Mem.le.refl _), hst⟩
 rw [hc1]
 refine s0 9 [(6, undef), (7, undef), (8, undef), (9, vb false), (10, vb false), (11, undef), (12, undef), (13, vb false), (2, vb false)] (nl (tn (wp_ret (wr [vb false] ?_))))
 have h := Option.some.inj h; subst h
 exact ⟨_, rfl, m, rfl, (Mem.le.refl _), hst⟩

def R_attribute_CheckValue (g : World) (m : Mem) (F : List Asr) (r : Int) (v : Value) (w' : World) : Prop := ∃ (m' : Mem), v = vi r ∧ m.le m' ∧ St g m' (F) w'
theorem c_attribute_CheckValue {k : Nat} {a0 : GValue} {r : Int} {g : World} {m : Mem} {F : List Asr} {w : World} (h : attribute_CheckValue k a0 = some r) (hst : St g m (F) w) :
    Calls Tryz.prog 151 ⟨[va (cGValue a0)]⟩ w (OPost (R_attribute_CheckValue g m F) r) := by
 refine calls_enter Tryz.func151 rfl rfl ?_
 unfold attribute_CheckValue at h
 refine qr (bo_ (cGValue a0) hst (fun b1 _ hst => ?_))
 refine s0 1 [(2, vi 0)] (nl (tn (qr (s0 1 [(3, vb false)] (nl (tn (wc_join (fun a w => ∃ (f0 : Fr) (m15 : Mem) (x11 : Bool), a = act Tryz.f151.ntmps (upds f0 [(1, vp b1 0), (2, vi 0), (3, vb x11)]) ∧ attribute_CheckValue_j1 a0 x11 = some r ∧ m.le m15 ∧ St g m15 (oo b1 41 (cGValue a0) :: F) w) ?_ ?_)))))))
 ·rintro _ _ ⟨f0, m15, x11, rfl, h, hl12, hst⟩
  unfold attribute_CheckValue_j1 at h
  refine sq (bk (qr (sg 5 [(47, vp b1 1), (48, vstr a0.Text), (49, vi ((a0.Text).length : Int)), (50, vb (decide (((a0.Text).length : Int) > 4096))), (46, vb (decide (((a0.Text).length : Int) > 4096)))] [(ad b1 1, vstr a0.Text)] ⟨hst.c 0, trivial⟩ (nl (tn (cn h (fun h => ?_) (fun h => ?_)))))))
  ·refine qr (s0 1 [(2, vi 5)] (nl (tn (wp_ret (br (tr (wr [vi 5] ?_)))))))
   have hst := pk0 hst
   have h := Option.some.inj h; subst h
   exact ⟨_, rfl, m15, rfl, hl12, hst⟩
  refine qr (s0 3 [(52, vb x11), (53, vb (!x11)), (51, vb (!x11))] (nl (tn (cn h (fun h => ?_) (fun h => ?_)))))
  ·refine qr (s0 1 [(2, vi 3)] (nl (tn (wp_ret (br (tr (wr [vi 3] ?_)))))))
   have hst := pk0 hst
   have h := Option.some.inj h; subst h
   exact ⟨_, rfl, m15, rfl, hl12, hst⟩
  refine wp_skip (bn (tn (qr (s0 1 [(2, vi 0)] (nl (tn (wp_ret (wr [vi 0] ?_))))))))
  have hst := pk0 hst
  have h := Option.some.inj h; subst h
  exact ⟨_, rfl, m15, rfl, hl12, hst⟩
 refine qr (sg 2 [(4, vp b1 0), (5, vi a0.Kind)] [(ad b1 0, vi a0.Kind)] ⟨hst.c 0, trivial⟩ (nl (tn (bk (qr (s0 2 [(7, vb (a0.Kind == 1)), (6, vb (a0.Kind == 1))] (nl (tn (cn h (fun h => ?_) (fun h => ?_))))))))))
 ·refine rg (sg 2 [(8, vp b1 1), (9, vstr a0.Text)] [(ad b1 1, vstr a0.Text)] ⟨hst.c 0, trivial⟩ ?_)
  obtain ⟨r16, hq17, h⟩ := bs h
  refine cal (c_attribute_within hq17 hst) ?_
  rintro _ _ ⟨m18, rfl, hl19, hst⟩
  refine s0 1 [(11, vb r16)] ?_
  rcases sp h with ⟨hc20, h⟩ | ⟨hc20, h⟩
  ·rw [hc20]
   refine sg 5 [(12, vp b1 2), (13, vi a0.Int), (14, vb (a0.Int == 0)), (15, vb (a0.Int == 0)), (3, vb (a0.Int == 0))] [(ad b1 2, vi a0.Int)] ⟨hst.c 0, trivial⟩ (nl (bn (tn ?_)))
   exact ⟨_, m18, ((a0.Int == 0)), (act_upds ⟨by kernel_rfl, by kernel_rfl, by kernel_rfl, trivial⟩), h, hl19, hst⟩
  rw [hc20]
  refine s0 5 [(12, undef), (13, undef), (14, undef), (15, vb false), (3, vb false)] (nl (bn (tn ?_)))
  exact ⟨_, m18, (false), (act_upds ⟨by kernel_rfl, by kernel_rfl, by kernel_rfl, trivial⟩), h, hl19, hst⟩
 refine qr (s0 2 [(17, vb (a0.Kind == 2)), (16, vb (a0.Kind == 2))] (nl (tn (cn h (fun h => ?_) (fun h => ?_)))))
 ·refine rg (sg 2 [(18, vp b1 1), (19, vstr a0.Text)] [(ad b1 1, vstr a0.Text)] ⟨hst.c 0, trivial⟩ (vl (re a0.Text w_0) (s0 1 [(21, vb (a0.Text == w_0))] ?_)))
  rcases sp h with ⟨hc21, h⟩ | ⟨hc21, h⟩
  ·rw [hc21]
   refine sg 5 [(22, vp b1 2), (23, vi a0.Int), (24, vb (decide (a0.Int ≥ (-1099511627776)))), (25, vb (decide (a0.Int ≥ (-1099511627776)))), (26, vb (decide (a0.Int ≥ (-1099511627776))))] [(ad b1 2, vi a0.Int)] ⟨hst.c 0, trivial⟩ ?_
   rcases sp h with ⟨hc22, h⟩ | ⟨hc22, h⟩
   ·rw [hc22]
    refine sg 5 [(27, vp b1 2), (28, vi a0.Int), (29, vb (decide (a0.Int ≤ 1099511627776))), (30, vb (decide (a0.Int ≤ 1099511627776))), (3, vb (decide (a0.Int ≤ 1099511627776)))] [(ad b1 2, vi a0.Int)] ⟨hst.c 0, trivial⟩ (nl (bn (tn ?_)))
    exact ⟨_, m, (decide (a0.Int ≤ 1099511627776)), (act_upds ⟨by kernel_rfl, by kernel_rfl, by kernel_rfl, trivial⟩), h, (Mem.le.refl _), hst⟩
   rw [hc22]
   refine s0 5 [(27, undef), (28, undef), (29, undef), (30, vb false), (3, vb false)] (nl (bn (tn ?_)))
   exact ⟨_, m, (false), (act_upds ⟨by kernel_rfl, by kernel_rfl, by kernel_rfl, trivial⟩), h, (Mem.le.refl _), hst⟩
  rw [hc21]
  refine s0 10 [(22, undef), (23, undef), (24, undef), (25, vb false), (26, vb false), (27, undef), (28, undef), (29, undef), (30, vb false), (3, vb false)] (nl (bn (tn ?_)))
  exact ⟨_, m, (false), (act_upds ⟨by kernel_rfl, by kernel_rfl, by kernel_rfl, trivial⟩), h, (Mem.le.refl _), hst⟩
 refine qr (s0 2 [(32, vb (a0.Kind == 3)), (31, vb (a0.Kind == 3))] (nl (tn (cn h (fun h => ?_) (fun h => ?_)))))
 ·refine rg (sg 2 [(33, vp b1 1), (34, vstr a0.Text)] [(ad b1 1, vstr a0.Text)] ⟨hst.c 0, trivial⟩ (vl (re a0.Text w_0) (s0 1 [(36, vb (a0.Text == w_0))] ?_)))
  rcases sp h with ⟨hc23, h⟩ | ⟨hc23, h⟩
  ·rw [hc23]
   refine sg 4 [(37, vp b1 2), (38, vi a0.Int), (39, vb (a0.Int == 0)), (40, vb (a0.Int == 0))] [(ad b1 2, vi a0.Int)] ⟨hst.c 0, trivial⟩ ?_
   rcases sp h with ⟨hc24, h⟩ | ⟨hc24, h⟩
   ·rw [hc24]
    refine s0 6 [(41, undef), (42, undef), (43, undef), (44, vb true), (45, vb true), (3, vb true)] (nl (bn (tn ?_)))
    exact ⟨_, m, (true), (act_upds ⟨by kernel_rfl, by kernel_rfl, by kernel_rfl, trivial⟩), h, (Mem.le.refl _), hst⟩
   rw [hc24]
   refine sg 6 [(41, vp b1 2), (42, vi a0.Int), (43, vb (a0.Int == 1)), (44, vb (a0.Int == 1)), (45, vb (a0.Int == 1)), (3, vb (a0.Int == 1))] [(ad b1 2, vi a0.Int)] ⟨hst.c 0, trivial⟩ (nl (bn (tn ?_)))
   exact ⟨_, m, ((a0.Int == 1)), (act_upds ⟨by kernel_rfl, by kernel_rfl, by kernel_rfl, trivial⟩), h, (Mem.le.refl _), hst⟩
  rw [hc23]
  refine s0 10 [(37, undef), (38, undef), (39, undef), (40, undef), (41, undef), (42, undef), (43, undef), (44, undef), (45, vb false), (3, vb false)] (nl (bn (tn ?_)))
  exact ⟨_, m, (false), (act_upds ⟨by kernel_rfl, by kernel_rfl, by kernel_rfl, trivial⟩), h, (Mem.le.refl _), hst⟩
 refine qr (s0 1 [(2, vi 12)] (nl (tn (wp_ret (br (tr (wr [vi 12] ?_)))))))
 have hst := pk0 hst
 have h := Option.some.inj h; subst h
 exact ⟨_, rfl, m, rfl, (Mem.le.refl _), hst⟩

def R_attribute_checkNode (g : World) (m : Mem) (F : List Asr) (r : Int) (v : Value) (w' : World) : Prop := ∃ (m' : Mem), v = vi r ∧ m.le m' ∧ St g m' (F) w'
theorem c_attribute_checkNode {k : Nat} {a0 : GPred} {r : Int} {g : World} {m : Mem} {F : List Asr} {w : World} {u0 : Value} (h : attribute_checkNode k a0 = some r) (hst : St g m (F) w) (hu0 : RS (TGPred) m u0 a0.Args) :
    Calls Tryz.prog 79 ⟨[va (cGPred a0 u0)]⟩ w (OPost (R_attribute_checkNode g m F) r) := by
 refine calls_enter Tryz.func79 rfl rfl ?_
 unfold attribute_checkNode at h
 obtain ⟨A1, c2, rfl⟩ := hu0.shape
 refine qr (bo_ (cGPred a0 (vs A1 a0.Args c2)) hst (fun b3 _ hst => ?_))
 refine s0 1 [(2, vi 0)] (nl (tn (qr (sg 5 [(8, vp b3 6), (9, vs A1 a0.Args c2), (10, vi ((a0.Args).length : Int)), (3, vi ((a0.Args).length : Int)), (4, vb false)] [(ad b3 6, vs A1 a0.Args c2)] ⟨hst.c 0, trivial⟩ (nl (tn (wc_join (fun a w => ∃ (f0 : Fr) (k11 : Nat) (m13 : Mem) (x9 : Bool), a = act Tryz.f79.ntmps (upds f0 [(1, vp b3 0), (2, vi 0), (4, vb x9)]) ∧ k11 ≤ k ∧ attribute_checkNode_j2 k11 a0 x9 = some r ∧ m.le m13 ∧ St g m13 (oo b3 44 (cGPred a0 (vs A1 a0.Args c2)) :: F) w) ?_ ?_)))))))
 ·rintro _ _ ⟨f0, k11, m13, x9, rfl, hk12, h, hl10, hst⟩
  unfold attribute_checkNode_j2 at h
  refine sq (wc_draw false (fun x => Rd m13 (oo b3 44 (cGPred a0 (vs A1 a0.Args c2)) :: []) x) (by kernel_rfl) ?_)
  have hst := hst.drew
  refine wpG_seg [0, 2, 3, 4] [(30, va (cGPred a0 (vs A1 a0.Args c2))), (32, vp b3 0), (33, vi a0.Op), (34, vb (a0.Op == 4))] [(ad b3 0, vi a0.Op), (ad b3 1, vstr a0.Field), (ad b3 2, vstr a0.Key), (ad b3 3, vi a0.Value.Kind), (ad b3 4, vstr a0.Value.Text), (ad b3 5, vi a0.Value.Int), (ad b3 6, vs A1 a0.Args c2), (ad b3 0, vi a0.Op)] #[true, false, true, true, true, false, false] (fuel := 3) (PQ.then_ PQ.body) (by kernel_rfl) (by kernel_rfl) (hst.rd.with_ 0 rfl (hst.rd.none_)) (fun x hx => ⟨hx.c 0, hx.c 0, hx.c 0, hx.c 0, hx.c 0, hx.c 0, hx.c 0, hx.c 0, trivial⟩) ?_
  refine wpG_exec 1 (by kernel_rfl) rfl ?_
  obtain ⟨r18, hq19, h⟩ := bs h
  refine cal (c_attribute_isTest hq19 hst (RS.mono hl10 hu0)) ?_
  rintro _ _ ⟨m20, rfl, hl21, hst⟩
  refine nl (tn (⟨_, fun _ h => h, .inr (Rd.lower hl21 (hst.rd.with_ 0 rfl (hst.rd.none_))), ?_⟩))
  refine wpG_strong (S2 := fun x => Rd m20 (oo b3 44 (cGPred a0 (vs A1 a0.Args c2)) :: []) x) (fun x hx => Rd.lower hl21 hx) ?_
  refine wpG_seg [5] [(5, vb r18)] [] #[true, true, true, true, true, true, false] (fuel := 1) (PQ.then_ PQ.body) (by kernel_rfl) (by kernel_rfl) (hst.rd.with_ 0 rfl (hst.rd.none_)) (fun x hx => trivial) ?_
  refine wpG_exec 6 (by kernel_rfl) rfl (sg 1 [(6, vb (a0.Op == 4))] [] trivial (nl (tn (⟨_, fun _ h => h, .inl ⟨rfl, allListed_of _ (by kernel_rfl)⟩, ?_⟩))))
  refine wpG_done (by kernel_rfl) (tn (wc_join (fun a w => ∃ (f0 : Fr) (k72 : Nat) (m74 : Mem), a = act Tryz.f79.ntmps (upds f0 [(1, vp b3 0), (2, vi 0)]) ∧ k72 ≤ k11 ∧ attribute_checkNode_j5 k72 a0 = some r ∧ m20.le m74 ∧ St g m74 (oo b3 44 (cGPred a0 (vs A1 a0.Args c2)) :: F) w) ?_ ?_))
  ·rintro _ _ ⟨f0, k72, m74, rfl, hk73, h, hl71, hst⟩
   unfold attribute_checkNode_j5 at h
   refine sq (qr (sg 2 [(103, vp b3 3), (104, va (cGValue a0.Value))] [(ad b3 3, vi a0.Value.Kind), (ad b3 4, vstr a0.Value.Text), (ad b3 5, vi a0.Value.Int)] ⟨hst.c 0, hst.c 0, hst.c 0, trivial⟩ ?_))
   obtain ⟨r79, hq80, h⟩ := bs h
   refine cal (c_attribute_CheckValue hq80 hst) ?_
   rintro _ _ ⟨m81, rfl, hl82, hst⟩
   refine s0 1 [(7, vi r79)] (nl (tn (qr (s0 2 [(106, vi r79), (107, vb (r79 != 0))] (nl (tn (cn h (fun h => ?_) (fun h => ?_))))))))
   ·refine qr (s0 2 [(108, vi r79), (2, vi r79)] (nl (tn (wp_ret (tr (wr [vi r79] ?_))))))
    have hst := pk0 hst
    have e83 := hl10.trans (hl21.trans (hl71.trans hl82))
    have h := Option.some.inj h; subst h
    exact ⟨_, rfl, m81, rfl, e83, hst⟩
   refine wp_skip (tn (sq (qr (sg 4 [(109, vp b3 0), (110, vi a0.Op), (111, vb (a0.Op == 6)), (112, vb (a0.Op == 6))] [(ad b3 0, vi a0.Op)] ⟨hst.c 0, trivial⟩ ?_))))
   rcases sp h with ⟨hc84, h⟩ | ⟨hc84, h⟩
   ·rw [hc84]
    refine sg 6 [(113, vp b3 3), (114, vp b3 3), (115, vi a0.Value.Kind), (116, vb (a0.Value.Kind == 3)), (117, vb (a0.Value.Kind == 3)), (118, vb (a0.Value.Kind == 3))] [(ad b3 3, vi a0.Value.Kind)] ⟨hst.c 0, trivial⟩ ?_
    rcases sp h with ⟨hc85, h⟩ | ⟨hc85, h⟩
    ·rw [hc85]
     refine s0 10 [(119, undef), (120, undef), (121, undef), (122, undef), (123, undef), (124, undef), (125, undef), (126, undef), (127, undef), (128, vb true)] (nl (tn (ct (qr (s0 1 [(2, vi 13)] (nl (tn (wp_ret (tr (wr [vi 13] ?_))))))))))
     have hst := pk0 hst
     have e86 := hl10.trans (hl21.trans (hl71.trans hl82))
     have h := Option.some.inj h; subst h
     exact ⟨_, rfl, m81, rfl, e86, hst⟩
    rw [hc85]
    refine sg 4 [(119, vp b3 0), (120, vi a0.Op), (121, vb (a0.Op == 7)), (122, vb (a0.Op == 7))] [(ad b3 0, vi a0.Op)] ⟨hst.c 0, trivial⟩ ?_
    rcases sp h with ⟨hc87, h⟩ | ⟨hc87, h⟩
    ·rw [hc87]
     refine sg 6 [(123, vp b3 3), (124, vp b3 3), (125, vi a0.Value.Kind), (126, vb (a0.Value.Kind != 1)), (127, vb (a0.Value.Kind != 1)), (128, vb (a0.Value.Kind != 1))] [(ad b3 3, vi a0.Value.Kind)] ⟨hst.c 0, trivial⟩ (nl (tn (cn h (fun h => ?_) (fun h => ?_))))
     ·refine qr (s0 1 [(2, vi 13)] (nl (tn (wp_ret (tr (wr [vi 13] ?_))))))
      have hst := pk0 hst
      have e88 := hl10.trans (hl21.trans (hl71.trans hl82))
      have h := Option.some.inj h; subst h
      exact ⟨_, rfl, m81, rfl, e88, hst⟩
     refine wp_skip (tn (qr (s0 1 [(2, vi 0)] (nl (tn (wp_ret (wr [vi 0] ?_)))))))
     have hst := pk0 hst
     have e89 := hl10.trans (hl21.trans (hl71.trans hl82))
     have h := Option.some.inj h; subst h
     exact ⟨_, rfl, m81, rfl, e89, hst⟩
    rw [hc87]
    refine s0 6 [(123, undef), (124, undef), (125, undef), (126, undef), (127, vb false), (128, vb false)] (nl (tn (cf (wp_skip (tn (qr (s0 1 [(2, vi 0)] (nl (tn (wp_ret (wr [vi 0] ?_)))))))))))
    have hst := pk0 hst
    have e90 := hl10.trans (hl21.trans (hl71.trans hl82))
    have h := Option.some.inj h; subst h
    exact ⟨_, rfl, m81, rfl, e90, hst⟩
   rw [hc84]
   refine sg 10 [(113, undef), (114, undef), (115, undef), (116, undef), (117, vb false), (118, vb false), (119, vp b3 0), (120, vi a0.Op), (121, vb (a0.Op == 7)), (122, vb (a0.Op == 7))] [(ad b3 0, vi a0.Op)] ⟨hst.c 0, trivial⟩ ?_
   rcases sp h with ⟨hc91, h⟩ | ⟨hc91, h⟩
   ·rw [hc91]
    refine sg 6 [(123, vp b3 3), (124, vp b3 3), (125, vi a0.Value.Kind), (126, vb (a0.Value.Kind != 1)), (127, vb (a0.Value.Kind != 1)), (128, vb (a0.Value.Kind != 1))] [(ad b3 3, vi a0.Value.Kind)] ⟨hst.c 0, trivial⟩ (nl (tn (cn h (fun h => ?_) (fun h => ?_))))
    ·refine qr (s0 1 [(2, vi 13)] (nl (tn (wp_ret (tr (wr [vi 13] ?_))))))
     have hst := pk0 hst
     have e92 := hl10.trans (hl21.trans (hl71.trans hl82))
     have h := Option.some.inj h; subst h
     exact ⟨_, rfl, m81, rfl, e92, hst⟩
    refine wp_skip (tn (qr (s0 1 [(2, vi 0)] (nl (tn (wp_ret (wr [vi 0] ?_)))))))
    have hst := pk0 hst
    have e93 := hl10.trans (hl21.trans (hl71.trans hl82))
    have h := Option.some.inj h; subst h
    exact ⟨_, rfl, m81, rfl, e93, hst⟩
   rw [hc91]
   refine s0 6 [(123, undef), (124, undef), (125, undef), (126, undef), (127, vb false), (128, vb false)] (nl (tn (cf (wp_skip (tn (qr (s0 1 [(2, vi 0)] (nl (tn (wp_ret (wr [vi 0] ?_)))))))))))
   have hst := pk0 hst
   have e94 := hl10.trans (hl21.trans (hl71.trans hl82))
   have h := Option.some.inj h; subst h
   exact ⟨_, rfl, m81, rfl, e94, hst⟩
  refine bk (wc_join (fun a w => ∃ (f0 : Fr) (k105 : Nat) (m107 : Mem) (x103 : Bool), a = act Tryz.f79.ntmps (upds f0 [(1, vp b3 0), (2, vi 0), (5, vb r18), (6, vb (a0.Op == 4)), (35, vb x103)]) ∧ k105 ≤ k11 ∧ attribute_checkNode_j6 k105 a0 r18 x103 = some r ∧ m20.le m107 ∧ St g m107 (oo b3 44 (cGPred a0 (vs A1 a0.Args c2)) :: F) w) ?_ ?_)
  ·rintro _ _ ⟨f0, k105, m107, x103, rfl, hk106, h, hl104, hst⟩
   unfold attribute_checkNode_j6 at h
   refine cn h (fun h => ?_) (fun h => ?_)
   ·refine qr (s0 1 [(2, vi 3)] (nl (tn (wp_ret (br (tr (wr [vi 3] ?_)))))))
    have hst := pk0 hst
    have e108 := hl10.trans (hl21.trans hl104)
    have h := Option.some.inj h; subst h
    exact ⟨_, rfl, m107, rfl, e108, hst⟩
   refine wc_join (fun a w => ∃ (f0 : Fr) (k116 : Nat) (m118 : Mem) (x114 : Bool), a = act Tryz.f79.ntmps (upds f0 [(1, vp b3 0), (2, vi 0), (5, vb r18), (66, vb x114)]) ∧ k116 ≤ k105 ∧ attribute_checkNode_j7 k116 a0 r18 x114 = some r ∧ m107.le m118 ∧ St g m118 (oo b3 44 (cGPred a0 (vs A1 a0.Args c2)) :: F) w) ?_ ?_
   ·rintro _ _ ⟨f0, k116, m118, x114, rfl, hk117, h, hl115, hst⟩
    unfold attribute_checkNode_j7 at h
    refine cn h (fun h => ?_) (fun h => ?_)
    ·refine qr (s0 1 [(2, vi 11)] (nl (tn (wp_ret (br (tr (wr [vi 11] ?_)))))))
     have hst := pk0 hst
     have e119 := hl10.trans (hl21.trans (hl104.trans hl115))
     have h := Option.some.inj h; subst h
     exact ⟨_, rfl, m118, rfl, e119, hst⟩
    refine qr (s0 3 [(75, vb r18), (76, vb (!r18)), (74, vb (!r18))] (nl (tn (cn h (fun h => ?_) (fun h => ?_)))))
    ·refine qr (s0 1 [(2, vi 0)] (nl (tn (wp_ret (br (tr (wr [vi 0] ?_)))))))
     have hst := pk0 hst
     have e120 := hl10.trans (hl21.trans (hl104.trans hl115))
     have h := Option.some.inj h; subst h
     exact ⟨_, rfl, m118, rfl, e120, hst⟩
    refine qr (sg 2 [(78, vp b3 1), (79, vstr a0.Field)] [(ad b3 1, vstr a0.Field)] ⟨hst.c 0, trivial⟩ ?_)
    obtain ⟨r121, hq122, h⟩ := bs h
    refine cal (c_attribute_IsName hq122 hst) ?_
    rintro _ _ ⟨m123, rfl, hl124, hst⟩
    refine s0 2 [(81, vb (!r121)), (82, vb (!r121))] ?_
    rcases sp h with ⟨hc125, h⟩ | ⟨hc125, h⟩
    ·rw [hc125]
     refine s0 21 [(83, undef), (84, undef), (85, undef), (86, undef), (87, undef), (88, undef), (89, undef), (90, undef), (91, undef), (92, vb true), (93, vb true), (94, undef), (95, undef), (96, undef), (97, undef), (98, undef), (99, undef), (100, undef), (101, undef), (102, vb true), (77, vb true)] (nl (tn (ct (qr (s0 1 [(2, vi 11)] (nl (tn (wp_ret (br (tr (wr [vi 11] ?_)))))))))))
     have hst := pk0 hst
     have e126 := hl10.trans (hl21.trans (hl104.trans (hl115.trans hl124)))
     have h := Option.some.inj h; subst h
     exact ⟨_, rfl, m123, rfl, e126, hst⟩
    rw [hc125]
    refine sg 2 [(83, vp b3 1), (84, vstr a0.Field)] [(ad b3 1, vstr a0.Field)] ⟨hst.c 0, trivial⟩ (vl (re a0.Field w_attr) (s0 1 [(86, vb (a0.Field == w_attr))] ?_))
    rcases sp h with ⟨hc127, h⟩ | ⟨hc127, h⟩
    ·rw [hc127]
     refine sg 2 [(87, vp b3 2), (88, vstr a0.Key)] [(ad b3 2, vstr a0.Key)] ⟨hst.c 0, trivial⟩ ?_
     obtain ⟨r128, hq129, h⟩ := bs h
     refine cal (c_attribute_IsName hq129 hst) ?_
     rintro _ _ ⟨m130, rfl, hl131, hst⟩
     refine s0 4 [(90, vb (!r128)), (91, vb (!r128)), (92, vb (!r128)), (93, vb (!r128))] ?_
     rcases sp h with ⟨hc132, h⟩ | ⟨hc132, h⟩
     ·rw [hc132]
      refine s0 10 [(94, undef), (95, undef), (96, undef), (97, undef), (98, undef), (99, undef), (100, undef), (101, undef), (102, vb true), (77, vb true)] (nl (tn (ct (qr (s0 1 [(2, vi 11)] (nl (tn (wp_ret (br (tr (wr [vi 11] ?_)))))))))))
      have hst := pk0 hst
      have e133 := hl10.trans (hl21.trans (hl104.trans (hl115.trans (hl124.trans hl131))))
      have h := Option.some.inj h; subst h
      exact ⟨_, rfl, m130, rfl, e133, hst⟩
     rw [hc132]
     refine sg 2 [(94, vp b3 1), (95, vstr a0.Field)] [(ad b3 1, vstr a0.Field)] ⟨hst.c 0, trivial⟩ (vl (rne a0.Field w_attr) (s0 1 [(97, vb (!(a0.Field == w_attr)))] ?_))
     rcases sp h with ⟨hc134, h⟩ | ⟨hc134, h⟩
     ·rw [hc134]
      refine sg 2 [(98, vp b3 2), (99, vstr a0.Key)] [(ad b3 2, vstr a0.Key)] ⟨hst.c 0, trivial⟩ (vl (rne a0.Key w_0) (s0 3 [(101, vb (!(a0.Key == w_0))), (102, vb (!(a0.Key == w_0))), (77, vb (!(a0.Key == w_0)))] (nl (tn (cn h (fun h => ?_) (fun h => ?_))))))
      ·refine qr (s0 1 [(2, vi 11)] (nl (tn (wp_ret (br (tr (wr [vi 11] ?_)))))))
       have hst := pk0 hst
       have e135 := hl10.trans (hl21.trans (hl104.trans (hl115.trans (hl124.trans hl131))))
       have h := Option.some.inj h; subst h
       exact ⟨_, rfl, m130, rfl, e135, hst⟩
      refine wp_skip (bn (tn ?_))
      have e136 := hl104.trans (hl115.trans (hl124.trans hl131))
      exact ⟨_, k116, m130, (act_upds ⟨by kernel_rfl, by kernel_rfl, trivial⟩), (by omega), h, e136, hst⟩
     rw [hc134]
     refine s0 6 [(98, undef), (99, undef), (100, undef), (101, vb false), (102, vb false), (77, vb false)] (nl (tn (cf (wp_skip (bn (tn ?_))))))
     have e137 := hl104.trans (hl115.trans (hl124.trans hl131))
     exact ⟨_, k116, m130, (act_upds ⟨by kernel_rfl, by kernel_rfl, trivial⟩), (by omega), h, e137, hst⟩
    rw [hc127]
    refine sg 9 [(87, undef), (88, undef), (89, undef), (90, undef), (91, vb false), (92, vb false), (93, vb false), (94, vp b3 1), (95, vstr a0.Field)] [(ad b3 1, vstr a0.Field)] ⟨hst.c 0, trivial⟩ (vl (rne a0.Field w_attr) (s0 1 [(97, vb (!(a0.Field == w_attr)))] ?_))
    rcases sp h with ⟨hc138, h⟩ | ⟨hc138, h⟩
    ·rw [hc138]
     refine sg 2 [(98, vp b3 2), (99, vstr a0.Key)] [(ad b3 2, vstr a0.Key)] ⟨hst.c 0, trivial⟩ (vl (rne a0.Key w_0) (s0 3 [(101, vb (!(a0.Key == w_0))), (102, vb (!(a0.Key == w_0))), (77, vb (!(a0.Key == w_0)))] (nl (tn (cn h (fun h => ?_) (fun h => ?_))))))
     ·refine qr (s0 1 [(2, vi 11)] (nl (tn (wp_ret (br (tr (wr [vi 11] ?_)))))))
      have hst := pk0 hst
      have e139 := hl10.trans (hl21.trans (hl104.trans (hl115.trans hl124)))
      have h := Option.some.inj h; subst h
      exact ⟨_, rfl, m123, rfl, e139, hst⟩
     refine wp_skip (bn (tn ?_))
     have e140 := hl104.trans (hl115.trans hl124)
     exact ⟨_, k116, m123, (act_upds ⟨by kernel_rfl, by kernel_rfl, trivial⟩), (by omega), h, e140, hst⟩
    rw [hc138]
    refine s0 6 [(98, undef), (99, undef), (100, undef), (101, vb false), (102, vb false), (77, vb false)] (nl (tn (cf (wp_skip (bn (tn ?_))))))
    have e141 := hl104.trans (hl115.trans hl124)
    exact ⟨_, k116, m123, (act_upds ⟨by kernel_rfl, by kernel_rfl, trivial⟩), (by omega), h, e141, hst⟩
   refine rg (s0 2 [(67, vb (a0.Op == 4)), (68, vb (a0.Op == 4))] ?_)
   rcases sp h with ⟨hc142, h⟩ | ⟨hc142, h⟩
   ·rw [hc142]
    refine sg 2 [(69, vp b3 2), (70, vstr a0.Key)] [(ad b3 2, vstr a0.Key)] ⟨hst.c 0, trivial⟩ ?_
    obtain ⟨r143, hq144, h⟩ := bs h
    refine cal (c_attribute_IsName hq144 hst) ?_
    rintro _ _ ⟨m145, rfl, hl146, hst⟩
    refine s0 3 [(72, vb (!r143)), (73, vb (!r143)), (66, vb (!r143))] (nl (tn ?_))
    exact ⟨_, k105, m145, (!r143), (act_upds ⟨by kernel_rfl, by kernel_rfl, by kernel_rfl, by kernel_rfl, trivial⟩), (by omega), h, hl146, hst⟩
   rw [hc142]
   refine s0 6 [(69, undef), (70, undef), (71, undef), (72, undef), (73, vb false), (66, vb false)] (nl (tn ?_))
   exact ⟨_, k105, m107, (false), (act_upds ⟨by kernel_rfl, by kernel_rfl, by kernel_rfl, by kernel_rfl, trivial⟩), (by omega), h, (Mem.le.refl _), hst⟩
  refine rg (s0 3 [(36, vb x9), (37, vb (!x9)), (38, vb (!x9))] ?_)
  rcases sp h with ⟨hc147, h⟩ | ⟨hc147, h⟩
  ·rw [hc147]
   refine s0 28 [(39, undef), (40, undef), (41, undef), (42, undef), (43, undef), (44, undef), (45, undef), (46, undef), (47, undef), (48, undef), (49, undef), (50, undef), (51, undef), (52, vb true), (53, vb true), (54, undef), (55, undef), (56, undef), (57, undef), (58, undef), (59, undef), (60, undef), (61, undef), (62, undef), (63, undef), (64, undef), (65, vb true), (35, vb true)] (nl (tn ?_))
   exact ⟨_, k11, m20, (true), (act_upds ⟨by kernel_rfl, by kernel_rfl, by kernel_rfl, by kernel_rfl, by kernel_rfl, trivial⟩), (by omega), h, (Mem.le.refl _), hst⟩
  rw [hc147]
  refine s0 3 [(39, vb r18), (40, vb (!r18)), (41, vb (!r18))] ?_
  rcases sp h with ⟨hc148, h⟩ | ⟨hc148, h⟩
  ·rw [hc148]
   refine sg 2 [(42, vp b3 1), (43, vstr a0.Field)] [(ad b3 1, vstr a0.Field)] ⟨hst.c 0, trivial⟩ (vl (rne a0.Field w_0) (s0 1 [(45, vb (!(a0.Field == w_0)))] ?_))
   rcases sp h with ⟨hc149, h⟩ | ⟨hc149, h⟩
   ·rw [hc149]
    refine s0 21 [(46, undef), (47, undef), (48, undef), (49, undef), (50, vb true), (51, vb true), (52, vb true), (53, vb true), (54, undef), (55, undef), (56, undef), (57, undef), (58, undef), (59, undef), (60, undef), (61, undef), (62, undef), (63, undef), (64, undef), (65, vb true), (35, vb true)] (nl (tn ?_))
    exact ⟨_, k11, m20, (true), (act_upds ⟨by kernel_rfl, by kernel_rfl, by kernel_rfl, by kernel_rfl, by kernel_rfl, trivial⟩), (by omega), h, (Mem.le.refl _), hst⟩
   rw [hc149]
   refine sg 3 [(46, vp b3 3), (47, va (cGValue a0.Value)), (48, va [vi 0, vstr w_0, vi 0])] [(ad b3 3, vi a0.Value.Kind), (ad b3 4, vstr a0.Value.Text), (ad b3 5, vi a0.Value.Int)] ⟨hst.c 0, hst.c 0, hst.c 0, trivial⟩ (vl (ran ((a0.Value.Kind == 0) && ((a0.Value.Text == w_0) && ((a0.Value.Int == 0) && true))) (cGValue a0.Value) [vi 0, vstr w_0, vi 0]) (s0 4 [(50, vb (!((a0.Value.Kind == 0) && ((a0.Value.Text == w_0) && ((a0.Value.Int == 0) && true))))), (51, vb (!((a0.Value.Kind == 0) && ((a0.Value.Text == w_0) && ((a0.Value.Int == 0) && true))))), (52, vb (!((a0.Value.Kind == 0) && ((a0.Value.Text == w_0) && ((a0.Value.Int == 0) && true))))), (53, vb (!((a0.Value.Kind == 0) && ((a0.Value.Text == w_0) && ((a0.Value.Int == 0) && true)))))] ?_))
   rcases sp h with ⟨hc150, h⟩ | ⟨hc150, h⟩
   ·rw [hc150]
    refine s0 13 [(54, undef), (55, undef), (56, undef), (57, undef), (58, undef), (59, undef), (60, undef), (61, undef), (62, undef), (63, undef), (64, undef), (65, vb true), (35, vb true)] (nl (tn ?_))
    exact ⟨_, k11, m20, (true), (act_upds ⟨by kernel_rfl, by kernel_rfl, by kernel_rfl, by kernel_rfl, by kernel_rfl, trivial⟩), (by omega), h, (Mem.le.refl _), hst⟩
   rw [hc150]
   refine s0 3 [(54, vb r18), (55, vb (!r18)), (56, vb (!r18))] ?_
   rcases sp h with ⟨hc151, h⟩ | ⟨hc151, h⟩
   ·rw [hc151]
    refine s0 4 [(57, vb (a0.Op == 4)), (58, vb (!(a0.Op == 4))), (59, vb (!(a0.Op == 4))), (60, vb (!(a0.Op == 4)))] ?_
    rcases sp h with ⟨hc152, h⟩ | ⟨hc152, h⟩
    ·rw [hc152]
     refine sg 2 [(61, vp b3 2), (62, vstr a0.Key)] [(ad b3 2, vstr a0.Key)] ⟨hst.c 0, trivial⟩ (vl (rne a0.Key w_0) (s0 3 [(64, vb (!(a0.Key == w_0))), (65, vb (!(a0.Key == w_0))), (35, vb (!(a0.Key == w_0)))] (nl (tn ?_))))
     exact ⟨_, k11, m20, (!(a0.Key == w_0)), (act_upds ⟨by kernel_rfl, by kernel_rfl, by kernel_rfl, by kernel_rfl, by kernel_rfl, trivial⟩), (by omega), h, (Mem.le.refl _), hst⟩
    rw [hc152]
    refine s0 6 [(61, undef), (62, undef), (63, undef), (64, vb false), (65, vb false), (35, vb false)] (nl (tn ?_))
    exact ⟨_, k11, m20, (false), (act_upds ⟨by kernel_rfl, by kernel_rfl, by kernel_rfl, by kernel_rfl, by kernel_rfl, trivial⟩), (by omega), h, (Mem.le.refl _), hst⟩
   rw [hc151]
   refine s0 10 [(57, undef), (58, undef), (59, vb false), (60, vb false), (61, undef), (62, undef), (63, undef), (64, vb false), (65, vb false), (35, vb false)] (nl (tn ?_))
   exact ⟨_, k11, m20, (false), (act_upds ⟨by kernel_rfl, by kernel_rfl, by kernel_rfl, by kernel_rfl, by kernel_rfl, trivial⟩), (by omega), h, (Mem.le.refl _), hst⟩
  rw [hc148]
  refine s0 15 [(42, undef), (43, undef), (44, undef), (45, undef), (46, undef), (47, undef), (48, undef), (49, undef), (50, undef), (51, vb false), (52, vb false), (53, vb false), (54, vb r18), (55, vb (!r18)), (56, vb (!r18))] ?_
  rcases sp h with ⟨hc153, h⟩ | ⟨hc153, h⟩
  ·rw [hc153]
   refine s0 4 [(57, vb (a0.Op == 4)), (58, vb (!(a0.Op == 4))), (59, vb (!(a0.Op == 4))), (60, vb (!(a0.Op == 4)))] ?_
   rcases sp h with ⟨hc154, h⟩ | ⟨hc154, h⟩
   ·rw [hc154]
    refine sg 2 [(61, vp b3 2), (62, vstr a0.Key)] [(ad b3 2, vstr a0.Key)] ⟨hst.c 0, trivial⟩ (vl (rne a0.Key w_0) (s0 3 [(64, vb (!(a0.Key == w_0))), (65, vb (!(a0.Key == w_0))), (35, vb (!(a0.Key == w_0)))] (nl (tn ?_))))
    exact ⟨_, k11, m20, (!(a0.Key == w_0)), (act_upds ⟨by kernel_rfl, by kernel_rfl, by kernel_rfl, by kernel_rfl, by kernel_rfl, trivial⟩), (by omega), h, (Mem.le.refl _), hst⟩
   rw [hc154]
   refine s0 6 [(61, undef), (62, undef), (63, undef), (64, vb false), (65, vb false), (35, vb false)] (nl (tn ?_))
   exact ⟨_, k11, m20, (false), (act_upds ⟨by kernel_rfl, by kernel_rfl, by kernel_rfl, by kernel_rfl, by kernel_rfl, trivial⟩), (by omega), h, (Mem.le.refl _), hst⟩
  rw [hc153]
  refine s0 10 [(57, undef), (58, undef), (59, vb false), (60, vb false), (61, undef), (62, undef), (63, undef), (64, vb false), (65, vb false), (35, vb false)] (nl (tn ?_))
  exact ⟨_, k11, m20, (false), (act_upds ⟨by kernel_rfl, by kernel_rfl, by kernel_rfl, by kernel_rfl, by kernel_rfl, trivial⟩), (by omega), h, (Mem.le.refl _), hst⟩
 refine qr (sg 2 [(11, vp b3 0), (12, vi a0.Op)] [(ad b3 0, vi a0.Op)] ⟨hst.c 0, trivial⟩ (nl (tn (bk (wc_join (fun a w => ∃ (f0 : Fr) (k157 : Nat) (m159 : Mem) (x155 : Bool), a = act Tryz.f79.ntmps (upds f0 [(1, vp b3 0), (2, vi 0), (3, vi ((a0.Args).length : Int)), (4, vb false), (12, vi a0.Op), (13, vb x155)]) ∧ k157 ≤ k ∧ attribute_checkNode_j8 k157 a0 x155 = some r ∧ m.le m159 ∧ St g m159 (oo b3 44 (cGPred a0 (vs A1 a0.Args c2)) :: F) w) ?_ ?_)))))
 ·rintro _ _ ⟨f0, k157, m159, x155, rfl, hk158, h, hl156, hst⟩
  unfold attribute_checkNode_j8 at h
  refine cn h (fun h => ?_) (fun h => ?_)
  ·refine rg (s0 3 [(16, vi ((a0.Args).length : Int)), (17, vb (decide (((a0.Args).length : Int) ≥ 1))), (4, vb (decide (((a0.Args).length : Int) ≥ 1)))] (nl (bn (tn ?_))))
   exact ⟨_, k157, m159, (decide (((a0.Args).length : Int) ≥ 1)), (act_upds ⟨by kernel_rfl, by kernel_rfl, by kernel_rfl, trivial⟩), (by omega), h, hl156, hst⟩
  refine qr (s0 2 [(19, vb (a0.Op == 3)), (18, vb (a0.Op == 3))] (nl (tn (cn h (fun h => ?_) (fun h => ?_)))))
  ·refine rg (s0 3 [(20, vi ((a0.Args).length : Int)), (21, vb (((a0.Args).length : Int) == 1)), (4, vb (((a0.Args).length : Int) == 1))] (nl (bn (tn ?_))))
   exact ⟨_, k157, m159, ((((a0.Args).length : Int) == 1)), (act_upds ⟨by kernel_rfl, by kernel_rfl, by kernel_rfl, trivial⟩), (by omega), h, hl156, hst⟩
  refine sq (qr (s0 2 [(23, vb (a0.Op == 0)), (22, vb (a0.Op == 0))] (nl (tn (cn h (fun h => ?_) (fun h => ?_))))))
  ·refine wp_skip (tn (cn h (fun h => ?_) (fun h => ?_)))
   ·refine rg (s0 3 [(28, vi ((a0.Args).length : Int)), (29, vb (((a0.Args).length : Int) == 0)), (4, vb (((a0.Args).length : Int) == 0))] (nl (bn (tn ?_))))
    exact ⟨_, k157, m159, ((((a0.Args).length : Int) == 0)), (act_upds ⟨by kernel_rfl, by kernel_rfl, by kernel_rfl, trivial⟩), (by omega), h, hl156, hst⟩
   refine qr (s0 1 [(2, vi 12)] (nl (tn (wp_ret (br (tr (wr [vi 12] ?_)))))))
   have hst := pk0 hst
   have h := Option.some.inj h; subst h
   exact ⟨_, rfl, m159, rfl, hl156, hst⟩
  refine qr (s0 2 [(24, vb (a0.Op == 4)), (22, vb (a0.Op == 4))] (nl (tn (cn h (fun h => ?_) (fun h => ?_)))))
  ·refine wp_skip (tn (cn h (fun h => ?_) (fun h => ?_)))
   ·refine rg (s0 3 [(28, vi ((a0.Args).length : Int)), (29, vb (((a0.Args).length : Int) == 0)), (4, vb (((a0.Args).length : Int) == 0))] (nl (bn (tn ?_))))
    exact ⟨_, k157, m159, ((((a0.Args).length : Int) == 0)), (act_upds ⟨by kernel_rfl, by kernel_rfl, by kernel_rfl, trivial⟩), (by omega), h, hl156, hst⟩
   refine qr (s0 1 [(2, vi 12)] (nl (tn (wp_ret (br (tr (wr [vi 12] ?_)))))))
   have hst := pk0 hst
   have h := Option.some.inj h; subst h
   exact ⟨_, rfl, m159, rfl, hl156, hst⟩
  refine qr (s0 2 [(25, vb (a0.Op == 5)), (22, vb (a0.Op == 5))] (nl (tn (cn h (fun h => ?_) (fun h => ?_)))))
  ·refine wp_skip (tn (cn h (fun h => ?_) (fun h => ?_)))
   ·refine rg (s0 3 [(28, vi ((a0.Args).length : Int)), (29, vb (((a0.Args).length : Int) == 0)), (4, vb (((a0.Args).length : Int) == 0))] (nl (bn (tn ?_))))
    exact ⟨_, k157, m159, ((((a0.Args).length : Int) == 0)), (act_upds ⟨by kernel_rfl, by kernel_rfl, by kernel_rfl, trivial⟩), (by omega), h, hl156, hst⟩
   refine qr (s0 1 [(2, vi 12)] (nl (tn (wp_ret (br (tr (wr [vi 12] ?_)))))))
   have hst := pk0 hst
   have h := Option.some.inj h; subst h
   exact ⟨_, rfl, m159, rfl, hl156, hst⟩
  refine qr (s0 2 [(26, vb (a0.Op == 6)), (22, vb (a0.Op == 6))] (nl (tn (cn h (fun h => ?_) (fun h => ?_)))))
  ·refine wp_skip (tn (cn h (fun h => ?_) (fun h => ?_)))
   ·refine rg (s0 3 [(28, vi ((a0.Args).length : Int)), (29, vb (((a0.Args).length : Int) == 0)), (4, vb (((a0.Args).length : Int) == 0))] (nl (bn (tn ?_))))
    exact ⟨_, k157, m159, ((((a0.Args).length : Int) == 0)), (act_upds ⟨by kernel_rfl, by kernel_rfl, by kernel_rfl, trivial⟩), (by omega), h, hl156, hst⟩
   refine qr (s0 1 [(2, vi 12)] (nl (tn (wp_ret (br (tr (wr [vi 12] ?_)))))))
   have hst := pk0 hst
   have h := Option.some.inj h; subst h
   exact ⟨_, rfl, m159, rfl, hl156, hst⟩
  refine rg (s0 2 [(27, vb (a0.Op == 7)), (22, vb (a0.Op == 7))] (nl (tn (cn h (fun h => ?_) (fun h => ?_)))))
  ·refine rg (s0 3 [(28, vi ((a0.Args).length : Int)), (29, vb (((a0.Args).length : Int) == 0)), (4, vb (((a0.Args).length : Int) == 0))] (nl (bn (tn ?_))))
   exact ⟨_, k157, m159, ((((a0.Args).length : Int) == 0)), (act_upds ⟨by kernel_rfl, by kernel_rfl, by kernel_rfl, trivial⟩), (by omega), h, hl156, hst⟩
  refine qr (s0 1 [(2, vi 12)] (nl (tn (wp_ret (br (tr (wr [vi 12] ?_)))))))
  have hst := pk0 hst
  have h := Option.some.inj h; subst h
  exact ⟨_, rfl, m159, rfl, hl156, hst⟩
 refine qr (s0 2 [(14, vb (a0.Op == 1)), (13, vb (a0.Op == 1))] (nl (tn (cn h (fun h => ?_) (fun h => ?_)))))
 ·refine wp_skip (tn ?_)
  exact ⟨_, k, m, ((a0.Op == 1)), (act_upds ⟨by kernel_rfl, by kernel_rfl, by kernel_rfl, by kernel_rfl, by kernel_rfl, by kernel_rfl, trivial⟩), (by omega), h, (Mem.le.refl _), hst⟩
 refine rg (s0 2 [(15, vb (a0.Op == 2)), (13, vb (a0.Op == 2))] (nl (tn ?_)))
 exact ⟨_, k, m, ((a0.Op == 2)), (act_upds ⟨by kernel_rfl, by kernel_rfl, by kernel_rfl, by kernel_rfl, by kernel_rfl, by kernel_rfl, trivial⟩), (by omega), h, (Mem.le.refl _), hst⟩

def R_attribute_Check_c1 (g : World) (m : Mem) (F : List Asr) (ob2 : Nat) (ob3 : Nat) (r : Int × Int) (v : Value) (w' : World) : Prop := ∃ (m' : Mem), v = vi r.2 ∧ m.le m' ∧ St g m' (oo ob2 3 [vi r.1] :: oo ob3 136 [vf 78 [] [vp ob2 0, vp ob3 0]] :: F) w'
structure I_attribute_Check_c1 (k : Nat) : Prop where
  c_attribute_Check_c1 : ∀ {a0 : GPred} {a1 : Int} {a2 : Int} {r : Int × Int} {g : World} {m : Mem} {F : List Asr} {w : World} {ob2 : Nat} {ob3 : Nat} {u0 : Value} (h : attribute_Check_c1 k a0 a1 a2 = some r) (hst : St g m (oo ob2 3 [vi a2] :: oo ob3 136 [vf 78 [] [vp ob2 0, vp ob3 0]] :: F) w) (hu0 : RS (TGPred) m u0 a0.Args),
    Calls Tryz.prog 78 ⟨[va (cGPred a0 u0), vi a1, vp ob2 0, vp ob3 0]⟩ w (OPost (R_attribute_Check_c1 g m F ob2 ob3) r)
theorem s_attribute_Check_c1 {k : Nat} (ih : ∀ j, j < k → I_attribute_Check_c1 j) {a0 : GPred} {a1 : Int} {a2 : Int} {r : Int × Int} {g : World} {m : Mem} {F : List Asr} {w : World} {ob2 : Nat} {ob3 : Nat} {u0 : Value} (h : attribute_Check_c1 k a0 a1 a2 = some r) (hst : St g m (oo ob2 3 [vi a2] :: oo ob3 136 [vf 78 [] [vp ob2 0, vp ob3 0]] :: F) w) (hu0 : RS (TGPred) m u0 a0.Args) :
    Calls Tryz.prog 78 ⟨[va (cGPred a0 u0), vi a1, vp ob2 0, vp ob3 0]⟩ w (OPost (R_attribute_Check_c1 g m F ob2 ob3) r) := by
 refine calls_enter Tryz.func78 rfl rfl ?_
 obtain _ | k1 := k
 ·simp [attribute_Check_c1] at h
 rw [attribute_Check_c1] at h
 obtain ⟨A1, c2, rfl⟩ := hu0.shape
 refine qr (bo_ (cGPred a0 (vs A1 a0.Args c2)) hst (fun b3 _ hst => ?_))
 refine s0 1 [(6, vi 0)] (nl (tn (sq (bk (qr (sg 3 [(12, vi a2), (13, vb (decide (a2 ≥ 64))), (11, vb (decide (a2 ≥ 64)))] [(ad ob2 0, vi a2)] ⟨hst.c 1, trivial⟩ (nl (tn (cn h (fun h => ?_) (fun h => ?_))))))))))
 ·refine qr (s0 1 [(6, vi 6)] (nl (tn (wp_ret (br (tr (wr [vi 6] ?_)))))))
  have hst := pk0 hst
  cases h
  exact ⟨_, rfl, m, rfl, (Mem.le.refl _), hst⟩
 refine qr (s0 3 [(15, vi a1), (16, vb (decide (a1 > 16))), (14, vb (decide (a1 > 16)))] (nl (tn (cn h (fun h => ?_) (fun h => ?_)))))
 ·refine qr (s0 1 [(6, vi 15)] (nl (tn (wp_ret (br (tr (wr [vi 15] ?_)))))))
  have hst := pk0 hst
  cases h
  exact ⟨_, rfl, m, rfl, (Mem.le.refl _), hst⟩
 refine wp_skip (bn (tn (qr (sg 2 [(17, vi a2), (18, vi (w64 (a2 + 1)))] [(ad ob2 0, vi a2)] ⟨hst.c 1, trivial⟩ (so1 0 [vi (w64 (a2 + 1))] [vi (w64 (a2 + 1))] hst (fun _ hst => ?_))))))
 refine nl (tn (sq (qr (sg 1 [(19, va (cGPred a0 (vs A1 a0.Args c2)))] [(ad b3 0, vi a0.Op), (ad b3 1, vstr a0.Field), (ad b3 2, vstr a0.Key), (ad b3 3, vi a0.Value.Kind), (ad b3 4, vstr a0.Value.Text), (ad b3 5, vi a0.Value.Int), (ad b3 6, vs A1 a0.Args c2)] ⟨hst.c 0, hst.c 0, hst.c 0, hst.c 0, hst.c 0, hst.c 0, hst.c 0, trivial⟩ ?_))))
 obtain ⟨r8, hq9, h⟩ := bs h
 refine cal (c_attribute_checkNode hq9 hst hu0) ?_
 rintro _ _ ⟨m10, rfl, hl11, hst⟩
 refine s0 1 [(7, vi r8)] (nl (tn (qr (s0 2 [(21, vi r8), (22, vb (r8 != 0))] (nl (tn (cn h (fun h => ?_) (fun h => ?_))))))))
 ·refine qr (s0 2 [(23, vi r8), (6, vi r8)] (nl (tn (wp_ret (tr (wr [vi r8] ?_))))))
  have hst := pk0 hst
  cases h
  exact ⟨_, rfl, m10, rfl, hl11, hst⟩
 refine wp_skip (tn (sq (qr (sg 4 [(24, vp b3 6), (25, vs A1 a0.Args c2), (26, vi ((a0.Args).length : Int)), (27, vi 0)] [(ad b3 6, vs A1 a0.Args c2)] ⟨hst.c 0, trivial⟩ (nl (tn (bk ?_)))))))
 have hst := pk0 hst
 refine wc_loop (fun kk a w => ∃ (f0 : Fr) (m60 : Mem) (x33 : Int) (x34 : Int), a = act Tryz.f78.ntmps (upds f0 [(1, vi a1), (3, vp ob3 0), (6, vi 0), (25, vs A1 a0.Args c2), (26, vi ((a0.Args).length : Int)), (27, vi x34)]) ∧ kk ≤ k1 ∧ attribute_Check_c1_l1 kk a0 a1 x33 x34 = some r ∧ m10.le m60 ∧ St g m60 (oo ob2 3 [vi x33] :: oo ob3 136 [vf 78 [] [vp ob2 0, vp ob3 0]] :: F) w) k1 ?_ ?_
 ·exact ⟨_, m10, (w64 (a2 + 1)), (0), (act_upds ⟨by kernel_rfl, by kernel_rfl, by kernel_rfl, by kernel_rfl, by kernel_rfl, by kernel_rfl, trivial⟩), (Nat.le_refl _), h, (Mem.le.refl _), hst⟩
 rintro k58 ih59 _ _ ⟨f0, m60, x33, x34, rfl, hk57, h, hl56, hst⟩
 obtain _ | k62 := k58
 ·simp [attribute_Check_c1_l1] at h
 rw [attribute_Check_c1_l1] at h
 refine qr (s0 1 [(28, vb (decide (x34 < ((a0.Args).length : Int))))] (nl (tn (sq (cn h (fun h => ?_) (fun h => ?_))))))
 ·refine wp_skip (tn (sq (bk (qr ?_))))
  obtain ⟨x64, hx65, h⟩ := ix h
  have e72 := hl11.trans hl56
  obtain ⟨b66, o67, cs68, hR69, hA70, hI71⟩ := RS.ix (P := Tryz.prog) (RS.mono e72 hu0) hx65
  obtain ⟨v73, rfl, hv73⟩ := TGPred.open_ hR69
  obtain ⟨A74, c75, rfl⟩ := hv73.shape
  refine vl (hI71.r .i64) (sg 1 [(30, va (cGPred x64 (vs A74 x64.Args c75)))] [(ad b66 o67, vi x64.Op), (ad b66 (o67 + 1), vstr x64.Field), (ad b66 (o67 + 2), vstr x64.Key), (ad b66 (o67 + 3), vi x64.Value.Kind), (ad b66 (o67 + 4), vstr x64.Value.Text), (ad b66 (o67 + 5), vi x64.Value.Int), (ad b66 (o67 + 6), vs A74 x64.Args c75)] ⟨hst.e hA70 0, hst.e hA70 1, hst.e hA70 2, hst.e hA70 3, hst.e hA70 4, hst.e hA70 5, hst.e hA70 6, trivial⟩ (al [vi 0, vstr w_0, vstr w_0, vi 0, vstr w_0, vi 0, vn] hst (fun b76 _ hst => ?_)))
  have hrc78 := RC.nil (TGPred) m60
  have hst := hst.nil_row 44 7
  refine so1 0 (cGPred x64 (vs A74 x64.Args c75)) (cGPred x64 (vs A74 x64.Args c75)) hst (fun _ hst => ?_)
  refine nl (tn (qr (sg 4 [(31, vf 78 [] [vp ob2 0, vp ob3 0]), (32, va (cGPred x64 (vs A74 x64.Args c75))), (33, vi a1), (34, vi (w64 (a1 + 1)))] [(ad ob3 0, vf 78 [] [vp ob2 0, vp ob3 0]), (ad b76 0, vi x64.Op), (ad b76 1, vstr x64.Field), (ad b76 2, vstr x64.Key), (ad b76 3, vi x64.Value.Kind), (ad b76 4, vstr x64.Value.Text), (ad b76 5, vi x64.Value.Int), (ad b76 6, vs A74 x64.Args c75)] ⟨hst.c 3, hst.c 1, hst.c 1, hst.c 1, hst.c 1, hst.c 1, hst.c 1, hst.c 1, trivial⟩ ?_)))
  have hst := pk25 hst
  obtain ⟨r79, hq80, h⟩ := bs h
  refine cal ((ih k62 (by omega)).c_attribute_Check_c1 hq80 hst hv73) ?_
  rintro _ _ ⟨m81, rfl, hl82, hst⟩
  refine s0 1 [(10, vi r79.2)] (nl (tn (qr (s0 2 [(36, vi r79.2), (37, vb (r79.2 != 0))] (nl (tn (cn h (fun h => ?_) (fun h => ?_))))))))
  ·refine qr (s0 2 [(38, vi r79.2), (6, vi r79.2)] (nl (tn (wp_ret (br (tr (tr (br (tr (wr [vi r79.2] ?_))))))))))
   have hst := pk26 hst
   have e83 := e72.trans hl82
   cases h
   exact ⟨_, rfl, m81, rfl, e83, hst⟩
  refine wp_skip (bn (tn (rg (s0 2 [(39, vi (w64 (x34 + 1))), (27, vi (w64 (x34 + 1)))] (nl (tn ?_))))))
  have e84 := hl56.trans hl82
  have hst := pk26 hst
  exact ih59 k62 (by omega) _ _ ⟨_, m81, (r79.1), (w64 (x34 + 1)), (act_upds ⟨by kernel_rfl, by kernel_rfl, by kernel_rfl, by kernel_rfl, by kernel_rfl, by kernel_rfl, trivial⟩), (by omega), h, e84, hst⟩
 refine wp_exit (tx (tx (bx (tn (qr (s0 1 [(6, vi 0)] (nl (tn (wp_ret (wr [vi 0] ?_))))))))))
 have e85 := hl11.trans hl56
 cases h
 exact ⟨_, rfl, m60, rfl, e85, hst⟩
theorem i_attribute_Check_c1 (k : Nat) : I_attribute_Check_c1 k := by
  induction k using Nat.strongRecOn with
  | ind k ih => exact ⟨s_attribute_Check_c1 ih⟩
theorem c_attribute_Check_c1 {k : Nat} {a0 : GPred} {a1 : Int} {a2 : Int} {r : Int × Int} {g : World} {m : Mem} {F : List Asr} {w : World} {ob2 : Nat} {ob3 : Nat} {u0 : Value} (h : attribute_Check_c1 k a0 a1 a2 = some r) (hst : St g m (oo ob2 3 [vi a2] :: oo ob3 136 [vf 78 [] [vp ob2 0, vp ob3 0]] :: F) w) (hu0 : RS (TGPred) m u0 a0.Args) :
    Calls Tryz.prog 78 ⟨[va (cGPred a0 u0), vi a1, vp ob2 0, vp ob3 0]⟩ w (OPost (R_attribute_Check_c1 g m F ob2 ob3) r) := (i_attribute_Check_c1 k).c_attribute_Check_c1 h hst hu0

def R_attribute_Check (g : World) (m : Mem) (F : List Asr) (r : Int) (v : Value) (w' : World) : Prop := ∃ (m' : Mem), v = vi r ∧ m.le m' ∧ St g m' (F) w'
theorem c_attribute_Check {k : Nat} {a0 : GPred} {r : Int} {g : World} {m : Mem} {F : List Asr} {w : World} {u0 : Value} (h : attribute_Check k a0 = some r) (hst : St g m (F) w) (hu0 : RS (TGPred) m u0 a0.Args) :
    Calls Tryz.prog 38 ⟨[va (cGPred a0 u0)]⟩ w (OPost (R_attribute_Check g m F) r) := by
 refine calls_enter Tryz.func38 rfl rfl ?_
 unfold attribute_Check at h
 obtain ⟨A1, c2, rfl⟩ := hu0.shape
 refine qr (bo_ (cGPred a0 (vs A1 a0.Args c2)) hst (fun b3 _ hst => ?_))
 refine s0 1 [(2, vi 0)] (nl (tn (qr (al [vi 0] hst (fun b4 _ hst => ?_)))))
 refine so0 0 [vi 0] [vi 0] hst (fun _ hst => ?_)
 refine nl (tn (qr (al [.nilFunc] hst (fun b5 _ hst => ?_))))
 refine nl (tn (qr (s0 1 [(5, vf 78 [] [vp b4 0, vp b5 0])] (so0 0 [vf 78 [] [vp b4 0, vp b5 0]] [vf 78 [] [vp b4 0, vp b5 0]] hst (fun _ hst => ?_)))))
 refine nl (tn (qr (sg 2 [(6, vf 78 [] [vp b4 0, vp b5 0]), (7, va (cGPred a0 (vs A1 a0.Args c2)))] [(ad b5 0, vf 78 [] [vp b4 0, vp b5 0]), (ad b3 0, vi a0.Op), (ad b3 1, vstr a0.Field), (ad b3 2, vstr a0.Key), (ad b3 3, vi a0.Value.Kind), (ad b3 4, vstr a0.Value.Text), (ad b3 5, vi a0.Value.Int), (ad b3 6, vs A1 a0.Args c2)] ⟨hst.c 0, hst.c 2, hst.c 2, hst.c 2, hst.c 2, hst.c 2, hst.c 2, hst.c 2, trivial⟩ ?_)))
 have hst := pk1 hst
 obtain ⟨r6, hq7, h⟩ := bs h
 refine cal (c_attribute_Check_c1 hq7 hst hu0) ?_
 rintro _ _ ⟨m8, rfl, hl9, hst⟩
 refine s0 1 [(2, vi r6.2)] (nl (tn (wp_ret (wr [vi r6.2] ?_))))
 have hst := pk27 hst
 cases h
 exact ⟨_, rfl, m8, rfl, hl9, hst⟩

def R_syntax_CheckPred_c1 (g : World) (m : Mem) (F : List Asr) (r : Bool) (v : Value) (w' : World) : Prop := ∃ (m' : Mem), v = vb r ∧ m.le m' ∧ St g m' (F) w'
theorem c_syntax_CheckPred_c1 {a0 : GPred} {r : Bool} {g : World} {m : Mem} {F : List Asr} {w : World} {u0 : Value} (h : syntax_CheckPred_c1 a0 = some r) (hst : St g m (F) w) (hu0 : RS (TGPred) m u0 a0.Args) :
    Calls Tryz.prog 72 ⟨[va (cGPred a0 u0)]⟩ w (OPost (R_syntax_CheckPred_c1 g m F) r) := by
 refine calls_enter Tryz.func72 rfl rfl ?_
 unfold syntax_CheckPred_c1 at h
 obtain ⟨A1, c2, rfl⟩ := hu0.shape
 refine qr (bo_ (cGPred a0 (vs A1 a0.Args c2)) hst (fun b3 _ hst => ?_))
 refine s0 1 [(2, vb false)] (nl (tn (qr (sg 4 [(3, vp b3 0), (4, vi a0.Op), (5, vb (a0.Op == 1)), (6, vb (a0.Op == 1))] [(ad b3 0, vi a0.Op)] ⟨hst.c 0, trivial⟩ ?_))))
 rcases sp h with ⟨hc4, h⟩ | ⟨hc4, h⟩
 ·rw [hc4]
  refine sg 11 [(7, undef), (8, undef), (9, undef), (10, vb true), (11, vb true), (12, vp b3 6), (13, vs A1 a0.Args c2), (14, vi ((a0.Args).length : Int)), (15, vb (decide (((a0.Args).length : Int) < 2))), (16, vb (decide (((a0.Args).length : Int) < 2))), (2, vb (decide (((a0.Args).length : Int) < 2)))] [(ad b3 6, vs A1 a0.Args c2)] ⟨hst.c 0, trivial⟩ (nl (tn (wp_ret (wr [vb (decide (((a0.Args).length : Int) < 2))] ?_))))
  have hst := pk0 hst
  cases h
  exact ⟨_, rfl, m, rfl, (Mem.le.refl _), hst⟩
 rw [hc4]
 refine sg 5 [(7, vp b3 0), (8, vi a0.Op), (9, vb (a0.Op == 2)), (10, vb (a0.Op == 2)), (11, vb (a0.Op == 2))] [(ad b3 0, vi a0.Op)] ⟨hst.c 0, trivial⟩ ?_
 rcases sp h with ⟨hc5, h⟩ | ⟨hc5, h⟩
 ·rw [hc5]
  refine sg 6 [(12, vp b3 6), (13, vs A1 a0.Args c2), (14, vi ((a0.Args).length : Int)), (15, vb (decide (((a0.Args).length : Int) < 2))), (16, vb (decide (((a0.Args).length : Int) < 2))), (2, vb (decide (((a0.Args).length : Int) < 2)))] [(ad b3 6, vs A1 a0.Args c2)] ⟨hst.c 0, trivial⟩ (nl (tn (wp_ret (wr [vb (decide (((a0.Args).length : Int) < 2))] ?_))))
  have hst := pk0 hst
  cases h
  exact ⟨_, rfl, m, rfl, (Mem.le.refl _), hst⟩
 rw [hc5]
 refine s0 6 [(12, undef), (13, undef), (14, undef), (15, undef), (16, vb false), (2, vb false)] (nl (tn (wp_ret (wr [vb false] ?_))))
 have hst := pk0 hst
 have h := Option.some.inj h; subst h
 exact ⟨_, rfl, m, rfl, (Mem.le.refl _), hst⟩

def R_syntax_inTree (g : World) (m : Mem) (F : List Asr) (r : Bool) (v : Value) (w' : World) : Prop := ∃ (m' : Mem), v = vb r ∧ m.le m' ∧ St g m' (F) w'
def R_slices_ContainsFunc_api_Pred (g : World) (m : Mem) (F : List Asr) (ob1 : Nat) (r : Bool) (v : Value) (w' : World) : Prop := ∃ (m' : Mem), v = vb r ∧ m.le m' ∧ St g m' (oo ob1 132 [vf 72 [] []] :: F) w'
def R_slices_IndexFunc_api_Pred (g : World) (m : Mem) (F : List Asr) (ob1 : Nat) (r : Int) (v : Value) (w' : World) : Prop := ∃ (m' : Mem), v = vi r ∧ m.le m' ∧ St g m' (oo ob1 132 [vf 72 [] []] :: F) w'
def R_syntax_inTree_c1 (g : World) (m : Mem) (F : List Asr) (ob1 : Nat) (r : Bool) (v : Value) (w' : World) : Prop := ∃ (m' : Mem), v = vb r ∧ m.le m' ∧ St g m' (oo ob1 132 [vf 72 [] []] :: F) w'
structure I_syntax_inTree (k : Nat) : Prop where
  c_syntax_inTree : ∀ {a0 : GPred} {r : Bool} {g : World} {m : Mem} {F : List Asr} {w : World} {u0 : Value} (h : syntax_inTree k a0 = some r) (hst : St g m (F) w) (hu0 : RS (TGPred) m u0 a0.Args),
    Calls Tryz.prog 71 ⟨[va (cGPred a0 u0), vf 72 [] []]⟩ w (OPost (R_syntax_inTree g m F) r)
  c_slices_ContainsFunc_api_Pred : ∀ {a0 : List GPred} {r : Bool} {g : World} {m : Mem} {F : List Asr} {w : World} {ob1 : Nat} {u0 : Value} (h : slices_ContainsFunc_api_Pred k a0 = some r) (hst : St g m (oo ob1 132 [vf 72 [] []] :: F) w) (hu0 : RS (TGPred) m u0 a0),
    Calls Tryz.prog 146 ⟨[u0, vf 147 [] [vp ob1 0]]⟩ w (OPost (R_slices_ContainsFunc_api_Pred g m F ob1) r)
  c_slices_IndexFunc_api_Pred : ∀ {a0 : List GPred} {r : Int} {g : World} {m : Mem} {F : List Asr} {w : World} {ob1 : Nat} {u0 : Value} (h : slices_IndexFunc_api_Pred k a0 = some r) (hst : St g m (oo ob1 132 [vf 72 [] []] :: F) w) (hu0 : RS (TGPred) m u0 a0),
    Calls Tryz.prog 169 ⟨[u0, vf 147 [] [vp ob1 0]]⟩ w (OPost (R_slices_IndexFunc_api_Pred g m F ob1) r)
  c_syntax_inTree_c1 : ∀ {a0 : GPred} {r : Bool} {g : World} {m : Mem} {F : List Asr} {w : World} {ob1 : Nat} {u0 : Value} (h : syntax_inTree_c1 k a0 = some r) (hst : St g m (oo ob1 132 [vf 72 [] []] :: F) w) (hu0 : RS (TGPred) m u0 a0.Args),
    Calls Tryz.prog 147 ⟨[va (cGPred a0 u0), vp ob1 0]⟩ w (OPost (R_syntax_inTree_c1 g m F ob1) r)
theorem s_syntax_inTree {k : Nat} (ih : ∀ j, j < k → I_syntax_inTree j) {a0 : GPred} {r : Bool} {g : World} {m : Mem} {F : List Asr} {w : World} {u0 : Value} (h : syntax_inTree k a0 = some r) (hst : St g m (F) w) (hu0 : RS (TGPred) m u0 a0.Args) :
    Calls Tryz.prog 71 ⟨[va (cGPred a0 u0), vf 72 [] []]⟩ w (OPost (R_syntax_inTree g m F) r) := by
 refine calls_enter Tryz.func71 rfl rfl ?_
 obtain _ | k1 := k
 ·simp [syntax_inTree] at h
 rw [syntax_inTree] at h
 obtain ⟨A1, c2, rfl⟩ := hu0.shape
 refine qr (bo_ (cGPred a0 (vs A1 a0.Args c2)) hst (fun b3 _ hst => ?_))
 refine bo_ [vf 72 [] []] hst (fun b4 _ hst => ?_)
 refine s0 1 [(4, vb false)] (nl (tn (qr (sg 2 [(5, vf 72 [] []), (6, va (cGPred a0 (vs A1 a0.Args c2)))] [(ad b4 0, vf 72 [] []), (ad b3 0, vi a0.Op), (ad b3 1, vstr a0.Field), (ad b3 2, vstr a0.Key), (ad b3 3, vi a0.Value.Kind), (ad b3 4, vstr a0.Value.Text), (ad b3 5, vi a0.Value.Int), (ad b3 6, vs A1 a0.Args c2)] ⟨hst.c 0, hst.c 1, hst.c 1, hst.c 1, hst.c 1, hst.c 1, hst.c 1, hst.c 1, trivial⟩ ?_))))
 obtain ⟨r5, hq6, h⟩ := bs h
 refine cal (c_syntax_CheckPred_c1 hq6 hst hu0) ?_
 rintro _ _ ⟨m7, rfl, hl8, hst⟩
 refine s0 1 [(8, vb r5)] ?_
 rcases sp h with ⟨hc9, h⟩ | ⟨hc9, h⟩
 ·rw [hc9]
  refine s0 6 [(9, undef), (10, undef), (11, undef), (12, undef), (13, vb true), (4, vb true)] (nl (tn (wp_ret (wr [vb true] ?_))))
  have hst := pk2 hst
  have h := Option.some.inj h; subst h
  exact ⟨_, rfl, m7, rfl, hl8, hst⟩
 rw [hc9]
 refine sg 3 [(9, vp b3 6), (10, vs A1 a0.Args c2), (11, vf 147 [] [vp b4 0])] [(ad b3 6, vs A1 a0.Args c2)] ⟨hst.c 1, trivial⟩ ?_
 obtain ⟨r10, hq11, h⟩ := bs h
 refine cal ((ih k1 (by omega)).c_slices_ContainsFunc_api_Pred hq11 hst (RS.mono hl8 hu0)) ?_
 rintro _ _ ⟨m12, rfl, hl13, hst⟩
 refine s0 2 [(13, vb r10), (4, vb r10)] (nl (tn (wp_ret (wr [vb r10] ?_))))
 have hst := pk2 hst
 have e14 := hl8.trans hl13
 have h := Option.some.inj h; subst h
 exact ⟨_, rfl, m12, rfl, e14, hst⟩
theorem s_slices_ContainsFunc_api_Pred {k : Nat} (ih : ∀ j, j < k → I_syntax_inTree j) {a0 : List GPred} {r : Bool} {g : World} {m : Mem} {F : List Asr} {w : World} {ob1 : Nat} {u0 : Value} (h : slices_ContainsFunc_api_Pred k a0 = some r) (hst : St g m (oo ob1 132 [vf 72 [] []] :: F) w) (hu0 : RS (TGPred) m u0 a0) :
    Calls Tryz.prog 146 ⟨[u0, vf 147 [] [vp ob1 0]]⟩ w (OPost (R_slices_ContainsFunc_api_Pred g m F ob1) r) := by
 refine calls_enter Tryz.func146 rfl rfl ?_
 obtain _ | k1 := k
 ·simp [slices_ContainsFunc_api_Pred] at h
 rw [slices_ContainsFunc_api_Pred] at h
 obtain ⟨A1, c2, rfl⟩ := hu0.shape
 refine qr (s0 1 [(4, vb false)] (nl (tn (qr (s0 2 [(5, vs A1 a0 c2), (6, vf 147 [] [vp ob1 0])] ?_)))))
 obtain ⟨r3, hq4, h⟩ := bs h
 refine cal ((ih k1 (by omega)).c_slices_IndexFunc_api_Pred hq4 hst hu0) ?_
 rintro _ _ ⟨m5, rfl, hl6, hst⟩
 refine s0 2 [(8, vb (decide (r3 ≥ 0))), (4, vb (decide (r3 ≥ 0)))] (nl (tn (wp_ret (wr [vb (decide (r3 ≥ 0))] ?_))))
 cases h
 exact ⟨_, rfl, m5, rfl, hl6, hst⟩
theorem s_slices_IndexFunc_api_Pred {k : Nat} (ih : ∀ j, j < k → I_syntax_inTree j) {a0 : List GPred} {r : Int} {g : World} {m : Mem} {F : List Asr} {w : World} {ob1 : Nat} {u0 : Value} (h : slices_IndexFunc_api_Pred k a0 = some r) (hst : St g m (oo ob1 132 [vf 72 [] []] :: F) w) (hu0 : RS (TGPred) m u0 a0) :
    Calls Tryz.prog 169 ⟨[u0, vf 147 [] [vp ob1 0]]⟩ w (OPost (R_slices_IndexFunc_api_Pred g m F ob1) r) := by
 refine calls_enter Tryz.func169 rfl rfl ?_
 obtain _ | k1 := k
 ·simp [slices_IndexFunc_api_Pred] at h
 rw [slices_IndexFunc_api_Pred] at h
 obtain ⟨A1, c2, rfl⟩ := hu0.shape
 refine qr (s0 1 [(4, vi 0)] (nl (tn (sq (qr (s0 3 [(6, vs A1 a0 c2), (7, vi ((a0).length : Int)), (8, vi 0)] (nl (tn (bk (wc_loop (fun kk a w => ∃ (f0 : Fr) (m42 : Mem) (x20 : Int), a = act Tryz.f169.ntmps (upds f0 [(0, vs A1 a0 c2), (1, vf 147 [] [vp ob1 0]), (4, vi 0), (7, vi ((a0).length : Int)), (8, vi x20)]) ∧ kk ≤ k1 ∧ slices_IndexFunc_api_Pred_l1 kk a0 x20 = some r ∧ m.le m42 ∧ St g m42 (oo ob1 132 [vf 72 [] []] :: F) w) k1 ?_ ?_))))))))))
 ·exact ⟨_, m, (0), (act_upds ⟨by kernel_rfl, by kernel_rfl, by kernel_rfl, by kernel_rfl, by kernel_rfl, trivial⟩), (Nat.le_refl _), h, (Mem.le.refl _), hst⟩
 rintro k40 ih41 _ _ ⟨f0, m42, x20, rfl, hk39, h, hl38, hst⟩
 obtain _ | k44 := k40
 ·simp [slices_IndexFunc_api_Pred_l1] at h
 rw [slices_IndexFunc_api_Pred_l1] at h
 refine qr (s0 1 [(9, vb (decide (x20 < ((a0).length : Int))))] (nl (tn (sq (cn h (fun h => ?_) (fun h => ?_))))))
 ·refine wp_skip (tn (sq (bk (qr (s0 2 [(10, vi x20), (5, vi x20)] (nl (tn (qr (s0 3 [(11, vf 147 [] [vp ob1 0]), (12, vs A1 a0 c2), (13, vi x20)] ?_)))))))))
  obtain ⟨x46, hx47, h⟩ := ix h
  obtain ⟨b48, o49, cs50, hR51, hA52, hI53⟩ := RS.ix (P := Tryz.prog) (RS.mono hl38 hu0) hx47
  obtain ⟨v54, rfl, hv54⟩ := TGPred.open_ hR51
  obtain ⟨A55, c56, rfl⟩ := hv54.shape
  refine vl (hI53.r .i64) (sg 1 [(15, va (cGPred x46 (vs A55 x46.Args c56)))] [(ad b48 o49, vi x46.Op), (ad b48 (o49 + 1), vstr x46.Field), (ad b48 (o49 + 2), vstr x46.Key), (ad b48 (o49 + 3), vi x46.Value.Kind), (ad b48 (o49 + 4), vstr x46.Value.Text), (ad b48 (o49 + 5), vi x46.Value.Int), (ad b48 (o49 + 6), vs A55 x46.Args c56)] ⟨hst.e hA52 0, hst.e hA52 1, hst.e hA52 2, hst.e hA52 3, hst.e hA52 4, hst.e hA52 5, hst.e hA52 6, trivial⟩ ?_)
  obtain ⟨r57, hq58, h⟩ := bs h
  refine cal ((ih k44 (by omega)).c_syntax_inTree_c1 hq58 hst hv54) ?_
  rintro _ _ ⟨m59, rfl, hl60, hst⟩
  refine nl (tn (cn h (fun h => ?_) (fun h => ?_)))
  ·refine qr (s0 2 [(17, vi x20), (4, vi x20)] (nl (tn (wp_ret (br (tr (tr (br (tr (wr [vi x20] ?_))))))))))
   have e61 := hl38.trans hl60
   have h := Option.some.inj h; subst h
   exact ⟨_, rfl, m59, rfl, e61, hst⟩
  refine wp_skip (bn (tn (rg (s0 2 [(18, vi (w64 (x20 + 1))), (8, vi (w64 (x20 + 1)))] (nl (tn ?_))))))
  have e62 := hl38.trans hl60
  exact ih41 k44 (by omega) _ _ ⟨_, m59, (w64 (x20 + 1)), (act_upds ⟨by kernel_rfl, by kernel_rfl, by kernel_rfl, by kernel_rfl, by kernel_rfl, trivial⟩), (by omega), h, e62, hst⟩
 refine wp_exit (tx (tx (bx (tn (qr (s0 1 [(4, vi (-1))] (nl (tn (wp_ret (wr [vi (-1)] ?_))))))))))
 cases h
 exact ⟨_, rfl, m42, rfl, hl38, hst⟩
theorem s_syntax_inTree_c1 {k : Nat} (ih : ∀ j, j < k → I_syntax_inTree j) {a0 : GPred} {r : Bool} {g : World} {m : Mem} {F : List Asr} {w : World} {ob1 : Nat} {u0 : Value} (h : syntax_inTree_c1 k a0 = some r) (hst : St g m (oo ob1 132 [vf 72 [] []] :: F) w) (hu0 : RS (TGPred) m u0 a0.Args) :
    Calls Tryz.prog 147 ⟨[va (cGPred a0 u0), vp ob1 0]⟩ w (OPost (R_syntax_inTree_c1 g m F ob1) r) := by
 refine calls_enter Tryz.func147 rfl rfl ?_
 obtain _ | k1 := k
 ·simp [syntax_inTree_c1] at h
 rw [syntax_inTree_c1] at h
 obtain ⟨A1, c2, rfl⟩ := hu0.shape
 refine qr (bo_ (cGPred a0 (vs A1 a0.Args c2)) hst (fun b3 _ hst => ?_))
 refine s0 1 [(3, vb false)] (nl (tn (qr (sg 2 [(4, va (cGPred a0 (vs A1 a0.Args c2))), (5, vf 72 [] [])] [(ad b3 0, vi a0.Op), (ad b3 1, vstr a0.Field), (ad b3 2, vstr a0.Key), (ad b3 3, vi a0.Value.Kind), (ad b3 4, vstr a0.Value.Text), (ad b3 5, vi a0.Value.Int), (ad b3 6, vs A1 a0.Args c2), (ad ob1 0, vf 72 [] [])] ⟨hst.c 0, hst.c 0, hst.c 0, hst.c 0, hst.c 0, hst.c 0, hst.c 0, hst.c 1, trivial⟩ ?_))))
 obtain ⟨r4, hq5, h⟩ := bs h
 refine cal ((ih k1 (by omega)).c_syntax_inTree hq5 hst hu0) ?_
 rintro _ _ ⟨m6, rfl, hl7, hst⟩
 refine s0 1 [(3, vb r4)] (nl (tn (wp_ret (wr [vb r4] ?_))))
 have hst := pk0 hst
 have h := Option.some.inj h; subst h
 exact ⟨_, rfl, m6, rfl, hl7, hst⟩
theorem i_syntax_inTree (k : Nat) : I_syntax_inTree k := by
  induction k using Nat.strongRecOn with
  | ind k ih => exact ⟨s_syntax_inTree ih, s_slices_ContainsFunc_api_Pred ih, s_slices_IndexFunc_api_Pred ih, s_syntax_inTree_c1 ih⟩
theorem c_syntax_inTree {k : Nat} {a0 : GPred} {r : Bool} {g : World} {m : Mem} {F : List Asr} {w : World} {u0 : Value} (h : syntax_inTree k a0 = some r) (hst : St g m (F) w) (hu0 : RS (TGPred) m u0 a0.Args) :
    Calls Tryz.prog 71 ⟨[va (cGPred a0 u0), vf 72 [] []]⟩ w (OPost (R_syntax_inTree g m F) r) := (i_syntax_inTree k).c_syntax_inTree h hst hu0
theorem c_slices_ContainsFunc_api_Pred {k : Nat} {a0 : List GPred} {r : Bool} {g : World} {m : Mem} {F : List Asr} {w : World} {ob1 : Nat} {u0 : Value} (h : slices_ContainsFunc_api_Pred k a0 = some r) (hst : St g m (oo ob1 132 [vf 72 [] []] :: F) w) (hu0 : RS (TGPred) m u0 a0) :
    Calls Tryz.prog 146 ⟨[u0, vf 147 [] [vp ob1 0]]⟩ w (OPost (R_slices_ContainsFunc_api_Pred g m F ob1) r) := (i_syntax_inTree k).c_slices_ContainsFunc_api_Pred h hst hu0
theorem c_slices_IndexFunc_api_Pred {k : Nat} {a0 : List GPred} {r : Int} {g : World} {m : Mem} {F : List Asr} {w : World} {ob1 : Nat} {u0 : Value} (h : slices_IndexFunc_api_Pred k a0 = some r) (hst : St g m (oo ob1 132 [vf 72 [] []] :: F) w) (hu0 : RS (TGPred) m u0 a0) :
    Calls Tryz.prog 169 ⟨[u0, vf 147 [] [vp ob1 0]]⟩ w (OPost (R_slices_IndexFunc_api_Pred g m F ob1) r) := (i_syntax_inTree k).c_slices_IndexFunc_api_Pred h hst hu0
theorem c_syntax_inTree_c1 {k : Nat} {a0 : GPred} {r : Bool} {g : World} {m : Mem} {F : List Asr} {w : World} {ob1 : Nat} {u0 : Value} (h : syntax_inTree_c1 k a0 = some r) (hst : St g m (oo ob1 132 [vf 72 [] []] :: F) w) (hu0 : RS (TGPred) m u0 a0.Args) :
    Calls Tryz.prog 147 ⟨[va (cGPred a0 u0), vp ob1 0]⟩ w (OPost (R_syntax_inTree_c1 g m F ob1) r) := (i_syntax_inTree k).c_syntax_inTree_c1 h hst hu0

def R_syntax_CheckPred_c2 (g : World) (m : Mem) (F : List Asr) (r : Bool) (v : Value) (w' : World) : Prop := ∃ (m' : Mem), v = vb r ∧ m.le m' ∧ St g m' (F) w'
theorem c_syntax_CheckPred_c2 {k : Nat} {a0 : GPred} {r : Bool} {g : World} {m : Mem} {F : List Asr} {w : World} {u0 : Value} (h : syntax_CheckPred_c2 k a0 = some r) (hst : St g m (F) w) (hu0 : RS (TGPred) m u0 a0.Args) :
    Calls Tryz.prog 73 ⟨[va (cGPred a0 u0)]⟩ w (OPost (R_syntax_CheckPred_c2 g m F) r) := by
 refine calls_enter Tryz.func73 rfl rfl ?_
 unfold syntax_CheckPred_c2 at h
 obtain ⟨A1, c2, rfl⟩ := hu0.shape
 refine qr (bo_ (cGPred a0 (vs A1 a0.Args c2)) hst (fun b3 _ hst => ?_))
 refine s0 1 [(2, vb false)] (nl (tn (qr (sg 4 [(3, vp b3 0), (4, vi a0.Op), (5, vb (decide (a0.Op ≥ 5))), (6, vb (decide (a0.Op ≥ 5)))] [(ad b3 0, vi a0.Op)] ⟨hst.c 0, trivial⟩ ?_))))
 rcases sp h with ⟨hc4, h⟩ | ⟨hc4, h⟩
 ·rw [hc4]
  refine sg 2 [(7, vp b3 1), (8, vstr a0.Field)] [(ad b3 1, vstr a0.Field)] ⟨hst.c 0, trivial⟩ (vl (rne a0.Field w_attr) (s0 2 [(10, vb (!(a0.Field == w_attr))), (11, vb (!(a0.Field == w_attr)))] ?_))
  rcases sp h with ⟨hc5, h⟩ | ⟨hc5, h⟩
  ·rw [hc5]
   refine sg 2 [(12, vp b3 1), (13, vstr a0.Field)] [(ad b3 1, vstr a0.Field)] ⟨hst.c 0, trivial⟩ ?_
   obtain ⟨r6, hq7, h⟩ := bs h
   refine cal (c_syntax_IsField hq7 hst) ?_
   rintro _ _ ⟨m8, rfl, hl9, hst⟩
   refine s0 3 [(15, vb (!r6)), (16, vb (!r6)), (2, vb (!r6))] (nl (tn (wp_ret (wr [vb (!r6)] ?_))))
   have hst := pk0 hst
   cases h
   exact ⟨_, rfl, m8, rfl, hl9, hst⟩
  rw [hc5]
  refine s0 6 [(12, undef), (13, undef), (14, undef), (15, undef), (16, vb false), (2, vb false)] (nl (tn (wp_ret (wr [vb false] ?_))))
  have hst := pk0 hst
  have h := Option.some.inj h; subst h
  exact ⟨_, rfl, m, rfl, (Mem.le.refl _), hst⟩
 rw [hc4]
 refine s0 11 [(7, undef), (8, undef), (9, undef), (10, vb false), (11, vb false), (12, undef), (13, undef), (14, undef), (15, undef), (16, vb false), (2, vb false)] (nl (tn (wp_ret (wr [vb false] ?_))))
 have hst := pk0 hst
 have h := Option.some.inj h; subst h
 exact ⟨_, rfl, m, rfl, (Mem.le.refl _), hst⟩

def R_syntax_inTree_i1 (g : World) (m : Mem) (F : List Asr) (r : Bool) (v : Value) (w' : World) : Prop := ∃ (m' : Mem), v = vb r ∧ m.le m' ∧ St g m' (F) w'
def R_slices_ContainsFunc_api_Pred_i1 (g : World) (m : Mem) (F : List Asr) (ob1 : Nat) (r : Bool) (v : Value) (w' : World) : Prop := ∃ (m' : Mem), v = vb r ∧ m.le m' ∧ St g m' (oo ob1 132 [vf 73 [] []] :: F) w'
def R_slices_IndexFunc_api_Pred_i1 (g : World) (m : Mem) (F : List Asr) (ob1 : Nat) (r : Int) (v : Value) (w' : World) : Prop := ∃ (m' : Mem), v = vi r ∧ m.le m' ∧ St g m' (oo ob1 132 [vf 73 [] []] :: F) w'
def R_syntax_inTree_c1_i1 (g : World) (m : Mem) (F : List Asr) (ob1 : Nat) (r : Bool) (v : Value) (w' : World) : Prop := ∃ (m' : Mem), v = vb r ∧ m.le m' ∧ St g m' (oo ob1 132 [vf 73 [] []] :: F) w'
structure I_syntax_inTree_i1 (k : Nat) : Prop where
  c_syntax_inTree_i1 : ∀ {a0 : GPred} {r : Bool} {g : World} {m : Mem} {F : List Asr} {w : World} {u0 : Value} (h : syntax_inTree_i1 k a0 = some r) (hst : St g m (F) w) (hu0 : RS (TGPred) m u0 a0.Args),
    Calls Tryz.prog 71 ⟨[va (cGPred a0 u0), vf 73 [] []]⟩ w (OPost (R_syntax_inTree_i1 g m F) r)
  c_slices_ContainsFunc_api_Pred_i1 : ∀ {a0 : List GPred} {r : Bool} {g : World} {m : Mem} {F : List Asr} {w : World} {ob1 : Nat} {u0 : Value} (h : slices_ContainsFunc_api_Pred_i1 k a0 = some r) (hst : St g m (oo ob1 132 [vf 73 [] []] :: F) w) (hu0 : RS (TGPred) m u0 a0),
    Calls Tryz.prog 146 ⟨[u0, vf 147 [] [vp ob1 0]]⟩ w (OPost (R_slices_ContainsFunc_api_Pred_i1 g m F ob1) r)
  c_slices_IndexFunc_api_Pred_i1 : ∀ {a0 : List GPred} {r : Int} {g : World} {m : Mem} {F : List Asr} {w : World} {ob1 : Nat} {u0 : Value} (h : slices_IndexFunc_api_Pred_i1 k a0 = some r) (hst : St g m (oo ob1 132 [vf 73 [] []] :: F) w) (hu0 : RS (TGPred) m u0 a0),
    Calls Tryz.prog 169 ⟨[u0, vf 147 [] [vp ob1 0]]⟩ w (OPost (R_slices_IndexFunc_api_Pred_i1 g m F ob1) r)
  c_syntax_inTree_c1_i1 : ∀ {a0 : GPred} {r : Bool} {g : World} {m : Mem} {F : List Asr} {w : World} {ob1 : Nat} {u0 : Value} (h : syntax_inTree_c1_i1 k a0 = some r) (hst : St g m (oo ob1 132 [vf 73 [] []] :: F) w) (hu0 : RS (TGPred) m u0 a0.Args),
    Calls Tryz.prog 147 ⟨[va (cGPred a0 u0), vp ob1 0]⟩ w (OPost (R_syntax_inTree_c1_i1 g m F ob1) r)
theorem s_syntax_inTree_i1 {k : Nat} (ih : ∀ j, j < k → I_syntax_inTree_i1 j) {a0 : GPred} {r : Bool} {g : World} {m : Mem} {F : List Asr} {w : World} {u0 : Value} (h : syntax_inTree_i1 k a0 = some r) (hst : St g m (F) w) (hu0 : RS (TGPred) m u0 a0.Args) :
    Calls Tryz.prog 71 ⟨[va (cGPred a0 u0), vf 73 [] []]⟩ w (OPost (R_syntax_inTree_i1 g m F) r) := by
 refine calls_enter Tryz.func71 rfl rfl ?_
 obtain _ | k1 := k
 ·simp [syntax_inTree_i1] at h
 rw [syntax_inTree_i1] at h
 obtain ⟨A1, c2, rfl⟩ := hu0.shape
 refine qr (bo_ (cGPred a0 (vs A1 a0.Args c2)) hst (fun b3 _ hst => ?_))
 refine bo_ [vf 73 [] []] hst (fun b4 _ hst => ?_)
 refine s0 1 [(4, vb false)] (nl (tn (qr (sg 2 [(5, vf 73 [] []), (6, va (cGPred a0 (vs A1 a0.Args c2)))] [(ad b4 0, vf 73 [] []), (ad b3 0, vi a0.Op), (ad b3 1, vstr a0.Field), (ad b3 2, vstr a0.Key), (ad b3 3, vi a0.Value.Kind), (ad b3 4, vstr a0.Value.Text), (ad b3 5, vi a0.Value.Int), (ad b3 6, vs A1 a0.Args c2)] ⟨hst.c 0, hst.c 1, hst.c 1, hst.c 1, hst.c 1, hst.c 1, hst.c 1, hst.c 1, trivial⟩ ?_))))
 obtain ⟨r5, hq6, h⟩ := bs h
 refine cal (c_syntax_CheckPred_c2 hq6 hst hu0) ?_
 rintro _ _ ⟨m7, rfl, hl8, hst⟩
 refine s0 1 [(8, vb r5)] ?_
 rcases sp h with ⟨hc9, h⟩ | ⟨hc9, h⟩
 ·rw [hc9]
  refine s0 6 [(9, undef), (10, undef), (11, undef), (12, undef), (13, vb true), (4, vb true)] (nl (tn (wp_ret (wr [vb true] ?_))))
  have hst := pk2 hst
  have h := Option.some.inj h; subst h
  exact ⟨_, rfl, m7, rfl, hl8, hst⟩
 rw [hc9]
 refine sg 3 [(9, vp b3 6), (10, vs A1 a0.Args c2), (11, vf 147 [] [vp b4 0])] [(ad b3 6, vs A1 a0.Args c2)] ⟨hst.c 1, trivial⟩ ?_
 obtain ⟨r10, hq11, h⟩ := bs h
 refine cal ((ih k1 (by omega)).c_slices_ContainsFunc_api_Pred_i1 hq11 hst (RS.mono hl8 hu0)) ?_
 rintro _ _ ⟨m12, rfl, hl13, hst⟩
 refine s0 2 [(13, vb r10), (4, vb r10)] (nl (tn (wp_ret (wr [vb r10] ?_))))
 have hst := pk2 hst
 have e14 := hl8.trans hl13
 have h := Option.some.inj h; subst h
 exact ⟨_, rfl, m12, rfl, e14, hst⟩
theorem s_slices_ContainsFunc_api_Pred_i1 {k : Nat} (ih : ∀ j, j < k → I_syntax_inTree_i1 j) {a0 : List GPred} {r : Bool} {g : World} {m : Mem} {F : List Asr} {w : World} {ob1 : Nat} {u0 : Value} (h : slices_ContainsFunc_api_Pred_i1 k a0 = some r) (hst : St g m (oo ob1 132 [vf 73 [] []] :: F) w) (hu0 : RS (TGPred) m u0 a0) :
    Calls Tryz.prog 146 ⟨[u0, vf 147 [] [vp ob1 0]]⟩ w (OPost (R_slices_ContainsFunc_api_Pred_i1 g m F ob1) r) := by
 refine calls_enter Tryz.func146 rfl rfl ?_
 obtain _ | k1 := k
 ·simp [slices_ContainsFunc_api_Pred_i1] at h
 rw [slices_ContainsFunc_api_Pred_i1] at h
 obtain ⟨A1, c2, rfl⟩ := hu0.shape
 refine qr (s0 1 [(4, vb false)] (nl (tn (qr (s0 2 [(5, vs A1 a0 c2), (6, vf 147 [] [vp ob1 0])] ?_)))))
 obtain ⟨r3, hq4, h⟩ := bs h
 refine cal ((ih k1 (by omega)).c_slices_IndexFunc_api_Pred_i1 hq4 hst hu0) ?_
 rintro _ _ ⟨m5, rfl, hl6, hst⟩
 refine s0 2 [(8, vb (decide (r3 ≥ 0))), (4, vb (decide (r3 ≥ 0)))] (nl (tn (wp_ret (wr [vb (decide (r3 ≥ 0))] ?_))))
 cases h
 exact ⟨_, rfl, m5, rfl, hl6, hst⟩
theorem s_slices_IndexFunc_api_Pred_i1 {k : Nat} (ih : ∀ j, j < k → I_syntax_inTree_i1 j) {a0 : List GPred} {r : Int} {g : World} {m : Mem} {F : List Asr} {w : World} {ob1 : Nat} {u0 : Value} (h : slices_IndexFunc_api_Pred_i1 k a0 = some r) (hst : St g m (oo ob1 132 [vf 73 [] []] :: F) w) (hu0 : RS (TGPred) m u0 a0) :
    Calls Tryz.prog 169 ⟨[u0, vf 147 [] [vp ob1 0]]⟩ w (OPost (R_slices_IndexFunc_api_Pred_i1 g m F ob1) r) := by
 refine calls_enter Tryz.func169 rfl rfl ?_
 obtain _ | k1 := k
 ·simp [slices_IndexFunc_api_Pred_i1] at h
 rw [slices_IndexFunc_api_Pred_i1] at h
 obtain ⟨A1, c2, rfl⟩ := hu0.shape
 refine qr (s0 1 [(4, vi 0)] (nl (tn (sq (qr (s0 3 [(6, vs A1 a0 c2), (7, vi ((a0).length : Int)), (8, vi 0)] (nl (tn (bk (wc_loop (fun kk a w => ∃ (f0 : Fr) (m42 : Mem) (x20 : Int), a = act Tryz.f169.ntmps (upds f0 [(0, vs A1 a0 c2), (1, vf 147 [] [vp ob1 0]), (4, vi 0), (7, vi ((a0).length : Int)), (8, vi x20)]) ∧ kk ≤ k1 ∧ slices_IndexFunc_api_Pred_i1_l1 kk a0 x20 = some r ∧ m.le m42 ∧ St g m42 (oo ob1 132 [vf 73 [] []] :: F) w) k1 ?_ ?_))))))))))
 ·exact ⟨_, m, (0), (act_upds ⟨by kernel_rfl, by kernel_rfl, by kernel_rfl, by kernel_rfl, by kernel_rfl, trivial⟩), (Nat.le_refl _), h, (Mem.le.refl _), hst⟩
 rintro k40 ih41 _ _ ⟨f0, m42, x20, rfl, hk39, h, hl38, hst⟩
 obtain _ | k44 := k40
 ·simp [slices_IndexFunc_api_Pred_i1_l1] at h
 rw [slices_IndexFunc_api_Pred_i1_l1] at h
 refine qr (s0 1 [(9, vb (decide (x20 < ((a0).length : Int))))] (nl (tn (sq (cn h (fun h => ?_) (fun h => ?_))))))
 ·refine wp_skip (tn (sq (bk (qr (s0 2 [(10, vi x20), (5, vi x20)] (nl (tn (qr (s0 3 [(11, vf 147 [] [vp ob1 0]), (12, vs A1 a0 c2), (13, vi x20)] ?_)))))))))
  obtain ⟨x46, hx47, h⟩ := ix h
  obtain ⟨b48, o49, cs50, hR51, hA52, hI53⟩ := RS.ix (P := Tryz.prog) (RS.mono hl38 hu0) hx47
  obtain ⟨v54, rfl, hv54⟩ := TGPred.open_ hR51
  obtain ⟨A55, c56, rfl⟩ := hv54.shape
  refine vl (hI53.r .i64) (sg 1 [(15, va (cGPred x46 (vs A55 x46.Args c56)))] [(ad b48 o49, vi x46.Op), (ad b48 (o49 + 1), vstr x46.Field), (ad b48 (o49 + 2), vstr x46.Key), (ad b48 (o49 + 3), vi x46.Value.Kind), (ad b48 (o49 + 4), vstr x46.Value.Text), (ad b48 (o49 + 5), vi x46.Value.Int), (ad b48 (o49 + 6), vs A55 x46.Args c56)] ⟨hst.e hA52 0, hst.e hA52 1, hst.e hA52 2, hst.e hA52 3, hst.e hA52 4, hst.e hA52 5, hst.e hA52 6, trivial⟩ ?_)
  obtain ⟨r57, hq58, h⟩ := bs h
  refine cal ((ih k44 (by omega)).c_syntax_inTree_c1_i1 hq58 hst hv54) ?_
  rintro _ _ ⟨m59, rfl, hl60, hst⟩
  refine nl (tn (cn h (fun h => ?_) (fun h => ?_)))
  ·refine qr (s0 2 [(17, vi x20), (4, vi x20)] (nl (tn (wp_ret (br (tr (tr (br (tr (wr [vi x20] ?_))))))))))
   have e61 := hl38.trans hl60
   have h := Option.some.inj h; subst h
   exact ⟨_, rfl, m59, rfl, e61, hst⟩
  refine wp_skip (bn (tn (rg (s0 2 [(18, vi (w64 (x20 + 1))), (8, vi (w64 (x20 + 1)))] (nl (tn ?_))))))
  have e62 := hl38.trans hl60
  exact ih41 k44 (by omega) _ _ ⟨_, m59, (w64 (x20 + 1)), (act_upds ⟨by kernel_rfl, by kernel_rfl, by kernel_rfl, by kernel_rfl, by kernel_rfl, trivial⟩), (by omega), h, e62, hst⟩
 refine wp_exit (tx (tx (bx (tn (qr (s0 1 [(4, vi (-1))] (nl (tn (wp_ret (wr [vi (-1)] ?_))))))))))
 cases h
 exact ⟨_, rfl, m42, rfl, hl38, hst⟩
theorem s_syntax_inTree_c1_i1 {k : Nat} (ih : ∀ j, j < k → I_syntax_inTree_i1 j) {a0 : GPred} {r : Bool} {g : World} {m : Mem} {F : List Asr} {w : World} {ob1 : Nat} {u0 : Value} (h : syntax_inTree_c1_i1 k a0 = some r) (hst : St g m (oo ob1 132 [vf 73 [] []] :: F) w) (hu0 : RS (TGPred) m u0 a0.Args) :
    Calls Tryz.prog 147 ⟨[va (cGPred a0 u0), vp ob1 0]⟩ w (OPost (R_syntax_inTree_c1_i1 g m F ob1) r) := by
 refine calls_enter Tryz.func147 rfl rfl ?_
 obtain _ | k1 := k
 ·simp [syntax_inTree_c1_i1] at h
 rw [syntax_inTree_c1_i1] at h
 obtain ⟨A1, c2, rfl⟩ := hu0.shape
 refine qr (bo_ (cGPred a0 (vs A1 a0.Args c2)) hst (fun b3 _ hst => ?_))
 refine s0 1 [(3, vb false)] (nl (tn (qr (sg 2 [(4, va (cGPred a0 (vs A1 a0.Args c2))), (5, vf 73 [] [])] [(ad b3 0, vi a0.Op), (ad b3 1, vstr a0.Field), (ad b3 2, vstr a0.Key), (ad b3 3, vi a0.Value.Kind), (ad b3 4, vstr a0.Value.Text), (ad b3 5, vi a0.Value.Int), (ad b3 6, vs A1 a0.Args c2), (ad ob1 0, vf 73 [] [])] ⟨hst.c 0, hst.c 0, hst.c 0, hst.c 0, hst.c 0, hst.c 0, hst.c 0, hst.c 1, trivial⟩ ?_))))
 obtain ⟨r4, hq5, h⟩ := bs h
 refine cal ((ih k1 (by omega)).c_syntax_inTree_i1 hq5 hst hu0) ?_
 rintro _ _ ⟨m6, rfl, hl7, hst⟩
 refine s0 1 [(3, vb r4)] (nl (tn (wp_ret (wr [vb r4] ?_))))
 have hst := pk0 hst
 have h := Option.some.inj h; subst h
 exact ⟨_, rfl, m6, rfl, hl7, hst⟩
theorem i_syntax_inTree_i1 (k : Nat) : I_syntax_inTree_i1 k := by
  induction k using Nat.strongRecOn with
  | ind k ih => exact ⟨s_syntax_inTree_i1 ih, s_slices_ContainsFunc_api_Pred_i1 ih, s_slices_IndexFunc_api_Pred_i1 ih, s_syntax_inTree_c1_i1 ih⟩
theorem c_syntax_inTree_i1 {k : Nat} {a0 : GPred} {r : Bool} {g : World} {m : Mem} {F : List Asr} {w : World} {u0 : Value} (h : syntax_inTree_i1 k a0 = some r) (hst : St g m (F) w) (hu0 : RS (TGPred) m u0 a0.Args) :
    Calls Tryz.prog 71 ⟨[va (cGPred a0 u0), vf 73 [] []]⟩ w (OPost (R_syntax_inTree_i1 g m F) r) := (i_syntax_inTree_i1 k).c_syntax_inTree_i1 h hst hu0
theorem c_slices_ContainsFunc_api_Pred_i1 {k : Nat} {a0 : List GPred} {r : Bool} {g : World} {m : Mem} {F : List Asr} {w : World} {ob1 : Nat} {u0 : Value} (h : slices_ContainsFunc_api_Pred_i1 k a0 = some r) (hst : St g m (oo ob1 132 [vf 73 [] []] :: F) w) (hu0 : RS (TGPred) m u0 a0) :
    Calls Tryz.prog 146 ⟨[u0, vf 147 [] [vp ob1 0]]⟩ w (OPost (R_slices_ContainsFunc_api_Pred_i1 g m F ob1) r) := (i_syntax_inTree_i1 k).c_slices_ContainsFunc_api_Pred_i1 h hst hu0
theorem c_slices_IndexFunc_api_Pred_i1 {k : Nat} {a0 : List GPred} {r : Int} {g : World} {m : Mem} {F : List Asr} {w : World} {ob1 : Nat} {u0 : Value} (h : slices_IndexFunc_api_Pred_i1 k a0 = some r) (hst : St g m (oo ob1 132 [vf 73 [] []] :: F) w) (hu0 : RS (TGPred) m u0 a0) :
    Calls Tryz.prog 169 ⟨[u0, vf 147 [] [vp ob1 0]]⟩ w (OPost (R_slices_IndexFunc_api_Pred_i1 g m F ob1) r) := (i_syntax_inTree_i1 k).c_slices_IndexFunc_api_Pred_i1 h hst hu0
theorem c_syntax_inTree_c1_i1 {k : Nat} {a0 : GPred} {r : Bool} {g : World} {m : Mem} {F : List Asr} {w : World} {ob1 : Nat} {u0 : Value} (h : syntax_inTree_c1_i1 k a0 = some r) (hst : St g m (oo ob1 132 [vf 73 [] []] :: F) w) (hu0 : RS (TGPred) m u0 a0.Args) :
    Calls Tryz.prog 147 ⟨[va (cGPred a0 u0), vp ob1 0]⟩ w (OPost (R_syntax_inTree_c1_i1 g m F ob1) r) := (i_syntax_inTree_i1 k).c_syntax_inTree_c1_i1 h hst hu0

def R_syntax_CheckPred (g : World) (m : Mem) (F : List Asr) (r : Int) (v : Value) (w' : World) : Prop := ∃ (m' : Mem), v = vi r ∧ m.le m' ∧ St g m' (F) w'
theorem c_syntax_CheckPred {k : Nat} {a0 : GPred} {r : Int} {g : World} {m : Mem} {F : List Asr} {w : World} {u0 : Value} (h : syntax_CheckPred k a0 = some r) (hst : St g m (F) w) (hu0 : RS (TGPred) m u0 a0.Args) :
    Calls Tryz.prog 34 ⟨[va (cGPred a0 u0)]⟩ w (OPost (R_syntax_CheckPred g m F) r) := by
 refine calls_enter Tryz.func34 rfl rfl ?_
 unfold syntax_CheckPred at h
 obtain ⟨A1, c2, rfl⟩ := hu0.shape
 refine qr (bo_ (cGPred a0 (vs A1 a0.Args c2)) hst (fun b3 _ hst => ?_))
 refine s0 1 [(2, vi 0)] (nl (tn (sq (qr (sg 1 [(4, va (cGPred a0 (vs A1 a0.Args c2)))] [(ad b3 0, vi a0.Op), (ad b3 1, vstr a0.Field), (ad b3 2, vstr a0.Key), (ad b3 3, vi a0.Value.Kind), (ad b3 4, vstr a0.Value.Text), (ad b3 5, vi a0.Value.Int), (ad b3 6, vs A1 a0.Args c2)] ⟨hst.c 0, hst.c 0, hst.c 0, hst.c 0, hst.c 0, hst.c 0, hst.c 0, trivial⟩ ?_)))))
 obtain ⟨r4, hq5, h⟩ := bs h
 refine cal (c_attribute_Check hq5 hst hu0) ?_
 rintro _ _ ⟨m6, rfl, hl7, hst⟩
 refine s0 1 [(3, vi r4)] (nl (tn (qr (s0 2 [(6, vi r4), (7, vb (r4 != 0))] (nl (tn (cn h (fun h => ?_) (fun h => ?_))))))))
 ·refine qr (s0 2 [(8, vi r4), (2, vi r4)] (nl (tn (wp_ret (tr (wr [vi r4] ?_))))))
  have hst := pk0 hst
  have h := Option.some.inj h; subst h
  exact ⟨_, rfl, m6, rfl, hl7, hst⟩
 refine wp_skip (tn (sq (qr (sg 1 [(9, va (cGPred a0 (vs A1 a0.Args c2)))] [(ad b3 0, vi a0.Op), (ad b3 1, vstr a0.Field), (ad b3 2, vstr a0.Key), (ad b3 3, vi a0.Value.Kind), (ad b3 4, vstr a0.Value.Text), (ad b3 5, vi a0.Value.Int), (ad b3 6, vs A1 a0.Args c2)] ⟨hst.c 0, hst.c 0, hst.c 0, hst.c 0, hst.c 0, hst.c 0, hst.c 0, trivial⟩ ?_))))
 obtain ⟨r8, hq9, h⟩ := bs h
 refine cal (c_syntax_inTree hq9 hst (RS.mono hl7 hu0)) ?_
 rintro _ _ ⟨m10, rfl, hl11, hst⟩
 refine nl (tn (cn h (fun h => ?_) (fun h => ?_)))
 ·refine qr (s0 1 [(2, vi 3)] (nl (tn (wp_ret (tr (wr [vi 3] ?_))))))
  have hst := pk0 hst
  have e12 := hl7.trans hl11
  have h := Option.some.inj h; subst h
  exact ⟨_, rfl, m10, rfl, e12, hst⟩
 refine wp_skip (tn (sq (qr (sg 1 [(11, va (cGPred a0 (vs A1 a0.Args c2)))] [(ad b3 0, vi a0.Op), (ad b3 1, vstr a0.Field), (ad b3 2, vstr a0.Key), (ad b3 3, vi a0.Value.Kind), (ad b3 4, vstr a0.Value.Text), (ad b3 5, vi a0.Value.Int), (ad b3 6, vs A1 a0.Args c2)] ⟨hst.c 0, hst.c 0, hst.c 0, hst.c 0, hst.c 0, hst.c 0, hst.c 0, trivial⟩ ?_))))
 have e13 := hl7.trans hl11
 obtain ⟨r14, hq15, h⟩ := bs h
 refine cal (c_syntax_inTree_i1 hq15 hst (RS.mono e13 hu0)) ?_
 rintro _ _ ⟨m16, rfl, hl17, hst⟩
 refine nl (tn (cn h (fun h => ?_) (fun h => ?_)))
 ·refine qr (s0 1 [(2, vi 11)] (nl (tn (wp_ret (tr (wr [vi 11] ?_))))))
  have hst := pk0 hst
  have e18 := e13.trans hl17
  have h := Option.some.inj h; subst h
  exact ⟨_, rfl, m16, rfl, e18, hst⟩
 refine wp_skip (tn (qr (s0 1 [(2, vi 0)] (nl (tn (wp_ret (wr [vi 0] ?_)))))))
 have hst := pk0 hst
 have e19 := e13.trans hl17
 have h := Option.some.inj h; subst h
 exact ⟨_, rfl, m16, rfl, e19, hst⟩

def R_syntax_isRelation (g : World) (m : Mem) (F : List Asr) (r : Bool) (v : Value) (w' : World) : Prop := ∃ (m' : Mem), v = vb r ∧ m.le m' ∧ St g m' (F) w'
theorem c_syntax_isRelation {a0 : Int} {r : Bool} {g : World} {m : Mem} {F : List Asr} {w : World} (h : syntax_isRelation a0 = some r) (hst : St g m (F) w) (hG : Glob m) :
    Calls Tryz.prog 139 ⟨[vi a0]⟩ w (OPost (R_syntax_isRelation g m F) r) := by
 refine calls_enter Tryz.func139 rfl rfl ?_
 unfold syntax_isRelation at h
 refine qr (s0 1 [(2, vb false)] (nl (tn (qr (s0 3 [(3, vi a0), (4, vb (decide (a0 ≥ 1))), (5, vb (decide (a0 ≥ 1)))] ?_)))))
 rcases sp h with ⟨hc1, h⟩ | ⟨hc1, h⟩
 ·rw [hc1]
  obtain ⟨v2, hA3, hv4⟩ := hG.r
  obtain ⟨A5, c6, rfl⟩ := hv4.shape
  refine sg 6 [(6, vi a0), (7, vs A5 namesR c6), (8, vi ((namesR).length : Int)), (9, vb (decide (a0 < ((namesR).length : Int)))), (10, vb (decide (a0 < ((namesR).length : Int)))), (2, vb (decide (a0 < ((namesR).length : Int))))] [(ad 0 0, vs A5 namesR c6)] ⟨hst.e hA3 0, trivial⟩ (nl (tn (wp_ret (wr [vb (decide (a0 < ((namesR).length : Int)))] ?_))))
  cases h
  exact ⟨_, rfl, m, rfl, (Mem.le.refl _), hst⟩
 rw [hc1]
 refine s0 6 [(6, undef), (7, undef), (8, undef), (9, undef), (10, vb false), (2, vb false)] (nl (tn (wp_ret (wr [vb false] ?_))))
 have h := Option.some.inj h; subst h
 exact ⟨_, rfl, m, rfl, (Mem.le.refl _), hst⟩

def R_syntax_checkPattern (g : World) (m : Mem) (F : List Asr) (r : Int) (v : Value) (w' : World) : Prop := ∃ (m' : Mem), v = vi r ∧ m.le m' ∧ St g m' (F) w'
theorem c_syntax_checkPattern {k : Nat} {a0 : GQuery} {r : Int} {g : World} {m : Mem} {F : List Asr} {w : World} {u0 : Value} {u1 : Value} {u2 : Value} {u3 : Value} {u4 : Value} {u5 : Value} (h : syntax_checkPattern k a0 = some r) (hst : St g m (F) w) (hu0 : RS (TGVariable) m u0 a0.Variables) (hu1 : RS (TGRelation) m u1 a0.Relations) (hu2 : RS (TGAbsence) m u2 a0.Absences) (hu3 : RS (TGColumn) m u3 a0.Group) (hu4 : RS (TGAggregate) m u4 a0.Compute) (hu5 : RS (TGOrderKey) m u5 a0.Order) (hG : Glob m) :
    Calls Tryz.prog 66 ⟨[va (cGQuery a0 u0 u1 u2 u3 u4 u5)]⟩ w (OPost (R_syntax_checkPattern g m F) r) := by
 refine calls_enter Tryz.func66 rfl rfl ?_
 unfold syntax_checkPattern at h
 obtain ⟨A1, c2, rfl⟩ := hu0.shape
 obtain ⟨A3, c4, rfl⟩ := hu1.shape
 obtain ⟨A5, c6, rfl⟩ := hu2.shape
 obtain ⟨A7, c8, rfl⟩ := hu3.shape
 obtain ⟨A9, c10, rfl⟩ := hu4.shape
 obtain ⟨A11, c12, rfl⟩ := hu5.shape
 refine qr (bo_ (cGQuery a0 (vs A1 a0.Variables c2) (vs A3 a0.Relations c4) (vs A5 a0.Absences c6) (vs A7 a0.Group c8) (vs A9 a0.Compute c10) (vs A11 a0.Order c12)) hst (fun b13 _ hst => ?_))
 refine s0 1 [(2, vi 0)] (nl (tn (sq (qr (sg 4 [(11, vp b13 0), (12, vs A1 a0.Variables c2), (13, vi ((a0.Variables).length : Int)), (14, vb (((a0.Variables).length : Int) == 0))] [(ad b13 0, vs A1 a0.Variables c2)] ⟨hst.c 0, trivial⟩ (nl (tn (cn h (fun h => ?_) (fun h => ?_)))))))))
 ·refine qr (s0 1 [(2, vi 7)] (nl (tn (wp_ret (tr (wr [vi 7] ?_))))))
  have hst := pk0 hst
  have h := Option.some.inj h; subst h
  exact ⟨_, rfl, m, rfl, (Mem.le.refl _), hst⟩
 refine wp_skip (tn (sq (qr (sg 4 [(15, vp b13 0), (16, vs A1 a0.Variables c2), (17, vi ((a0.Variables).length : Int)), (18, vi 0)] [(ad b13 0, vs A1 a0.Variables c2)] ⟨hst.c 0, trivial⟩ (nl (tn (bk (wc_loop (fun kk a w => ∃ (f0 : Fr) (m149 : Mem) (x118 : Int), a = act Tryz.f66.ntmps (upds f0 [(1, vp b13 0), (2, vi 0), (16, vs A1 a0.Variables c2), (17, vi ((a0.Variables).length : Int)), (18, vi x118)]) ∧ kk ≤ k ∧ syntax_checkPattern_l1 kk a0 x118 = some r ∧ m.le m149 ∧ St g m149 (oo b13 36 (cGQuery a0 (vs A1 a0.Variables c2) (vs A3 a0.Relations c4) (vs A5 a0.Absences c6) (vs A7 a0.Group c8) (vs A9 a0.Compute c10) (vs A11 a0.Order c12)) :: F) w) k ?_ ?_))))))))
 ·exact ⟨_, m, (0), (act_upds ⟨by kernel_rfl, by kernel_rfl, by kernel_rfl, by kernel_rfl, by kernel_rfl, trivial⟩), (Nat.le_refl _), h, (Mem.le.refl _), hst⟩
 rintro k147 ih148 _ _ ⟨f0, m149, x118, rfl, hk146, h, hl145, hst⟩
 obtain _ | k151 := k147
 ·simp [syntax_checkPattern_l1] at h
 rw [syntax_checkPattern_l1] at h
 refine qr (s0 1 [(19, vb (decide (x118 < ((a0.Variables).length : Int))))] (nl (tn (sq (cn h (fun h => ?_) (fun h => ?_))))))
 ·refine wp_skip (tn (sq (bk (qr ?_))))
  obtain ⟨x153, hx154, h⟩ := ix h
  obtain ⟨b155, o156, cs157, hR158, hA159, hI160⟩ := RS.ix (P := Tryz.prog) (RS.mono hl145 hu0) hx154
  obtain ⟨v161, rfl, hv161⟩ := TGVariable.open_ hR158
  obtain ⟨A162, c163, rfl⟩ := hv161.shape
  refine vl (hI160.r .i64) (sg 1 [(21, va (cGVariable x153 (vs A162 x153.Where.Args c163)))] [(ad b155 o156, vstr x153.Name), (ad b155 (o156 + 1), vi x153.Where.Op), (ad b155 (o156 + 2), vstr x153.Where.Field), (ad b155 (o156 + 3), vstr x153.Where.Key), (ad b155 (o156 + 4), vi x153.Where.Value.Kind), (ad b155 (o156 + 5), vstr x153.Where.Value.Text), (ad b155 (o156 + 6), vi x153.Where.Value.Int), (ad b155 (o156 + 7), vs A162 x153.Where.Args c163)] ⟨hst.e hA159 0, hst.e hA159 1, hst.e hA159 2, hst.e hA159 3, hst.e hA159 4, hst.e hA159 5, hst.e hA159 6, hst.e hA159 7, trivial⟩ (al [vstr w_0, vi 0, vstr w_0, vstr w_0, vi 0, vstr w_0, vi 0, vn] hst (fun b164 _ hst => ?_)))
  refine so0 0 (cGVariable x153 (vs A162 x153.Where.Args c163)) (cGVariable x153 (vs A162 x153.Where.Args c163)) hst (fun _ hst => ?_)
  refine nl (tn (sq (qr (sg 2 [(22, vp b164 0), (23, vstr x153.Name)] [(ad b164 0, vstr x153.Name)] ⟨hst.c 0, trivial⟩ ?_))))
  obtain ⟨r169, hq170, h⟩ := bs h
  refine cal (c_syntax_IsVariable hq170 hst (Glob.mono hl145 hG)) ?_
  rintro _ _ ⟨m171, rfl, hl172, hst⟩
  refine s0 1 [(25, vb (!r169))] (nl (tn (cn h (fun h => ?_) (fun h => ?_))))
  ·refine qr (s0 1 [(2, vi 11)] (nl (tn (wp_ret (tr (br (tr (tr (br (tr (wr [vi 11] ?_)))))))))))
   have hst := pk2 hst
   have e173 := hl145.trans hl172
   have h := Option.some.inj h; subst h
   exact ⟨_, rfl, m171, rfl, e173, hst⟩
  refine wp_skip (tn (qr (sg 2 [(26, vp b164 1), (27, va (cGPred x153.Where (vs A162 x153.Where.Args c163)))] [(ad b164 1, vi x153.Where.Op), (ad b164 2, vstr x153.Where.Field), (ad b164 3, vstr x153.Where.Key), (ad b164 4, vi x153.Where.Value.Kind), (ad b164 5, vstr x153.Where.Value.Text), (ad b164 6, vi x153.Where.Value.Int), (ad b164 7, vs A162 x153.Where.Args c163)] ⟨hst.c 0, hst.c 0, hst.c 0, hst.c 0, hst.c 0, hst.c 0, hst.c 0, trivial⟩ ?_)))
  obtain ⟨r174, hq175, h⟩ := bs h
  refine cal (c_syntax_CheckPred hq175 hst (RS.mono hl172 hv161)) ?_
  rintro _ _ ⟨m176, rfl, hl177, hst⟩
  refine s0 1 [(5, vi r174)] (nl (tn (qr (s0 2 [(29, vi r174), (30, vb (r174 != 0))] (nl (tn (cn h (fun h => ?_) (fun h => ?_))))))))
  ·refine qr (s0 2 [(31, vi r174), (2, vi r174)] (nl (tn (wp_ret (br (tr (tr (br (tr (wr [vi r174] ?_))))))))))
   have hst := pk2 hst
   have e178 := hl145.trans (hl172.trans hl177)
   have h := Option.some.inj h; subst h
   exact ⟨_, rfl, m176, rfl, e178, hst⟩
  refine wp_skip (bn (tn (rg (s0 2 [(32, vi (w64 (x118 + 1))), (18, vi (w64 (x118 + 1)))] (nl (tn ?_))))))
  have e179 := hl145.trans (hl172.trans hl177)
  have hst := pk0 hst
  exact ih148 k151 (by omega) _ _ ⟨_, m176, (w64 (x118 + 1)), (act_upds ⟨by kernel_rfl, by kernel_rfl, by kernel_rfl, by kernel_rfl, by kernel_rfl, trivial⟩), (by omega), h, e179, hst⟩
 refine wp_exit (tx (tx (bx (tn (sq (qr (sg 4 [(33, vp b13 1), (34, vs A3 a0.Relations c4), (35, vi ((a0.Relations).length : Int)), (36, vi 0)] [(ad b13 1, vs A3 a0.Relations c4)] ⟨hst.c 0, trivial⟩ (nl (tn (bk (wc_loop (fun kk a w => ∃ (f0 : Fr) (m315 : Mem) (x284 : Int), a = act Tryz.f66.ntmps (upds f0 [(1, vp b13 0), (2, vi 0), (34, vs A3 a0.Relations c4), (35, vi ((a0.Relations).length : Int)), (36, vi x284)]) ∧ kk ≤ k151 ∧ syntax_checkPattern_l2 kk a0 x284 = some r ∧ m149.le m315 ∧ St g m315 (oo b13 36 (cGQuery a0 (vs A1 a0.Variables c2) (vs A3 a0.Relations c4) (vs A5 a0.Absences c6) (vs A7 a0.Group c8) (vs A9 a0.Compute c10) (vs A11 a0.Order c12)) :: F) w) k151 ?_ ?_)))))))))))
 ·exact ⟨_, m149, (0), (act_upds ⟨by kernel_rfl, by kernel_rfl, by kernel_rfl, by kernel_rfl, by kernel_rfl, trivial⟩), (Nat.le_refl _), h, (Mem.le.refl _), hst⟩
 rintro k313 ih314 _ _ ⟨f0, m315, x284, rfl, hk312, h, hl311, hst⟩
 obtain _ | k317 := k313
 ·simp [syntax_checkPattern_l2] at h
 rw [syntax_checkPattern_l2] at h
 refine qr (s0 1 [(37, vb (decide (x284 < ((a0.Relations).length : Int))))] (nl (tn (sq (cn h (fun h => ?_) (fun h => ?_))))))
 ·refine wp_skip (tn (sq (bk (qr ?_))))
  obtain ⟨x319, hx320, h⟩ := ix h
  have e327 := hl145.trans hl311
  obtain ⟨b321, o322, cs323, hR324, hA325, hI326⟩ := RS.ix (P := Tryz.prog) (RS.mono e327 hu1) hx320
  obtain rfl := TGRelation.open_ hR324
  refine vl (hI326.r .i64) (sg 1 [(39, va (cGRelation x319))] [(ad b321 o322, vi x319.Kind), (ad b321 (o322 + 1), vstr x319.A), (ad b321 (o322 + 2), vstr x319.B)] ⟨hst.e hA325 0, hst.e hA325 1, hst.e hA325 2, trivial⟩ (al [vi 0, vstr w_0, vstr w_0] hst (fun b328 _ hst => ?_)))
  refine so0 0 (cGRelation x319) (cGRelation x319) hst (fun _ hst => ?_)
  refine nl (tn (bk (qr (sg 2 [(41, vp b328 0), (42, vi x319.Kind)] [(ad b328 0, vi x319.Kind)] ⟨hst.c 0, trivial⟩ ?_))))
  obtain ⟨r329, hq330, h⟩ := bs h
  refine cal (c_syntax_isRelation hq330 hst (Glob.mono e327 hG)) ?_
  rintro _ _ ⟨m331, rfl, hl332, hst⟩
  refine s0 2 [(44, vb (!r329)), (40, vb (!r329))] (nl (tn (cn h (fun h => ?_) (fun h => ?_))))
  ·refine qr (s0 1 [(2, vi 12)] (nl (tn (wp_ret (br (br (tr (tr (br (tr (wr [vi 12] ?_)))))))))))
   have hst := pk2 hst
   have e333 := e327.trans hl332
   have h := Option.some.inj h; subst h
   exact ⟨_, rfl, m331, rfl, e333, hst⟩
  refine qr (sg 2 [(46, vp b328 1), (47, vstr x319.A)] [(ad b328 1, vstr x319.A)] ⟨hst.c 0, trivial⟩ ?_)
  have e338 := e327.trans hl332
  obtain ⟨r334, hq335, h⟩ := bs h
  refine cal (c_syntax_IsVariable hq335 hst (Glob.mono e338 hG)) ?_
  rintro _ _ ⟨m336, rfl, hl337, hst⟩
  refine s0 2 [(49, vb (!r334)), (50, vb (!r334))] ?_
  rcases sp h with ⟨hc339, h⟩ | ⟨hc339, h⟩
  ·rw [hc339]
   refine s0 6 [(51, undef), (52, undef), (53, undef), (54, undef), (55, vb true), (45, vb true)] (nl (tn (ct (qr (s0 1 [(2, vi 11)] (nl (tn (wp_ret (br (br (tr (tr (br (tr (wr [vi 11] ?_)))))))))))))))
   have hst := pk2 hst
   have e340 := e338.trans hl337
   have h := Option.some.inj h; subst h
   exact ⟨_, rfl, m336, rfl, e340, hst⟩
  rw [hc339]
  refine sg 2 [(51, vp b328 2), (52, vstr x319.B)] [(ad b328 2, vstr x319.B)] ⟨hst.c 0, trivial⟩ ?_
  have e345 := e338.trans hl337
  obtain ⟨r341, hq342, h⟩ := bs h
  refine cal (c_syntax_IsVariable hq342 hst (Glob.mono e345 hG)) ?_
  rintro _ _ ⟨m343, rfl, hl344, hst⟩
  refine s0 3 [(54, vb (!r341)), (55, vb (!r341)), (45, vb (!r341))] (nl (tn (cn h (fun h => ?_) (fun h => ?_))))
  ·refine qr (s0 1 [(2, vi 11)] (nl (tn (wp_ret (br (br (tr (tr (br (tr (wr [vi 11] ?_)))))))))))
   have hst := pk2 hst
   have e346 := e345.trans hl344
   have h := Option.some.inj h; subst h
   exact ⟨_, rfl, m343, rfl, e346, hst⟩
  refine wp_skip (bn (bn (tn (rg (s0 2 [(56, vi (w64 (x284 + 1))), (36, vi (w64 (x284 + 1)))] (nl (tn ?_)))))))
  have e347 := hl311.trans (hl332.trans (hl337.trans hl344))
  have hst := pk0 hst
  exact ih314 k317 (by omega) _ _ ⟨_, m343, (w64 (x284 + 1)), (act_upds ⟨by kernel_rfl, by kernel_rfl, by kernel_rfl, by kernel_rfl, by kernel_rfl, trivial⟩), (by omega), h, e347, hst⟩
 refine wp_exit (tx (tx (bx (tn (sq (qr (sg 4 [(57, vp b13 2), (58, vs A5 a0.Absences c6), (59, vi ((a0.Absences).length : Int)), (60, vi 0)] [(ad b13 2, vs A5 a0.Absences c6)] ⟨hst.c 0, trivial⟩ (nl (tn (bk ?_))))))))))
 have hst := pk0 hst
 refine wc_loop (fun kk a w => ∃ (f0 : Fr) (m435 : Mem) (x389 : Int), a = act Tryz.f66.ntmps (upds f0 [(2, vi 0), (58, vs A5 a0.Absences c6), (59, vi ((a0.Absences).length : Int)), (60, vi x389)]) ∧ kk ≤ k317 ∧ syntax_checkPattern_l3 kk a0 x389 = some r ∧ m315.le m435 ∧ St g m435 (F) w) k317 ?_ ?_
 ·exact ⟨_, m315, (0), (act_upds ⟨by kernel_rfl, by kernel_rfl, by kernel_rfl, by kernel_rfl, trivial⟩), (Nat.le_refl _), h, (Mem.le.refl _), hst⟩
 rintro k433 ih434 _ _ ⟨f0, m435, x389, rfl, hk432, h, hl431, hst⟩
 obtain _ | k437 := k433
 ·simp [syntax_checkPattern_l3] at h
 rw [syntax_checkPattern_l3] at h
 refine qr (s0 1 [(61, vb (decide (x389 < ((a0.Absences).length : Int))))] (nl (tn (sq (cn h (fun h => ?_) (fun h => ?_))))))
 ·refine wp_skip (tn (sq (bk (qr ?_))))
  obtain ⟨x439, hx440, h⟩ := ix h
  have e447 := hl145.trans (hl311.trans hl431)
  obtain ⟨b441, o442, cs443, hR444, hA445, hI446⟩ := RS.ix (P := Tryz.prog) (RS.mono e447 hu2) hx440
  obtain ⟨v448, rfl, hv448⟩ := TGAbsence.open_ hR444
  obtain ⟨A449, c450, rfl⟩ := hv448.shape
  refine vl (hI446.r .i64) (sg 1 [(63, va (cGAbsence x439 (vs A449 x439.Variable.Where.Args c450)))] [(ad b441 o442, vstr x439.Variable.Name), (ad b441 (o442 + 1), vi x439.Variable.Where.Op), (ad b441 (o442 + 2), vstr x439.Variable.Where.Field), (ad b441 (o442 + 3), vstr x439.Variable.Where.Key), (ad b441 (o442 + 4), vi x439.Variable.Where.Value.Kind), (ad b441 (o442 + 5), vstr x439.Variable.Where.Value.Text), (ad b441 (o442 + 6), vi x439.Variable.Where.Value.Int), (ad b441 (o442 + 7), vs A449 x439.Variable.Where.Args c450), (ad b441 (o442 + 8), vi x439.Kind), (ad b441 (o442 + 9), vstr x439.Other), (ad b441 (o442 + 10), vb x439.First)] ⟨hst.e hA445 0, hst.e hA445 1, hst.e hA445 2, hst.e hA445 3, hst.e hA445 4, hst.e hA445 5, hst.e hA445 6, hst.e hA445 7, hst.e hA445 8, hst.e hA445 9, hst.e hA445 10, trivial⟩ (al [vstr w_0, vi 0, vstr w_0, vstr w_0, vi 0, vstr w_0, vi 0, vn, vi 0, vstr w_0, vb false] hst (fun b451 _ hst => ?_)))
  refine so0 0 (cGAbsence x439 (vs A449 x439.Variable.Where.Args c450)) (cGAbsence x439 (vs A449 x439.Variable.Where.Args c450)) hst (fun _ hst => ?_)
  refine nl (tn (sq (qr (sg 3 [(64, vp b451 0), (65, vp b451 0), (66, vstr x439.Variable.Name)] [(ad b451 0, vstr x439.Variable.Name)] ⟨hst.c 0, trivial⟩ ?_))))
  obtain ⟨r456, hq457, h⟩ := bs h
  refine cal (c_syntax_IsVariable hq457 hst (Glob.mono e447 hG)) ?_
  rintro _ _ ⟨m458, rfl, hl459, hst⟩
  refine s0 1 [(68, vb (!r456))] (nl (tn (cn h (fun h => ?_) (fun h => ?_))))
  ·refine qr (s0 1 [(2, vi 11)] (nl (tn (wp_ret (tr (br (tr (tr (br (tr (wr [vi 11] ?_)))))))))))
   have hst := pk0 hst
   have e460 := e447.trans hl459
   have h := Option.some.inj h; subst h
   exact ⟨_, rfl, m458, rfl, e460, hst⟩
  refine wp_skip (tn (sq (qr (sg 3 [(69, vp b451 0), (70, vp b451 1), (71, va (cGPred x439.Variable.Where (vs A449 x439.Variable.Where.Args c450)))] [(ad b451 1, vi x439.Variable.Where.Op), (ad b451 2, vstr x439.Variable.Where.Field), (ad b451 3, vstr x439.Variable.Where.Key), (ad b451 4, vi x439.Variable.Where.Value.Kind), (ad b451 5, vstr x439.Variable.Where.Value.Text), (ad b451 6, vi x439.Variable.Where.Value.Int), (ad b451 7, vs A449 x439.Variable.Where.Args c450)] ⟨hst.c 0, hst.c 0, hst.c 0, hst.c 0, hst.c 0, hst.c 0, hst.c 0, trivial⟩ ?_))))
  obtain ⟨r465, hq466, h⟩ := bs h
  refine cal (c_syntax_CheckPred hq466 hst (RS.mono hl459 hv448)) ?_
  rintro _ _ ⟨m467, rfl, hl468, hst⟩
  refine s0 1 [(10, vi r465)] (nl (tn (qr (s0 2 [(73, vi r465), (74, vb (r465 != 0))] (nl (tn (cn h (fun h => ?_) (fun h => ?_))))))))
  ·refine qr (s0 2 [(75, vi r465), (2, vi r465)] (nl (tn (wp_ret (tr (br (tr (tr (br (tr (wr [vi r465] ?_)))))))))))
   have hst := pk0 hst
   have e469 := e447.trans (hl459.trans hl468)
   have h := Option.some.inj h; subst h
   exact ⟨_, rfl, m467, rfl, e469, hst⟩
  refine wp_skip (tn (bk (qr (sg 2 [(77, vp b451 8), (78, vi x439.Kind)] [(ad b451 8, vi x439.Kind)] ⟨hst.c 0, trivial⟩ ?_))))
  have e474 := e447.trans (hl459.trans hl468)
  obtain ⟨r470, hq471, h⟩ := bs h
  refine cal (c_syntax_isRelation hq471 hst (Glob.mono e474 hG)) ?_
  rintro _ _ ⟨m472, rfl, hl473, hst⟩
  refine s0 2 [(80, vb (!r470)), (76, vb (!r470))] (nl (tn (cn h (fun h => ?_) (fun h => ?_))))
  ·refine qr (s0 1 [(2, vi 12)] (nl (tn (wp_ret (br (br (tr (tr (br (tr (wr [vi 12] ?_)))))))))))
   have hst := pk0 hst
   have e475 := e474.trans hl473
   have h := Option.some.inj h; subst h
   exact ⟨_, rfl, m472, rfl, e475, hst⟩
  refine qr (sg 2 [(82, vp b451 9), (83, vstr x439.Other)] [(ad b451 9, vstr x439.Other)] ⟨hst.c 0, trivial⟩ ?_)
  have e480 := e474.trans hl473
  obtain ⟨r476, hq477, h⟩ := bs h
  refine cal (c_syntax_IsVariable hq477 hst (Glob.mono e480 hG)) ?_
  rintro _ _ ⟨m478, rfl, hl479, hst⟩
  refine s0 2 [(85, vb (!r476)), (81, vb (!r476))] (nl (tn (cn h (fun h => ?_) (fun h => ?_))))
  ·refine qr (s0 1 [(2, vi 11)] (nl (tn (wp_ret (br (br (tr (tr (br (tr (wr [vi 11] ?_)))))))))))
   have hst := pk0 hst
   have e481 := e480.trans hl479
   have h := Option.some.inj h; subst h
   exact ⟨_, rfl, m478, rfl, e481, hst⟩
  refine wp_skip (bn (bn (tn (rg (s0 2 [(86, vi (w64 (x389 + 1))), (60, vi (w64 (x389 + 1)))] (nl (tn ?_)))))))
  have e482 := hl431.trans (hl459.trans (hl468.trans (hl473.trans hl479)))
  have hst := pk0 hst
  exact ih434 k437 (by omega) _ _ ⟨_, m478, (w64 (x389 + 1)), (act_upds ⟨by kernel_rfl, by kernel_rfl, by kernel_rfl, by kernel_rfl, trivial⟩), (by omega), h, e482, hst⟩
 refine wp_exit (tx (tx (bx (tn (qr (s0 1 [(2, vi 0)] (nl (tn (wp_ret (wr [vi 0] ?_))))))))))
 have e483 := hl145.trans (hl311.trans hl431)
 have h := Option.some.inj h; subst h
 exact ⟨_, rfl, m435, rfl, e483, hst⟩

def R_syntax_isColumn (g : World) (m : Mem) (F : List Asr) (r : Bool) (v : Value) (w' : World) : Prop := ∃ (m' : Mem), v = vb r ∧ m.le m' ∧ St g m' (F) w'
theorem c_syntax_isColumn {k : Nat} {a0 : GColumn} {r : Bool} {g : World} {m : Mem} {F : List Asr} {w : World} (h : syntax_isColumn k a0 = some r) (hst : St g m (F) w) (hG : Glob m) :
    Calls Tryz.prog 140 ⟨[va (cGColumn a0)]⟩ w (OPost (R_syntax_isColumn g m F) r) := by
 refine calls_enter Tryz.func140 rfl rfl ?_
 unfold syntax_isColumn at h
 refine qr (bo_ (cGColumn a0) hst (fun b1 _ hst => ?_))
 refine s0 1 [(2, vb false)] (nl (tn (sq (qr (sg 2 [(3, vp b1 0), (4, vstr a0.Var)] [(ad b1 0, vstr a0.Var)] ⟨hst.c 0, trivial⟩ ?_)))))
 obtain ⟨r6, hq7, h⟩ := bs h
 refine cal (c_syntax_IsVariable hq7 hst hG) ?_
 rintro _ _ ⟨m8, rfl, hl9, hst⟩
 refine s0 1 [(6, vb (!r6))] (nl (tn (cn h (fun h => ?_) (fun h => ?_))))
 ·refine qr (s0 1 [(2, vb false)] (nl (tn (wp_ret (tr (wr [vb false] ?_))))))
  have hst := pk0 hst
  have h := Option.some.inj h; subst h
  exact ⟨_, rfl, m8, rfl, hl9, hst⟩
 refine wp_skip (tn (sq (qr (sg 2 [(7, vp b1 1), (8, vstr a0.Field)] [(ad b1 1, vstr a0.Field)] ⟨hst.c 0, trivial⟩ (vl (re a0.Field w_attr) (nl (tn (cn h (fun h => ?_) (fun h => ?_)))))))))
 ·refine qr (sg 2 [(10, vp b1 2), (11, vstr a0.Key)] [(ad b1 2, vstr a0.Key)] ⟨hst.c 0, trivial⟩ ?_)
  obtain ⟨r14, hq15, h⟩ := bs h
  refine cal (c_attribute_IsName hq15 hst) ?_
  rintro _ _ ⟨m16, rfl, hl17, hst⟩
  refine s0 1 [(2, vb r14)] (nl (tn (wp_ret (tr (wr [vb r14] ?_)))))
  have hst := pk0 hst
  have e18 := hl9.trans hl17
  have h := Option.some.inj h; subst h
  exact ⟨_, rfl, m16, rfl, e18, hst⟩
 refine wp_skip (tn (qr (sg 2 [(13, vp b1 1), (14, vstr a0.Field)] [(ad b1 1, vstr a0.Field)] ⟨hst.c 0, trivial⟩ ?_)))
 obtain ⟨r19, hq20, h⟩ := bs h
 refine cal (c_syntax_IsField hq20 hst) ?_
 rintro _ _ ⟨m21, rfl, hl22, hst⟩
 refine s0 1 [(16, vb r19)] ?_
 rcases sp h with ⟨hc23, h⟩ | ⟨hc23, h⟩
 ·rw [hc23]
  refine sg 2 [(17, vp b1 2), (18, vstr a0.Key)] [(ad b1 2, vstr a0.Key)] ⟨hst.c 0, trivial⟩ (vl (re a0.Key w_0) (s0 2 [(20, vb (a0.Key == w_0)), (2, vb (a0.Key == w_0))] (nl (tn (wp_ret (wr [vb (a0.Key == w_0)] ?_))))))
  have hst := pk0 hst
  have e24 := hl9.trans hl22
  cases h
  exact ⟨_, rfl, m21, rfl, e24, hst⟩
 rw [hc23]
 refine s0 5 [(17, undef), (18, undef), (19, undef), (20, vb false), (2, vb false)] (nl (tn (wp_ret (wr [vb false] ?_))))
 have hst := pk0 hst
 have e25 := hl9.trans hl22
 have h := Option.some.inj h; subst h
 exact ⟨_, rfl, m21, rfl, e25, hst⟩

def R_syntax_checkAggregate (g : World) (m : Mem) (F : List Asr) (r : Int) (v : Value) (w' : World) : Prop := ∃ (m' : Mem), v = vi r ∧ m.le m' ∧ St g m' (F) w'
theorem c_syntax_checkAggregate {k : Nat} {a0 : GAggregate} {r : Int} {g : World} {m : Mem} {F : List Asr} {w : World} (h : syntax_checkAggregate k a0 = some r) (hst : St g m (F) w) (hG : Glob m) :
    Calls Tryz.prog 141 ⟨[va (cGAggregate a0)]⟩ w (OPost (R_syntax_checkAggregate g m F) r) := by
 refine calls_enter Tryz.func141 rfl rfl ?_
 unfold syntax_checkAggregate at h
 refine qr (bo_ (cGAggregate a0) hst (fun b1 _ hst => ?_))
 refine s0 1 [(2, vi 0)] (nl (tn (sq (wc_draw false (fun x => Rd m (oo b1 110 (cGAggregate a0) :: []) x) (by kernel_rfl) ?_))))
 have hst := hst.drew
 refine wpG_seg [0, 3, 1, 4, 2, 5, 6] [(5, vp b1 0), (8, vp b1 0), (6, vi a0.Kind), (9, vi a0.Kind), (7, vb (decide (a0.Kind ≤ 3))), (10, vb (a0.Kind == 7)), (3, vb (decide (a0.Kind ≤ 3)))] [(ad b1 0, vi a0.Kind), (ad b1 0, vi a0.Kind)] #[true, true, true, true, true, true, true, false] (fuel := 1) (PQ.then_ PQ.body) (by kernel_rfl) (by kernel_rfl) (hst.rd.with_ 0 rfl (hst.rd.none_)) (fun x hx => ⟨hx.c 0, hx.c 0, trivial⟩) ?_
 refine wpG_exec 7 (by kernel_rfl) rfl (sg 1 [(4, vb (a0.Kind == 7))] [] trivial (nl (tn (⟨_, fun _ h => h, .inl ⟨rfl, allListed_of _ (by kernel_rfl)⟩, ?_⟩))))
 refine wpG_done (by kernel_rfl) (tn (sq (bk (wc_join (fun a w => ∃ (f0 : Fr) (k10 : Nat) (m12 : Mem) (x8 : Bool), a = act Tryz.f141.ntmps (upds f0 [(1, vp b1 0), (2, vi 0), (3, vb (decide (a0.Kind ≤ 3))), (4, vb (a0.Kind == 7)), (11, vb x8)]) ∧ k10 ≤ k ∧ syntax_checkAggregate_j1 k10 a0 x8 = some r ∧ m.le m12 ∧ St g m12 (oo b1 110 (cGAggregate a0) :: F) w) ?_ ?_))))
 ·rintro _ _ ⟨f0, k10, m12, x8, rfl, hk11, h, hl9, hst⟩
  unfold syntax_checkAggregate_j1 at h
  refine cn h (fun h => ?_) (fun h => ?_)
  ·refine qr (s0 1 [(2, vi 12)] (nl (tn (wp_ret (br (tr (wr [vi 12] ?_)))))))
   have hst := pk0 hst
   have h := Option.some.inj h; subst h
   exact ⟨_, rfl, m12, rfl, hl9, hst⟩
  refine wc_join (fun a w => ∃ (f0 : Fr) (k20 : Nat) (m22 : Mem) (x17 : Bool) (x18 : Bool), a = act Tryz.f141.ntmps (upds f0 [(1, vp b1 0), (2, vi 0), (3, vb x17), (4, vb (a0.Kind == 7)), (22, vb x18)]) ∧ k20 ≤ k10 ∧ syntax_checkAggregate_j2 k20 a0 x17 x18 = some r ∧ m12.le m22 ∧ St g m22 (oo b1 110 (cGAggregate a0) :: F) w) ?_ ?_
  ·rintro _ _ ⟨f0, k20, m22, x17, x18, rfl, hk21, h, hl19, hst⟩
   unfold syntax_checkAggregate_j2 at h
   refine cn h (fun h => ?_) (fun h => ?_)
   ·refine qr (s0 1 [(2, vi 3)] (nl (tn (wp_ret (br (tr (wr [vi 3] ?_)))))))
    have hst := pk0 hst
    have e23 := hl9.trans hl19
    have h := Option.some.inj h; subst h
    exact ⟨_, rfl, m22, rfl, e23, hst⟩
   refine wc_join (fun a w => ∃ (f0 : Fr) (m34 : Mem) (x30 : Bool), a = act Tryz.f141.ntmps (upds f0 [(1, vp b1 0), (2, vi 0), (4, vb (a0.Kind == 7)), (40, vb x30)]) ∧ syntax_checkAggregate_j3 a0 x30 = some r ∧ m22.le m34 ∧ St g m34 (oo b1 110 (cGAggregate a0) :: F) w) ?_ ?_
   ·rintro _ _ ⟨f0, m34, x30, rfl, h, hl31, hst⟩
    unfold syntax_checkAggregate_j3 at h
    refine cn h (fun h => ?_) (fun h => ?_)
    ·refine qr (s0 1 [(2, vi 11)] (nl (tn (wp_ret (br (tr (wr [vi 11] ?_)))))))
     have hst := pk0 hst
     have e35 := hl9.trans (hl19.trans hl31)
     have h := Option.some.inj h; subst h
     exact ⟨_, rfl, m34, rfl, e35, hst⟩
    refine qr (s0 2 [(50, vb (a0.Kind == 7)), (51, vb (a0.Kind == 7))] ?_)
    rcases sp h with ⟨hc36, h⟩ | ⟨hc36, h⟩
    ·rw [hc36]
     refine sg 5 [(52, vp b1 4), (53, vp b1 4), (54, vi a0.Q.Num), (55, vb (decide (a0.Q.Num < 0))), (56, vb (decide (a0.Q.Num < 0)))] [(ad b1 4, vi a0.Q.Num)] ⟨hst.c 0, trivial⟩ ?_
     rcases sp h with ⟨hc37, h⟩ | ⟨hc37, h⟩
     ·rw [hc37]
      refine s0 19 [(57, undef), (58, undef), (59, undef), (60, undef), (61, vb true), (62, vb true), (63, undef), (64, undef), (65, undef), (66, undef), (67, vb true), (68, vb true), (69, undef), (70, undef), (71, undef), (72, undef), (73, vb true), (74, vb true), (49, vb true)] (nl (tn (ct (qr (s0 1 [(2, vi 2)] (nl (tn (wp_ret (br (tr (wr [vi 2] ?_)))))))))))
      have hst := pk0 hst
      have e38 := hl9.trans (hl19.trans hl31)
      have h := Option.some.inj h; subst h
      exact ⟨_, rfl, m34, rfl, e38, hst⟩
     rw [hc37]
     refine sg 6 [(57, vp b1 4), (58, vp b1 4), (59, vi a0.Q.Num), (60, vb (decide (a0.Q.Num > 1048576))), (61, vb (decide (a0.Q.Num > 1048576))), (62, vb (decide (a0.Q.Num > 1048576)))] [(ad b1 4, vi a0.Q.Num)] ⟨hst.c 0, trivial⟩ ?_
     rcases sp h with ⟨hc39, h⟩ | ⟨hc39, h⟩
     ·rw [hc39]
      refine s0 13 [(63, undef), (64, undef), (65, undef), (66, undef), (67, vb true), (68, vb true), (69, undef), (70, undef), (71, undef), (72, undef), (73, vb true), (74, vb true), (49, vb true)] (nl (tn (ct (qr (s0 1 [(2, vi 2)] (nl (tn (wp_ret (br (tr (wr [vi 2] ?_)))))))))))
      have hst := pk0 hst
      have e40 := hl9.trans (hl19.trans hl31)
      have h := Option.some.inj h; subst h
      exact ⟨_, rfl, m34, rfl, e40, hst⟩
     rw [hc39]
     refine sg 6 [(63, vp b1 4), (64, vp b1 5), (65, vi a0.Q.Den), (66, vb (decide (a0.Q.Den < 1))), (67, vb (decide (a0.Q.Den < 1))), (68, vb (decide (a0.Q.Den < 1)))] [(ad b1 5, vi a0.Q.Den)] ⟨hst.c 0, trivial⟩ ?_
     rcases sp h with ⟨hc41, h⟩ | ⟨hc41, h⟩
     ·rw [hc41]
      refine s0 7 [(69, undef), (70, undef), (71, undef), (72, undef), (73, vb true), (74, vb true), (49, vb true)] (nl (tn (ct (qr (s0 1 [(2, vi 2)] (nl (tn (wp_ret (br (tr (wr [vi 2] ?_)))))))))))
      have hst := pk0 hst
      have e42 := hl9.trans (hl19.trans hl31)
      have h := Option.some.inj h; subst h
      exact ⟨_, rfl, m34, rfl, e42, hst⟩
     rw [hc41]
     refine sg 7 [(69, vp b1 4), (70, vp b1 5), (71, vi a0.Q.Den), (72, vb (decide (a0.Q.Den > 1048576))), (73, vb (decide (a0.Q.Den > 1048576))), (74, vb (decide (a0.Q.Den > 1048576))), (49, vb (decide (a0.Q.Den > 1048576)))] [(ad b1 5, vi a0.Q.Den)] ⟨hst.c 0, trivial⟩ (nl (tn (cn h (fun h => ?_) (fun h => ?_))))
     ·refine qr (s0 1 [(2, vi 2)] (nl (tn (wp_ret (br (tr (wr [vi 2] ?_)))))))
      have hst := pk0 hst
      have e43 := hl9.trans (hl19.trans hl31)
      have h := Option.some.inj h; subst h
      exact ⟨_, rfl, m34, rfl, e43, hst⟩
     refine wp_skip (bn (tn (qr (s0 1 [(2, vi 0)] (nl (tn (wp_ret (wr [vi 0] ?_))))))))
     have hst := pk0 hst
     have e44 := hl9.trans (hl19.trans hl31)
     have h := Option.some.inj h; subst h
     exact ⟨_, rfl, m34, rfl, e44, hst⟩
    rw [hc36]
    refine s0 24 [(52, undef), (53, undef), (54, undef), (55, undef), (56, undef), (57, undef), (58, undef), (59, undef), (60, undef), (61, undef), (62, undef), (63, undef), (64, undef), (65, undef), (66, undef), (67, undef), (68, undef), (69, undef), (70, undef), (71, undef), (72, undef), (73, undef), (74, vb false), (49, vb false)] (nl (tn (cf (wp_skip (bn (tn (qr (s0 1 [(2, vi 0)] (nl (tn (wp_ret (wr [vi 0] ?_))))))))))))
    have hst := pk0 hst
    have e45 := hl9.trans (hl19.trans hl31)
    have h := Option.some.inj h; subst h
    exact ⟨_, rfl, m34, rfl, e45, hst⟩
   refine rg (s0 3 [(41, vb x17), (42, vb (!x17)), (43, vb (!x17))] ?_)
   rcases sp h with ⟨hc46, h⟩ | ⟨hc46, h⟩
   ·rw [hc46]
    refine sg 2 [(44, vp b1 1), (45, va (cGColumn a0.Column))] [(ad b1 1, vstr a0.Column.Var), (ad b1 2, vstr a0.Column.Field), (ad b1 3, vstr a0.Column.Key)] ⟨hst.c 0, hst.c 0, hst.c 0, trivial⟩ ?_
    have e51 := hl9.trans hl19
    obtain ⟨r47, hq48, h⟩ := bs h
    refine cal (c_syntax_isColumn hq48 hst (Glob.mono e51 hG)) ?_
    rintro _ _ ⟨m49, rfl, hl50, hst⟩
    refine s0 3 [(47, vb (!r47)), (48, vb (!r47)), (40, vb (!r47))] (nl (tn ?_))
    exact ⟨_, m49, (!r47), (act_upds ⟨by kernel_rfl, by kernel_rfl, by kernel_rfl, by kernel_rfl, trivial⟩), h, hl50, hst⟩
   rw [hc46]
   refine s0 6 [(44, undef), (45, undef), (46, undef), (47, undef), (48, vb false), (40, vb false)] (nl (tn ?_))
   exact ⟨_, m22, (false), (act_upds ⟨by kernel_rfl, by kernel_rfl, by kernel_rfl, by kernel_rfl, trivial⟩), h, (Mem.le.refl _), hst⟩
  refine rg (s0 2 [(23, vb (decide (a0.Kind ≤ 3))), (24, vb (decide (a0.Kind ≤ 3)))] ?_)
  rcases sp h with ⟨hc52, h⟩ | ⟨hc52, h⟩
  ·rw [hc52]
   refine sg 3 [(25, vp b1 1), (26, va (cGColumn a0.Column)), (27, va [vstr w_0, vstr w_0, vstr w_0])] [(ad b1 1, vstr a0.Column.Var), (ad b1 2, vstr a0.Column.Field), (ad b1 3, vstr a0.Column.Key)] ⟨hst.c 0, hst.c 0, hst.c 0, trivial⟩ (vl (ran ((a0.Column.Var == w_0) && ((a0.Column.Field == w_0) && ((a0.Column.Key == w_0) && true))) (cGColumn a0.Column) [vstr w_0, vstr w_0, vstr w_0]) (s0 2 [(29, vb (!((a0.Column.Var == w_0) && ((a0.Column.Field == w_0) && ((a0.Column.Key == w_0) && true))))), (30, vb (!((a0.Column.Var == w_0) && ((a0.Column.Field == w_0) && ((a0.Column.Key == w_0) && true)))))] ?_))
   rcases sp h with ⟨hc53, h⟩ | ⟨hc53, h⟩
   ·rw [hc53]
    refine s0 10 [(31, undef), (32, undef), (33, undef), (34, undef), (35, undef), (36, undef), (37, undef), (38, undef), (39, vb true), (22, vb true)] (nl (tn ?_))
    exact ⟨_, k10, m12, (true), (true), (act_upds ⟨by kernel_rfl, by kernel_rfl, by kernel_rfl, by kernel_rfl, by kernel_rfl, trivial⟩), (by omega), h, (Mem.le.refl _), hst⟩
   rw [hc53]
   refine s0 3 [(31, vb (a0.Kind == 7)), (32, vb (!(a0.Kind == 7))), (33, vb (!(a0.Kind == 7)))] ?_
   rcases sp h with ⟨hc54, h⟩ | ⟨hc54, h⟩
   ·rw [hc54]
    refine sg 3 [(34, vp b1 4), (35, va (cGFraction a0.Q)), (36, va [vi 0, vi 0])] [(ad b1 4, vi a0.Q.Num), (ad b1 5, vi a0.Q.Den)] ⟨hst.c 0, hst.c 0, trivial⟩ (vl (ran ((a0.Q.Num == 0) && ((a0.Q.Den == 0) && true)) (cGFraction a0.Q) [vi 0, vi 0]) (s0 3 [(38, vb (!((a0.Q.Num == 0) && ((a0.Q.Den == 0) && true)))), (39, vb (!((a0.Q.Num == 0) && ((a0.Q.Den == 0) && true)))), (22, vb (!((a0.Q.Num == 0) && ((a0.Q.Den == 0) && true))))] (nl (tn ?_))))
    exact ⟨_, k10, m12, (true), (!((a0.Q.Num == 0) && ((a0.Q.Den == 0) && true))), (act_upds ⟨by kernel_rfl, by kernel_rfl, by kernel_rfl, by kernel_rfl, by kernel_rfl, trivial⟩), (by omega), h, (Mem.le.refl _), hst⟩
   rw [hc54]
   refine s0 7 [(34, undef), (35, undef), (36, undef), (37, undef), (38, vb false), (39, vb false), (22, vb false)] (nl (tn ?_))
   exact ⟨_, k10, m12, (true), (false), (act_upds ⟨by kernel_rfl, by kernel_rfl, by kernel_rfl, by kernel_rfl, by kernel_rfl, trivial⟩), (by omega), h, (Mem.le.refl _), hst⟩
  rw [hc52]
  refine s0 9 [(25, undef), (26, undef), (27, undef), (28, undef), (29, vb false), (30, vb false), (31, vb (a0.Kind == 7)), (32, vb (!(a0.Kind == 7))), (33, vb (!(a0.Kind == 7)))] ?_
  rcases sp h with ⟨hc55, h⟩ | ⟨hc55, h⟩
  ·rw [hc55]
   refine sg 3 [(34, vp b1 4), (35, va (cGFraction a0.Q)), (36, va [vi 0, vi 0])] [(ad b1 4, vi a0.Q.Num), (ad b1 5, vi a0.Q.Den)] ⟨hst.c 0, hst.c 0, trivial⟩ (vl (ran ((a0.Q.Num == 0) && ((a0.Q.Den == 0) && true)) (cGFraction a0.Q) [vi 0, vi 0]) (s0 3 [(38, vb (!((a0.Q.Num == 0) && ((a0.Q.Den == 0) && true)))), (39, vb (!((a0.Q.Num == 0) && ((a0.Q.Den == 0) && true)))), (22, vb (!((a0.Q.Num == 0) && ((a0.Q.Den == 0) && true))))] (nl (tn ?_))))
   exact ⟨_, k10, m12, (false), (!((a0.Q.Num == 0) && ((a0.Q.Den == 0) && true))), (act_upds ⟨by kernel_rfl, by kernel_rfl, by kernel_rfl, by kernel_rfl, by kernel_rfl, trivial⟩), (by omega), h, (Mem.le.refl _), hst⟩
  rw [hc55]
  refine s0 7 [(34, undef), (35, undef), (36, undef), (37, undef), (38, vb false), (39, vb false), (22, vb false)] (nl (tn ?_))
  exact ⟨_, k10, m12, (false), (false), (act_upds ⟨by kernel_rfl, by kernel_rfl, by kernel_rfl, by kernel_rfl, by kernel_rfl, trivial⟩), (by omega), h, (Mem.le.refl _), hst⟩
 refine rg (sg 4 [(12, vp b1 0), (13, vi a0.Kind), (14, vb (decide (a0.Kind < 1))), (15, vb (decide (a0.Kind < 1)))] [(ad b1 0, vi a0.Kind)] ⟨hst.c 0, trivial⟩ ?_)
 rcases sp h with ⟨hc56, h⟩ | ⟨hc56, h⟩
 ·rw [hc56]
  refine s0 7 [(16, undef), (17, undef), (18, undef), (19, undef), (20, undef), (21, vb true), (11, vb true)] (nl (tn ?_))
  exact ⟨_, k, m, (true), (act_upds ⟨by kernel_rfl, by kernel_rfl, by kernel_rfl, by kernel_rfl, by kernel_rfl, trivial⟩), (by omega), h, (Mem.le.refl _), hst⟩
 rw [hc56]
 obtain ⟨v57, hA58, hv59⟩ := hG.a
 obtain ⟨A60, c61, rfl⟩ := hv59.shape
 refine sg 7 [(16, vp b1 0), (17, vi a0.Kind), (18, vs A60 namesA c61), (19, vi ((namesA).length : Int)), (20, vb (decide (a0.Kind ≥ ((namesA).length : Int)))), (21, vb (decide (a0.Kind ≥ ((namesA).length : Int)))), (11, vb (decide (a0.Kind ≥ ((namesA).length : Int))))] [(ad b1 0, vi a0.Kind), (ad 2 0, vs A60 namesA c61)] ⟨hst.c 0, hst.e hA58 0, trivial⟩ (nl (tn ?_))
 exact ⟨_, k, m, (decide (a0.Kind ≥ ((namesA).length : Int))), (act_upds ⟨by kernel_rfl, by kernel_rfl, by kernel_rfl, by kernel_rfl, by kernel_rfl, trivial⟩), (by omega), h, (Mem.le.refl _), hst⟩

def R_syntax_checkResults (g : World) (m : Mem) (F : List Asr) (r : Int) (v : Value) (w' : World) : Prop := ∃ (m' : Mem), v = vi r ∧ m.le m' ∧ St g m' (F) w'
theorem c_syntax_checkResults {k : Nat} {a0 : GQuery} {r : Int} {g : World} {m : Mem} {F : List Asr} {w : World} {u0 : Value} {u1 : Value} {u2 : Value} {u3 : Value} {u4 : Value} {u5 : Value} (h : syntax_checkResults k a0 = some r) (hst : St g m (F) w) (hu0 : RS (TGVariable) m u0 a0.Variables) (hu1 : RS (TGRelation) m u1 a0.Relations) (hu2 : RS (TGAbsence) m u2 a0.Absences) (hu3 : RS (TGColumn) m u3 a0.Group) (hu4 : RS (TGAggregate) m u4 a0.Compute) (hu5 : RS (TGOrderKey) m u5 a0.Order) (hG : Glob m) :
    Calls Tryz.prog 67 ⟨[va (cGQuery a0 u0 u1 u2 u3 u4 u5)]⟩ w (OPost (R_syntax_checkResults g m F) r) := by
 refine calls_enter Tryz.func67 rfl rfl ?_
 unfold syntax_checkResults at h
 obtain ⟨A1, c2, rfl⟩ := hu0.shape
 obtain ⟨A3, c4, rfl⟩ := hu1.shape
 obtain ⟨A5, c6, rfl⟩ := hu2.shape
 obtain ⟨A7, c8, rfl⟩ := hu3.shape
 obtain ⟨A9, c10, rfl⟩ := hu4.shape
 obtain ⟨A11, c12, rfl⟩ := hu5.shape
 refine qr (bo_ (cGQuery a0 (vs A1 a0.Variables c2) (vs A3 a0.Relations c4) (vs A5 a0.Absences c6) (vs A7 a0.Group c8) (vs A9 a0.Compute c10) (vs A11 a0.Order c12)) hst (fun b13 _ hst => ?_))
 refine s0 1 [(2, vi 0)] (nl (tn (sq (wc_join (fun a w => ∃ (f0 : Fr) (k22 : Nat) (m24 : Mem) (x20 : Bool), a = act Tryz.f67.ntmps (upds f0 [(1, vp b13 0), (2, vi 0), (31, vb x20)]) ∧ k22 ≤ k ∧ syntax_checkResults_j1 k22 a0 x20 = some r ∧ m.le m24 ∧ St g m24 (oo b13 36 (cGQuery a0 (vs A1 a0.Variables c2) (vs A3 a0.Relations c4) (vs A5 a0.Absences c6) (vs A7 a0.Group c8) (vs A9 a0.Compute c10) (vs A11 a0.Order c12)) :: F) w) ?_ ?_))))
 ·rintro _ _ ⟨f0, k22, m24, x20, rfl, hk23, h, hl21, hst⟩
  unfold syntax_checkResults_j1 at h
  refine cn h (fun h => ?_) (fun h => ?_)
  ·refine qr (s0 1 [(2, vi 2)] (nl (tn (wp_ret (tr (wr [vi 2] ?_))))))
   have hst := pk0 hst
   have h := Option.some.inj h; subst h
   exact ⟨_, rfl, m24, rfl, hl21, hst⟩
  refine wp_skip (tn (sq (qr (sg 4 [(32, vp b13 5), (33, vs A7 a0.Group c8), (34, vi ((a0.Group).length : Int)), (35, vi 0)] [(ad b13 5, vs A7 a0.Group c8)] ⟨hst.c 0, trivial⟩ (nl (tn (bk (wc_loop (fun kk a w => ∃ (f0 : Fr) (m105 : Mem) (x85 : Int), a = act Tryz.f67.ntmps (upds f0 [(1, vp b13 0), (2, vi 0), (33, vs A7 a0.Group c8), (34, vi ((a0.Group).length : Int)), (35, vi x85)]) ∧ kk ≤ k22 ∧ syntax_checkResults_l2 kk a0 x85 = some r ∧ m24.le m105 ∧ St g m105 (oo b13 36 (cGQuery a0 (vs A1 a0.Variables c2) (vs A3 a0.Relations c4) (vs A5 a0.Absences c6) (vs A7 a0.Group c8) (vs A9 a0.Compute c10) (vs A11 a0.Order c12)) :: F) w) k22 ?_ ?_))))))))
  ·exact ⟨_, m24, (0), (act_upds ⟨by kernel_rfl, by kernel_rfl, by kernel_rfl, by kernel_rfl, by kernel_rfl, trivial⟩), (Nat.le_refl _), h, (Mem.le.refl _), hst⟩
  rintro k103 ih104 _ _ ⟨f0, m105, x85, rfl, hk102, h, hl101, hst⟩
  obtain _ | k107 := k103
  ·simp [syntax_checkResults_l2] at h
  rw [syntax_checkResults_l2] at h
  refine qr (s0 1 [(36, vb (decide (x85 < ((a0.Group).length : Int))))] (nl (tn (sq (cn h (fun h => ?_) (fun h => ?_))))))
  ·refine wp_skip (tn (sq (bk (qr ?_))))
   obtain ⟨x109, hx110, h⟩ := ix h
   have e117 := hl21.trans hl101
   obtain ⟨b111, o112, cs113, hR114, hA115, hI116⟩ := RS.ix (P := Tryz.prog) (RS.mono e117 hu3) hx110
   obtain rfl := TGColumn.open_ hR114
   refine vl (hI116.r .i64) (sg 1 [(38, va (cGColumn x109))] [(ad b111 o112, vstr x109.Var), (ad b111 (o112 + 1), vstr x109.Field), (ad b111 (o112 + 2), vstr x109.Key)] ⟨hst.e hA115 0, hst.e hA115 1, hst.e hA115 2, trivial⟩ (al [vstr w_0, vstr w_0, vstr w_0] hst (fun b118 _ hst => ?_)))
   refine so0 0 (cGColumn x109) (cGColumn x109) hst (fun _ hst => ?_)
   refine nl (tn (qr (sg 1 [(39, va (cGColumn x109))] [(ad b118 0, vstr x109.Var), (ad b118 1, vstr x109.Field), (ad b118 2, vstr x109.Key)] ⟨hst.c 0, hst.c 0, hst.c 0, trivial⟩ ?_)))
   obtain ⟨r119, hq120, h⟩ := bs h
   refine cal (c_syntax_isColumn hq120 hst (Glob.mono e117 hG)) ?_
   rintro _ _ ⟨m121, rfl, hl122, hst⟩
   refine s0 1 [(41, vb (!r119))] (nl (tn (cn h (fun h => ?_) (fun h => ?_))))
   ·refine qr (s0 1 [(2, vi 11)] (nl (tn (wp_ret (br (tr (tr (br (tr (wr [vi 11] ?_))))))))))
    have hst := pk2 hst
    have e123 := e117.trans hl122
    have h := Option.some.inj h; subst h
    exact ⟨_, rfl, m121, rfl, e123, hst⟩
   refine wp_skip (bn (tn (rg (s0 2 [(42, vi (w64 (x85 + 1))), (35, vi (w64 (x85 + 1)))] (nl (tn ?_))))))
   have e124 := hl101.trans hl122
   have hst := pk0 hst
   exact ih104 k107 (by omega) _ _ ⟨_, m121, (w64 (x85 + 1)), (act_upds ⟨by kernel_rfl, by kernel_rfl, by kernel_rfl, by kernel_rfl, by kernel_rfl, trivial⟩), (by omega), h, e124, hst⟩
  refine wp_exit (tx (tx (bx (tn (sq (qr (sg 4 [(43, vp b13 6), (44, vs A9 a0.Compute c10), (45, vi ((a0.Compute).length : Int)), (46, vi 0)] [(ad b13 6, vs A9 a0.Compute c10)] ⟨hst.c 0, trivial⟩ (nl (tn (bk (wc_loop (fun kk a w => ∃ (f0 : Fr) (m210 : Mem) (x189 : Int), a = act Tryz.f67.ntmps (upds f0 [(1, vp b13 0), (2, vi 0), (44, vs A9 a0.Compute c10), (45, vi ((a0.Compute).length : Int)), (46, vi x189)]) ∧ kk ≤ k107 ∧ syntax_checkResults_l3 kk a0 x189 = some r ∧ m105.le m210 ∧ St g m210 (oo b13 36 (cGQuery a0 (vs A1 a0.Variables c2) (vs A3 a0.Relations c4) (vs A5 a0.Absences c6) (vs A7 a0.Group c8) (vs A9 a0.Compute c10) (vs A11 a0.Order c12)) :: F) w) k107 ?_ ?_)))))))))))
  ·exact ⟨_, m105, (0), (act_upds ⟨by kernel_rfl, by kernel_rfl, by kernel_rfl, by kernel_rfl, by kernel_rfl, trivial⟩), (Nat.le_refl _), h, (Mem.le.refl _), hst⟩
  rintro k208 ih209 _ _ ⟨f0, m210, x189, rfl, hk207, h, hl206, hst⟩
  obtain _ | k212 := k208
  ·simp [syntax_checkResults_l3] at h
  rw [syntax_checkResults_l3] at h
  refine qr (s0 1 [(47, vb (decide (x189 < ((a0.Compute).length : Int))))] (nl (tn (sq (cn h (fun h => ?_) (fun h => ?_))))))
  ·refine wp_skip (tn (sq (bk (qr ?_))))
   obtain ⟨x214, hx215, h⟩ := ix h
   have e222 := hl21.trans (hl101.trans hl206)
   obtain ⟨b216, o217, cs218, hR219, hA220, hI221⟩ := RS.ix (P := Tryz.prog) (RS.mono e222 hu4) hx215
   obtain rfl := TGAggregate.open_ hR219
   refine vl (hI221.r .i64) (sg 1 [(49, va (cGAggregate x214))] [(ad b216 o217, vi x214.Kind), (ad b216 (o217 + 1), vstr x214.Column.Var), (ad b216 (o217 + 2), vstr x214.Column.Field), (ad b216 (o217 + 3), vstr x214.Column.Key), (ad b216 (o217 + 4), vi x214.Q.Num), (ad b216 (o217 + 5), vi x214.Q.Den)] ⟨hst.e hA220 0, hst.e hA220 1, hst.e hA220 2, hst.e hA220 3, hst.e hA220 4, hst.e hA220 5, trivial⟩ (al [vi 0, vstr w_0, vstr w_0, vstr w_0, vi 0, vi 0] hst (fun b223 _ hst => ?_)))
   refine so0 0 (cGAggregate x214) (cGAggregate x214) hst (fun _ hst => ?_)
   refine nl (tn (qr (sg 1 [(50, va (cGAggregate x214))] [(ad b223 0, vi x214.Kind), (ad b223 1, vstr x214.Column.Var), (ad b223 2, vstr x214.Column.Field), (ad b223 3, vstr x214.Column.Key), (ad b223 4, vi x214.Q.Num), (ad b223 5, vi x214.Q.Den)] ⟨hst.c 0, hst.c 0, hst.c 0, hst.c 0, hst.c 0, hst.c 0, trivial⟩ ?_)))
   obtain ⟨r224, hq225, h⟩ := bs h
   refine cal (c_syntax_checkAggregate hq225 hst (Glob.mono e222 hG)) ?_
   rintro _ _ ⟨m226, rfl, hl227, hst⟩
   refine s0 1 [(7, vi r224)] (nl (tn (qr (s0 2 [(52, vi r224), (53, vb (r224 != 0))] (nl (tn (cn h (fun h => ?_) (fun h => ?_))))))))
   ·refine qr (s0 2 [(54, vi r224), (2, vi r224)] (nl (tn (wp_ret (br (tr (tr (br (tr (wr [vi r224] ?_))))))))))
    have hst := pk2 hst
    have e228 := e222.trans hl227
    have h := Option.some.inj h; subst h
    exact ⟨_, rfl, m226, rfl, e228, hst⟩
   refine wp_skip (bn (tn (rg (s0 2 [(55, vi (w64 (x189 + 1))), (46, vi (w64 (x189 + 1)))] (nl (tn ?_))))))
   have e229 := hl206.trans hl227
   have hst := pk0 hst
   exact ih209 k212 (by omega) _ _ ⟨_, m226, (w64 (x189 + 1)), (act_upds ⟨by kernel_rfl, by kernel_rfl, by kernel_rfl, by kernel_rfl, by kernel_rfl, trivial⟩), (by omega), h, e229, hst⟩
  refine wp_exit (tx (tx (bx (tn (sq (qr (sg 4 [(56, vp b13 7), (57, vs A11 a0.Order c12), (58, vi ((a0.Order).length : Int)), (59, vi 0)] [(ad b13 7, vs A11 a0.Order c12)] ⟨hst.c 0, trivial⟩ (nl (tn (bk (wc_loop (fun kk a w => ∃ (f0 : Fr) (m300 : Mem) (x282 : Int), a = act Tryz.f67.ntmps (upds f0 [(1, vp b13 0), (2, vi 0), (57, vs A11 a0.Order c12), (58, vi ((a0.Order).length : Int)), (59, vi x282)]) ∧ kk ≤ k212 ∧ syntax_checkResults_l4 kk a0 x282 = some r ∧ m210.le m300 ∧ St g m300 (oo b13 36 (cGQuery a0 (vs A1 a0.Variables c2) (vs A3 a0.Relations c4) (vs A5 a0.Absences c6) (vs A7 a0.Group c8) (vs A9 a0.Compute c10) (vs A11 a0.Order c12)) :: F) w) k212 ?_ ?_)))))))))))
  ·exact ⟨_, m210, (0), (act_upds ⟨by kernel_rfl, by kernel_rfl, by kernel_rfl, by kernel_rfl, by kernel_rfl, trivial⟩), (Nat.le_refl _), h, (Mem.le.refl _), hst⟩
  rintro k298 ih299 _ _ ⟨f0, m300, x282, rfl, hk297, h, hl296, hst⟩
  obtain _ | k302 := k298
  ·simp [syntax_checkResults_l4] at h
  rw [syntax_checkResults_l4] at h
  refine qr (s0 1 [(60, vb (decide (x282 < ((a0.Order).length : Int))))] (nl (tn (sq (cn h (fun h => ?_) (fun h => ?_))))))
  ·refine wp_skip (tn (sq (bk (qr ?_))))
   obtain ⟨x304, hx305, h⟩ := ix h
   have e312 := hl21.trans (hl101.trans (hl206.trans hl296))
   obtain ⟨b306, o307, cs308, hR309, hA310, hI311⟩ := RS.ix (P := Tryz.prog) (RS.mono e312 hu5) hx305
   obtain rfl := TGOrderKey.open_ hR309
   refine vl (hI311.r .i64) (sg 1 [(62, va (cGOrderKey x304))] [(ad b306 o307, vi x304.Index), (ad b306 (o307 + 1), vb x304.Descending)] ⟨hst.e hA310 0, hst.e hA310 1, trivial⟩ (al [vi 0, vb false] hst (fun b313 _ hst => ?_)))
   refine so0 0 (cGOrderKey x304) (cGOrderKey x304) hst (fun _ hst => ?_)
   refine nl (tn (qr (sg 4 [(63, vp b313 0), (64, vi x304.Index), (65, vb (decide (x304.Index < 0))), (66, vb (decide (x304.Index < 0)))] [(ad b313 0, vi x304.Index)] ⟨hst.c 0, trivial⟩ ?_)))
   rcases sp h with ⟨hc314, h⟩ | ⟨hc314, h⟩
   ·rw [hc314]
    refine s0 4 [(67, undef), (68, undef), (69, undef), (70, vb true)] (nl (tn (ct (qr (s0 1 [(2, vi 2)] (nl (tn (wp_ret (br (tr (tr (br (tr (wr [vi 2] ?_))))))))))))))
    have hst := pk2 hst
    have h := Option.some.inj h; subst h
    exact ⟨_, rfl, m300, rfl, e312, hst⟩
   rw [hc314]
   refine sg 4 [(67, vp b313 0), (68, vi x304.Index), (69, vb (decide (x304.Index > 1048576))), (70, vb (decide (x304.Index > 1048576)))] [(ad b313 0, vi x304.Index)] ⟨hst.c 0, trivial⟩ (nl (tn (cn h (fun h => ?_) (fun h => ?_))))
   ·refine qr (s0 1 [(2, vi 2)] (nl (tn (wp_ret (br (tr (tr (br (tr (wr [vi 2] ?_))))))))))
    have hst := pk2 hst
    have h := Option.some.inj h; subst h
    exact ⟨_, rfl, m300, rfl, e312, hst⟩
   refine wp_skip (bn (tn (rg (s0 2 [(71, vi (w64 (x282 + 1))), (59, vi (w64 (x282 + 1)))] (nl (tn ?_))))))
   have hst := pk0 hst
   exact ih299 k302 (by omega) _ _ ⟨_, m300, (w64 (x282 + 1)), (act_upds ⟨by kernel_rfl, by kernel_rfl, by kernel_rfl, by kernel_rfl, by kernel_rfl, trivial⟩), (by omega), h, hl296, hst⟩
  refine wp_exit (tx (tx (bx (tn (sq (qr (sg 4 [(72, vp b13 8), (73, vi a0.Limit), (74, vb (decide (a0.Limit < 0))), (75, vb (decide (a0.Limit < 0)))] [(ad b13 8, vi a0.Limit)] ⟨hst.c 0, trivial⟩ ?_)))))))
  rcases sp h with ⟨hc315, h⟩ | ⟨hc315, h⟩
  ·rw [hc315]
   refine s0 4 [(76, undef), (77, undef), (78, undef), (79, vb true)] (nl (tn (ct (qr (s0 1 [(2, vi 2)] (nl (tn (wp_ret (tr (wr [vi 2] ?_))))))))))
   have hst := pk0 hst
   have e316 := hl21.trans (hl101.trans (hl206.trans hl296))
   have h := Option.some.inj h; subst h
   exact ⟨_, rfl, m300, rfl, e316, hst⟩
  rw [hc315]
  refine sg 4 [(76, vp b13 8), (77, vi a0.Limit), (78, vb (decide (a0.Limit > 1048576))), (79, vb (decide (a0.Limit > 1048576)))] [(ad b13 8, vi a0.Limit)] ⟨hst.c 0, trivial⟩ (nl (tn (cn h (fun h => ?_) (fun h => ?_))))
  ·refine qr (s0 1 [(2, vi 2)] (nl (tn (wp_ret (tr (wr [vi 2] ?_))))))
   have hst := pk0 hst
   have e317 := hl21.trans (hl101.trans (hl206.trans hl296))
   have h := Option.some.inj h; subst h
   exact ⟨_, rfl, m300, rfl, e317, hst⟩
  refine wp_skip (tn (qr (s0 1 [(2, vi 0)] (nl (tn (wp_ret (wr [vi 0] ?_)))))))
  have hst := pk0 hst
  have e318 := hl21.trans (hl101.trans (hl206.trans hl296))
  have h := Option.some.inj h; subst h
  exact ⟨_, rfl, m300, rfl, e318, hst⟩
 refine rg (sg 5 [(10, vp b13 3), (11, vp b13 3), (12, vi a0.Slots.From), (13, vb (decide (a0.Slots.From < 0))), (14, vb (decide (a0.Slots.From < 0)))] [(ad b13 3, vi a0.Slots.From)] ⟨hst.c 0, trivial⟩ ?_)
 rcases sp h with ⟨hc319, h⟩ | ⟨hc319, h⟩
 ·rw [hc319]
  refine s0 17 [(15, undef), (16, undef), (17, undef), (18, undef), (19, vb true), (20, vb true), (21, undef), (22, undef), (23, undef), (24, undef), (25, vb true), (26, vb true), (27, undef), (28, undef), (29, undef), (30, undef), (31, vb true)] (nl (tn ?_))
  exact ⟨_, k, m, (true), (act_upds ⟨by kernel_rfl, by kernel_rfl, by kernel_rfl, trivial⟩), (by omega), h, (Mem.le.refl _), hst⟩
 rw [hc319]
 refine sg 6 [(15, vp b13 3), (16, vp b13 3), (17, vi a0.Slots.From), (18, vb (decide (a0.Slots.From > 1048576))), (19, vb (decide (a0.Slots.From > 1048576))), (20, vb (decide (a0.Slots.From > 1048576)))] [(ad b13 3, vi a0.Slots.From)] ⟨hst.c 0, trivial⟩ ?_
 rcases sp h with ⟨hc320, h⟩ | ⟨hc320, h⟩
 ·rw [hc320]
  refine s0 11 [(21, undef), (22, undef), (23, undef), (24, undef), (25, vb true), (26, vb true), (27, undef), (28, undef), (29, undef), (30, undef), (31, vb true)] (nl (tn ?_))
  exact ⟨_, k, m, (true), (act_upds ⟨by kernel_rfl, by kernel_rfl, by kernel_rfl, trivial⟩), (by omega), h, (Mem.le.refl _), hst⟩
 rw [hc320]
 refine sg 6 [(21, vp b13 3), (22, vp b13 4), (23, vi a0.Slots.To), (24, vb (decide (a0.Slots.To < 0))), (25, vb (decide (a0.Slots.To < 0))), (26, vb (decide (a0.Slots.To < 0)))] [(ad b13 4, vi a0.Slots.To)] ⟨hst.c 0, trivial⟩ ?_
 rcases sp h with ⟨hc321, h⟩ | ⟨hc321, h⟩
 ·rw [hc321]
  refine s0 5 [(27, undef), (28, undef), (29, undef), (30, undef), (31, vb true)] (nl (tn ?_))
  exact ⟨_, k, m, (true), (act_upds ⟨by kernel_rfl, by kernel_rfl, by kernel_rfl, trivial⟩), (by omega), h, (Mem.le.refl _), hst⟩
 rw [hc321]
 refine sg 5 [(27, vp b13 3), (28, vp b13 4), (29, vi a0.Slots.To), (30, vb (decide (a0.Slots.To > 1048576))), (31, vb (decide (a0.Slots.To > 1048576)))] [(ad b13 4, vi a0.Slots.To)] ⟨hst.c 0, trivial⟩ (nl (tn ?_))
 exact ⟨_, k, m, (decide (a0.Slots.To > 1048576)), (act_upds ⟨by kernel_rfl, by kernel_rfl, by kernel_rfl, trivial⟩), (by omega), h, (Mem.le.refl _), hst⟩

def R_syntax_spaced (g : World) (m : Mem) (F : List Asr) (r : Bool) (v : Value) (w' : World) : Prop := ∃ (m' : Mem), v = vb r ∧ m.le m' ∧ St g m' (F) w'
theorem c_syntax_spaced {k : Nat} {a0 : SToken} {a1 : SToken} {r : Bool} {g : World} {m : Mem} {F : List Asr} {w : World} (h : syntax_spaced k a0 a1 = some r) (hst : St g m (F) w) (hG : Glob m) :
    Calls Tryz.prog 179 ⟨[va (cSToken a0), va (cSToken a1)]⟩ w (OPost (R_syntax_spaced g m F) r) := by
 refine calls_enter Tryz.func179 rfl rfl ?_
 unfold syntax_spaced at h
 refine qr (bo_ (cSToken a0) hst (fun b1 _ hst => ?_))
 refine bo_ (cSToken a1) hst (fun b2 _ hst => ?_)
 refine s0 1 [(4, vb false)] (nl (tn (wc_join (fun a w => ∃ (f0 : Fr) (k12 : Nat) (m14 : Mem), a = act Tryz.f179.ntmps (upds f0 [(2, vp b1 0), (3, vp b2 0), (4, vb false)]) ∧ k12 ≤ k ∧ syntax_spaced_j1 k12 a0 a1 = some r ∧ m.le m14 ∧ St g m14 (oo b2 121 (cSToken a1) :: oo b1 121 (cSToken a0) :: F) w) ?_ ?_)))
 ·rintro _ _ ⟨f0, k12, m14, rfl, hk13, h, hl11, hst⟩
  unfold syntax_spaced_j1 at h
  refine wc_join (fun a w => ∃ (f0 : Fr) (k27 : Nat) (m29 : Mem), a = act Tryz.f179.ntmps (upds f0 [(2, vp b1 0), (3, vp b2 0), (4, vb false)]) ∧ k27 ≤ k12 ∧ syntax_spaced_j2 k27 a0 a1 = some r ∧ m14.le m29 ∧ St g m29 (oo b2 121 (cSToken a1) :: oo b1 121 (cSToken a0) :: F) w) ?_ ?_
  ·rintro _ _ ⟨f0, k27, m29, rfl, hk28, h, hl26, hst⟩
   unfold syntax_spaced_j2 at h
   refine qr (sg 4 [(53, vp b1 0), (54, vi a0.kind), (55, vb (a0.kind == 1)), (56, vb (a0.kind == 1))] [(ad b1 0, vi a0.kind)] ⟨hst.c 1, trivial⟩ ?_)
   rcases sp h with ⟨hc30, h⟩ | ⟨hc30, h⟩
   ·rw [hc30]
    refine sg 4 [(57, vp b2 0), (58, vi a1.kind), (59, vb (a1.kind == 4)), (60, vb (a1.kind == 4))] [(ad b2 0, vi a1.kind)] ⟨hst.c 0, trivial⟩ ?_
    rcases sp h with ⟨hc31, h⟩ | ⟨hc31, h⟩
    ·rw [hc31]
     refine sg 2 [(61, vp b2 2), (62, vstr a1.s_)] [(ad b2 2, vstr a1.s_)] ⟨hst.c 0, trivial⟩ (vl (re a1.s_ wx2828) (s0 1 [(64, vb (a1.s_ == wx2828))] ?_))
     rcases sp h with ⟨hc32, h⟩ | ⟨hc32, h⟩
     ·rw [hc32]
      refine s0 9 [(65, undef), (66, undef), (67, undef), (68, undef), (69, vb true), (70, vb true), (71, vb false), (72, vb false), (4, vb false)] (nl (tn (wp_ret (wr [vb false] ?_))))
      have hst := pk2 hst
      have e33 := hl11.trans hl26
      have h := Option.some.inj h; subst h
      exact ⟨_, rfl, m29, rfl, e33, hst⟩
     rw [hc32]
     have e39 := hl11.trans hl26
     obtain ⟨v34, hA35, hv36⟩ := (Glob.mono e39 hG).c
     obtain ⟨A37, c38, rfl⟩ := hv36.shape
     refine sg 3 [(65, vs A37 namesC c38), (66, vp b2 2), (67, vstr a1.s_)] [(ad 5 0, vs A37 namesC c38), (ad b2 2, vstr a1.s_)] ⟨hst.e hA35 0, hst.c 0, trivial⟩ ?_
     obtain ⟨r40, hq41, h⟩ := bs h
     refine cal (c_slices_Contains_string hq41 hst hv36) ?_
     rintro _ _ ⟨m42, rfl, hl43, hst⟩
     refine s0 5 [(69, vb r40), (70, vb r40), (71, vb (!r40)), (72, vb (!r40)), (4, vb (!r40))] (nl (tn (wp_ret (wr [vb (!r40)] ?_))))
     have hst := pk2 hst
     have e44 := e39.trans hl43
     cases h
     exact ⟨_, rfl, m42, rfl, e44, hst⟩
    rw [hc31]
    refine s0 13 [(61, undef), (62, undef), (63, undef), (64, undef), (65, undef), (66, undef), (67, undef), (68, undef), (69, undef), (70, vb false), (71, vb true), (72, vb true), (4, vb true)] (nl (tn (wp_ret (wr [vb true] ?_))))
    have hst := pk2 hst
    have e45 := hl11.trans hl26
    have h := Option.some.inj h; subst h
    exact ⟨_, rfl, m29, rfl, e45, hst⟩
   rw [hc30]
   refine s0 17 [(57, undef), (58, undef), (59, undef), (60, undef), (61, undef), (62, undef), (63, undef), (64, undef), (65, undef), (66, undef), (67, undef), (68, undef), (69, undef), (70, undef), (71, undef), (72, vb false), (4, vb false)] (nl (tn (wp_ret (wr [vb false] ?_))))
   have hst := pk2 hst
   have e46 := hl11.trans hl26
   have h := Option.some.inj h; subst h
   exact ⟨_, rfl, m29, rfl, e46, hst⟩
  refine qr (sg 4 [(38, vp b2 0), (39, vi a1.kind), (40, vb (a1.kind == 1)), (41, vb (a1.kind == 1))] [(ad b2 0, vi a1.kind)] ⟨hst.c 0, trivial⟩ ?_)
  rcases sp h with ⟨hc47, h⟩ | ⟨hc47, h⟩
  ·rw [hc47]
   refine sg 4 [(42, vp b1 0), (43, vi a0.kind), (44, vb (a0.kind == 4)), (45, vb (a0.kind == 4))] [(ad b1 0, vi a0.kind)] ⟨hst.c 1, trivial⟩ ?_
   rcases sp h with ⟨hc48, h⟩ | ⟨hc48, h⟩
   ·rw [hc48]
    obtain ⟨v49, hA50, hv51⟩ := (Glob.mono hl11 hG).t
    obtain ⟨A52, c53, rfl⟩ := hv51.shape
    refine sg 3 [(46, vs A52 namesT c53), (47, vp b1 2), (48, vstr a0.s_)] [(ad 4 0, vs A52 namesT c53), (ad b1 2, vstr a0.s_)] ⟨hst.e hA50 0, hst.c 1, trivial⟩ ?_
    obtain ⟨r54, hq55, h⟩ := bs h
    refine cal (c_slices_Contains_string hq55 hst hv51) ?_
    rintro _ _ ⟨m56, rfl, hl57, hst⟩
    refine s0 3 [(50, vb r54), (51, vb (!r54)), (52, vb (!r54))] (nl (tn (cn h (fun h => ?_) (fun h => ?_))))
    ·refine qr (s0 1 [(4, vb true)] (nl (tn (wp_ret (tr (wr [vb true] ?_))))))
     have hst := pk2 hst
     have e58 := hl11.trans hl57
     have h := Option.some.inj h; subst h
     exact ⟨_, rfl, m56, rfl, e58, hst⟩
    refine wp_skip (tn ?_)
    exact ⟨_, k12, m56, (act_upds ⟨by kernel_rfl, by kernel_rfl, by kernel_rfl, trivial⟩), (by omega), h, hl57, hst⟩
   rw [hc48]
   refine s0 7 [(46, undef), (47, undef), (48, undef), (49, undef), (50, vb false), (51, vb true), (52, vb true)] (nl (tn (ct (qr (s0 1 [(4, vb true)] (nl (tn (wp_ret (tr (wr [vb true] ?_))))))))))
   have hst := pk2 hst
   have h := Option.some.inj h; subst h
   exact ⟨_, rfl, m14, rfl, hl11, hst⟩
  rw [hc47]
  refine s0 11 [(42, undef), (43, undef), (44, undef), (45, undef), (46, undef), (47, undef), (48, undef), (49, undef), (50, undef), (51, undef), (52, vb false)] (nl (tn (cf (wp_skip (tn ?_)))))
  exact ⟨_, k12, m14, (act_upds ⟨by kernel_rfl, by kernel_rfl, by kernel_rfl, trivial⟩), (by omega), h, (Mem.le.refl _), hst⟩
 refine qr (sg 4 [(5, vp b1 0), (6, vi a0.kind), (7, vb (a0.kind == 4)), (8, vb (a0.kind == 4))] [(ad b1 0, vi a0.kind)] ⟨hst.c 1, trivial⟩ ?_)
 rcases sp h with ⟨hc59, h⟩ | ⟨hc59, h⟩
 ·rw [hc59]
  refine sg 2 [(9, vp b1 2), (10, vstr a0.s_)] [(ad b1 2, vstr a0.s_)] ⟨hst.c 1, trivial⟩ (vl (re a0.s_ wx2c) (s0 1 [(12, vb (a0.s_ == wx2c))] ?_))
  rcases sp h with ⟨hc60, h⟩ | ⟨hc60, h⟩
  ·rw [hc60]
   refine s0 25 [(13, undef), (14, undef), (15, undef), (16, vb true), (17, vb true), (18, undef), (19, undef), (20, undef), (21, vb true), (22, vb true), (23, vb true), (24, undef), (25, undef), (26, undef), (27, undef), (28, undef), (29, undef), (30, undef), (31, undef), (32, undef), (33, undef), (34, undef), (35, undef), (36, undef), (37, vb true)] (nl (tn (ct (qr (s0 1 [(4, vb true)] (nl (tn (wp_ret (tr (wr [vb true] ?_))))))))))
   have hst := pk2 hst
   have h := Option.some.inj h; subst h
   exact ⟨_, rfl, m, rfl, (Mem.le.refl _), hst⟩
  rw [hc60]
  refine sg 2 [(13, vp b1 2), (14, vstr a0.s_)] [(ad b1 2, vstr a0.s_)] ⟨hst.c 1, trivial⟩ (vl (re a0.s_ wx3d) (s0 2 [(16, vb (a0.s_ == wx3d)), (17, vb (a0.s_ == wx3d))] ?_))
  rcases sp h with ⟨hc61, h⟩ | ⟨hc61, h⟩
  ·rw [hc61]
   refine s0 20 [(18, undef), (19, undef), (20, undef), (21, vb true), (22, vb true), (23, vb true), (24, undef), (25, undef), (26, undef), (27, undef), (28, undef), (29, undef), (30, undef), (31, undef), (32, undef), (33, undef), (34, undef), (35, undef), (36, undef), (37, vb true)] (nl (tn (ct (qr (s0 1 [(4, vb true)] (nl (tn (wp_ret (tr (wr [vb true] ?_))))))))))
   have hst := pk2 hst
   have h := Option.some.inj h; subst h
   exact ⟨_, rfl, m, rfl, (Mem.le.refl _), hst⟩
  rw [hc61]
  refine sg 2 [(18, vp b1 2), (19, vstr a0.s_)] [(ad b1 2, vstr a0.s_)] ⟨hst.c 1, trivial⟩ (vl (re a0.s_ wx3c) (s0 3 [(21, vb (a0.s_ == wx3c)), (22, vb (a0.s_ == wx3c)), (23, vb (a0.s_ == wx3c))] ?_))
  rcases sp h with ⟨hc62, h⟩ | ⟨hc62, h⟩
  ·rw [hc62]
   refine s0 14 [(24, undef), (25, undef), (26, undef), (27, undef), (28, undef), (29, undef), (30, undef), (31, undef), (32, undef), (33, undef), (34, undef), (35, undef), (36, undef), (37, vb true)] (nl (tn (ct (qr (s0 1 [(4, vb true)] (nl (tn (wp_ret (tr (wr [vb true] ?_))))))))))
   have hst := pk2 hst
   have h := Option.some.inj h; subst h
   exact ⟨_, rfl, m, rfl, (Mem.le.refl _), hst⟩
  rw [hc62]
  refine sg 4 [(24, vp b2 0), (25, vi a1.kind), (26, vb (a1.kind == 4)), (27, vb (a1.kind == 4))] [(ad b2 0, vi a1.kind)] ⟨hst.c 0, trivial⟩ ?_
  rcases sp h with ⟨hc63, h⟩ | ⟨hc63, h⟩
  ·rw [hc63]
   refine sg 2 [(28, vp b2 2), (29, vstr a1.s_)] [(ad b2 2, vstr a1.s_)] ⟨hst.c 0, trivial⟩ (vl (re a1.s_ wx3d) (s0 1 [(31, vb (a1.s_ == wx3d))] ?_))
   rcases sp h with ⟨hc64, h⟩ | ⟨hc64, h⟩
   ·rw [hc64]
    refine s0 6 [(32, undef), (33, undef), (34, undef), (35, vb true), (36, vb true), (37, vb true)] (nl (tn (ct (qr (s0 1 [(4, vb true)] (nl (tn (wp_ret (tr (wr [vb true] ?_))))))))))
    have hst := pk2 hst
    have h := Option.some.inj h; subst h
    exact ⟨_, rfl, m, rfl, (Mem.le.refl _), hst⟩
   rw [hc64]
   refine sg 2 [(32, vp b2 2), (33, vstr a1.s_)] [(ad b2 2, vstr a1.s_)] ⟨hst.c 0, trivial⟩ (vl (re a1.s_ wx3c) (s0 3 [(35, vb (a1.s_ == wx3c)), (36, vb (a1.s_ == wx3c)), (37, vb (a1.s_ == wx3c))] (nl (tn (cn h (fun h => ?_) (fun h => ?_))))))
   ·refine qr (s0 1 [(4, vb true)] (nl (tn (wp_ret (tr (wr [vb true] ?_))))))
    have hst := pk2 hst
    have h := Option.some.inj h; subst h
    exact ⟨_, rfl, m, rfl, (Mem.le.refl _), hst⟩
   refine wp_skip (tn ?_)
   exact ⟨_, k, m, (act_upds ⟨by kernel_rfl, by kernel_rfl, by kernel_rfl, trivial⟩), (by omega), h, (Mem.le.refl _), hst⟩
  rw [hc63]
  refine s0 10 [(28, undef), (29, undef), (30, undef), (31, undef), (32, undef), (33, undef), (34, undef), (35, undef), (36, vb false), (37, vb false)] (nl (tn (cf (wp_skip (tn ?_)))))
  exact ⟨_, k, m, (act_upds ⟨by kernel_rfl, by kernel_rfl, by kernel_rfl, trivial⟩), (by omega), h, (Mem.le.refl _), hst⟩
 rw [hc59]
 refine sg 19 [(9, undef), (10, undef), (11, undef), (12, undef), (13, undef), (14, undef), (15, undef), (16, undef), (17, undef), (18, undef), (19, undef), (20, undef), (21, undef), (22, vb false), (23, vb false), (24, vp b2 0), (25, vi a1.kind), (26, vb (a1.kind == 4)), (27, vb (a1.kind == 4))] [(ad b2 0, vi a1.kind)] ⟨hst.c 0, trivial⟩ ?_
 rcases sp h with ⟨hc65, h⟩ | ⟨hc65, h⟩
 ·rw [hc65]
  refine sg 2 [(28, vp b2 2), (29, vstr a1.s_)] [(ad b2 2, vstr a1.s_)] ⟨hst.c 0, trivial⟩ (vl (re a1.s_ wx3d) (s0 1 [(31, vb (a1.s_ == wx3d))] ?_))
  rcases sp h with ⟨hc66, h⟩ | ⟨hc66, h⟩
  ·rw [hc66]
   refine s0 6 [(32, undef), (33, undef), (34, undef), (35, vb true), (36, vb true), (37, vb true)] (nl (tn (ct (qr (s0 1 [(4, vb true)] (nl (tn (wp_ret (tr (wr [vb true] ?_))))))))))
   have hst := pk2 hst
   have h := Option.some.inj h; subst h
   exact ⟨_, rfl, m, rfl, (Mem.le.refl _), hst⟩
  rw [hc66]
  refine sg 2 [(32, vp b2 2), (33, vstr a1.s_)] [(ad b2 2, vstr a1.s_)] ⟨hst.c 0, trivial⟩ (vl (re a1.s_ wx3c) (s0 3 [(35, vb (a1.s_ == wx3c)), (36, vb (a1.s_ == wx3c)), (37, vb (a1.s_ == wx3c))] (nl (tn (cn h (fun h => ?_) (fun h => ?_))))))
  ·refine qr (s0 1 [(4, vb true)] (nl (tn (wp_ret (tr (wr [vb true] ?_))))))
   have hst := pk2 hst
   have h := Option.some.inj h; subst h
   exact ⟨_, rfl, m, rfl, (Mem.le.refl _), hst⟩
  refine wp_skip (tn ?_)
  exact ⟨_, k, m, (act_upds ⟨by kernel_rfl, by kernel_rfl, by kernel_rfl, trivial⟩), (by omega), h, (Mem.le.refl _), hst⟩
 rw [hc65]
 refine s0 10 [(28, undef), (29, undef), (30, undef), (31, undef), (32, undef), (33, undef), (34, undef), (35, undef), (36, vb false), (37, vb false)] (nl (tn (cf (wp_skip (tn ?_)))))
 exact ⟨_, k, m, (act_upds ⟨by kernel_rfl, by kernel_rfl, by kernel_rfl, trivial⟩), (by omega), h, (Mem.le.refl _), hst⟩

def R_writer_put (g : World) (m : Mem) (F : List Asr) (ob0 : Nat) (r : SWriter) (v : Value) (w' : World) : Prop := ∃ (m' : Mem) (A1 : Option Addr) (c1 : Nat) (cs1 : List Value), v = vt [] ∧ m.le m' ∧ St g m' (oo ob0 123 (cSWriter r (vs A1 r.out c1)) :: rw_ 5 1 A1 r.out c1 cs1 :: F) w' ∧ RC (TInt .u8) m' r.out cs1
theorem c_writer_put {k : Nat} {a0 : SWriter} {a1 : SToken} {a2 : Str} {r : SWriter} {g : World} {m : Mem} {F : List Asr} {w : World} {ob0 : Nat} {A1_ : Option Addr} {c1_ : Nat} {cs1_ : List Value} (h : writer_put k a0 a1 a2 = some r) (hst : St g m (oo ob0 123 (cSWriter a0 (vs A1_ a0.out c1_)) :: rw_ 5 1 A1_ a0.out c1_ cs1_ :: F) w) (hrc1_ : RC (TInt .u8) m a0.out cs1_) (hG : Glob m) :
    Calls Tryz.prog 166 ⟨[vp ob0 0, va (cSToken a1), vstr a2]⟩ w (OPost (R_writer_put g m F ob0) r) := by
 refine calls_enter Tryz.func166 rfl rfl ?_
 unfold writer_put at h
 refine qr (bo_ (cSToken a1) hst (fun b1 _ hst => ?_))
 refine nl (tn (wc_join (fun a w => ∃ (f0 : Fr) (m41 : Mem) (x33 : List Int) (A34 : Option Addr) (c35 : Nat) (cs36 : List Value), a = act Tryz.f166.ntmps (upds f0 [(0, vp ob0 0), (2, vstr a2), (4, vp b1 0)]) ∧ writer_put_j2 a1 a2 x33 = some r ∧ m.le m41 ∧ St g m41 (oo b1 121 (cSToken a1) :: oo ob0 123 [vs A34 x33 c35, vi a0.last.kind, vi a0.last.at_, vstr a0.last.s_, vi a0.last.n_] :: rw_ 5 1 A34 x33 c35 cs36 :: F) w ∧ RC (TInt .u8) m41 x33 cs36) ?_ ?_))
 ·rintro _ _ ⟨f0, m41, x33, A34, c35, cs36, rfl, h, hl38, hst, hrc37⟩
  unfold writer_put_j2 at h
  refine qr (sg 6 [(29, vp ob0 0), (30, vp ob0 0), (31, vp ob0 0), (32, vp ob0 0), (33, vs A34 x33 c35), (34, vstr a2)] [(ad ob0 0, vs A34 x33 c35)] ⟨hst.c 1, trivial⟩ ?_)
  obtain ⟨hb42, h⟩ := chk_some h
  refine as2 (xs := x33) (l := a2) hst hrc37 hb42 (fun A43 c44 cs45 _ hrc46 hst => ?_)
  refine s0 2 [(36, vp ob0 0), (37, vp ob0 0)] (so1 0 [vs A43 (x33 ++ List.map (fun b : UInt8 => (b.toNat : Int)) a2) c44] [vs A43 (x33 ++ List.map (fun b : UInt8 => (b.toNat : Int)) a2) c44, vi a0.last.kind, vi a0.last.at_, vstr a0.last.s_, vi a0.last.n_] hst (fun _ hst => ?_))
  refine nl (tn (sq (qr (sg 2 [(38, vp b1 2), (39, vstr a1.s_)] [(ad b1 2, vstr a1.s_)] ⟨hst.c 0, trivial⟩ (vl (re a1.s_ wx2828) (nl (tn (cn h (fun h => ?_) (fun h => ?_)))))))))
  ·refine rg (s0 1 [(41, vp b1 2)] (so0 2 [vstr wx28] [vi a1.kind, vi a1.at_, vstr wx28, vi a1.n_] hst (fun _ hst => ?_)))
   refine nl (tn (rg (sg 4 [(42, vp ob0 0), (43, va [vi a1.kind, vi a1.at_, vstr wx28, vi a1.n_]), (44, vp ob0 0), (45, vp ob0 1)] [(ad b1 0, vi a1.kind), (ad b1 1, vi a1.at_), (ad b1 2, vstr wx28), (ad b1 3, vi a1.n_)] ⟨hst.c 0, hst.c 0, hst.c 0, hst.c 0, trivial⟩ (so1 1 [vi a1.kind, vi a1.at_, vstr wx28, vi a1.n_] [vs A43 (x33 ++ List.map (fun b : UInt8 => (b.toNat : Int)) a2) c44, vi a1.kind, vi a1.at_, vstr wx28, vi a1.n_] hst (fun _ hst => ?_)))))
   refine nl (we [] ?_)
   have hst := pk0 hst
   cases h
   exact ⟨_, rfl, m41, A43, c44, cs45, rfl, hl38, hst, hrc46⟩
  refine wp_skip (tn (rg (sg 4 [(42, vp ob0 0), (43, va (cSToken a1)), (44, vp ob0 0), (45, vp ob0 1)] [(ad b1 0, vi a1.kind), (ad b1 1, vi a1.at_), (ad b1 2, vstr a1.s_), (ad b1 3, vi a1.n_)] ⟨hst.c 0, hst.c 0, hst.c 0, hst.c 0, trivial⟩ (so1 1 (cSToken a1) [vs A43 (x33 ++ List.map (fun b : UInt8 => (b.toNat : Int)) a2) c44, vi a1.kind, vi a1.at_, vstr a1.s_, vi a1.n_] hst (fun _ hst => ?_)))))
  refine nl (we [] ?_)
  have hst := pk0 hst
  cases h
  exact ⟨_, rfl, m41, A43, c44, cs45, rfl, hl38, hst, hrc46⟩
 refine wc_join (fun a w => ∃ (f0 : Fr) (m61 : Mem) (x57 : Bool), a = act Tryz.f166.ntmps (upds f0 [(0, vp ob0 0), (2, vstr a2), (4, vp b1 0), (19, vb x57)]) ∧ writer_put_j3 a0 a1 a2 x57 = some r ∧ m.le m61 ∧ St g m61 (oo b1 121 (cSToken a1) :: oo ob0 123 (cSWriter a0 (vs A1_ a0.out c1_)) :: rw_ 5 1 A1_ a0.out c1_ cs1_ :: F) w) ?_ ?_
 ·rintro _ _ ⟨f0, m61, x57, rfl, h, hl58, hst⟩
  unfold writer_put_j3 at h
  refine cn h (fun h => ?_) (fun h => ?_)
  ·refine rg (sg 5 [(20, vp ob0 0), (21, vp ob0 0), (22, vp ob0 0), (23, vp ob0 0), (24, vs A1_ a0.out c1_)] [(ad ob0 0, vs A1_ a0.out c1_)] ⟨hst.c 1, trivial⟩ (li 5 1 [vu 32] hst (fun b62 _ hst => ?_)))
   obtain ⟨hb63, h⟩ := chk_some h
   refine ap3 (TInt .u8) (xs := a0.out) (ys := [32]) 1 1 0 hst (RC.mono hl58 hrc1_) (RC.k1 rfl (RC.nil _ _)) hb63 (fun A64 c65 cs66 _ hrc67 hst => ?_)
   have hst := pk0 hst
   refine s0 2 [(27, vp ob0 0), (28, vp ob0 0)] (so1 0 [vs A64 (a0.out ++ [32]) c65] [vs A64 (a0.out ++ [32]) c65, vi a0.last.kind, vi a0.last.at_, vstr a0.last.s_, vi a0.last.n_] hst (fun _ hst => ?_))
   refine nl (tn ?_)
   exact ⟨_, m61, ((a0.out ++ [32])), A64, c65, cs66, (act_upds ⟨by kernel_rfl, by kernel_rfl, by kernel_rfl, trivial⟩), h, hl58, hst, hrc67⟩
  refine wp_skip (tn ?_)
  exact ⟨_, m61, (a0.out), A1_, c1_, cs1_, (act_upds ⟨by kernel_rfl, by kernel_rfl, by kernel_rfl, trivial⟩), h, hl58, hst, (RC.mono hl58 hrc1_)⟩
 refine wc_draw false (fun x => Rd m (oo ob0 123 (cSWriter a0 (vs A1_ a0.out c1_)) :: oo b1 121 (cSToken a1) :: []) x) (by kernel_rfl) ?_
 have hst := hst.drew
 refine wpG_seg [0, 1, 2, 3, 4, 5, 6] [(6, vp ob0 0), (7, vp ob0 0), (8, vp ob0 0), (9, vs A1_ a0.out c1_), (10, vi ((a0.out).length : Int)), (11, vb (decide (((a0.out).length : Int) > 0))), (12, vb (decide (((a0.out).length : Int) > 0)))] [(ad ob0 0, vs A1_ a0.out c1_)] #[true, true, true, true, true, true, true, false, false, false, false, false, false, false] (fuel := 7) (PQ.then_ (PQ.then_ PQ.body)) (by kernel_rfl) (by kernel_rfl) (hst.rd.with_ 1 rfl (hst.rd.with_ 0 rfl (hst.rd.none_))) (fun x hx => ⟨hx.c 0, trivial⟩) ?_
 rcases sp h with ⟨hc73, h⟩ | ⟨hc73, h⟩
 ·rw [hc73]
  refine wpG_seg [7, 11, 8, 9, 10] [(13, vp ob0 0), (17, va (cSToken a1)), (14, vp ob0 0), (15, vp ob0 1), (16, va (cSToken a0.last))] [(ad b1 0, vi a1.kind), (ad b1 1, vi a1.at_), (ad b1 2, vstr a1.s_), (ad b1 3, vi a1.n_), (ad ob0 1, vi a0.last.kind), (ad ob0 2, vi a0.last.at_), (ad ob0 3, vstr a0.last.s_), (ad ob0 4, vi a0.last.n_)] #[true, true, true, true, true, true, true, true, true, true, true, true, false, false] (fuel := 2) (PQ.then_ (PQ.then_ PQ.body)) (by kernel_rfl) (by kernel_rfl) (hst.rd.with_ 1 rfl (hst.rd.with_ 0 rfl (hst.rd.none_))) (fun x hx => ⟨hx.c 1, hx.c 1, hx.c 1, hx.c 1, hx.c 0, hx.c 0, hx.c 0, hx.c 0, trivial⟩) ?_
  refine wpG_exec 12 (by kernel_rfl) rfl ?_
  obtain ⟨r74, hq75, h⟩ := bs h
  refine cal (c_syntax_spaced hq75 hst hG) ?_
  rintro _ _ ⟨m76, rfl, hl77, hst⟩
  refine nl (tn (⟨_, fun _ h => h, .inr (Rd.lower hl77 (hst.rd.with_ 1 rfl (hst.rd.with_ 0 rfl (hst.rd.none_)))), ?_⟩))
  refine wpG_exec 13 (by kernel_rfl) rfl (sg 1 [(19, vb r74)] [] trivial (nl (tn (⟨_, fun _ h => h, .inl ⟨rfl, allListed_of _ (by kernel_rfl)⟩, ?_⟩))))
  refine wpG_done (by kernel_rfl) (tn ?_)
  exact ⟨_, m76, (r74), (act_upds ⟨by kernel_rfl, by kernel_rfl, by kernel_rfl, by kernel_rfl, trivial⟩), h, hl77, hst⟩
 rw [hc73]
 refine wpG_seg [7, 11, 8, 9, 10, 12] [(13, undef), (17, undef), (14, undef), (15, undef), (16, undef), (18, undef)] [] #[true, true, true, true, true, true, true, true, true, true, true, true, true, false] (fuel := 1) (PQ.then_ (PQ.then_ PQ.body)) (by kernel_rfl) (by kernel_rfl) (hst.rd.with_ 1 rfl (hst.rd.with_ 0 rfl (hst.rd.none_))) (fun x hx => trivial) ?_
 refine wpG_exec 13 (by kernel_rfl) rfl (sg 1 [(19, vb false)] [] trivial (nl (tn (⟨_, fun _ h => h, .inl ⟨rfl, allListed_of _ (by kernel_rfl)⟩, ?_⟩))))
 refine wpG_done (by kernel_rfl) (tn ?_)
 exact ⟨_, m, (false), (act_upds ⟨by kernel_rfl, by kernel_rfl, by kernel_rfl, by kernel_rfl, trivial⟩), h, (Mem.le.refl _), hst⟩

def R_writer_words (g : World) (m : Mem) (F : List Asr) (ob0 : Nat) (r : SWriter) (v : Value) (w' : World) : Prop := ∃ (m' : Mem) (A1 : Option Addr) (c1 : Nat) (cs1 : List Value), v = vt [] ∧ m.le m' ∧ St g m' (oo ob0 123 (cSWriter r (vs A1 r.out c1)) :: rw_ 5 1 A1 r.out c1 cs1 :: F) w' ∧ RC (TInt .u8) m' r.out cs1
theorem c_writer_words {k : Nat} {a0 : SWriter} {a1 : List Str} {r : SWriter} {g : World} {m : Mem} {F : List Asr} {w : World} {ob0 : Nat} {A1_ : Option Addr} {c1_ : Nat} {cs1_ : List Value} {u2 : Value} (h : writer_words k a0 a1 = some r) (hst : St g m (oo ob0 123 (cSWriter a0 (vs A1_ a0.out c1_)) :: rw_ 5 1 A1_ a0.out c1_ cs1_ :: F) w) (hrc1_ : RC (TInt .u8) m a0.out cs1_) (hu2 : RS (TStr) m u2 a1) (hG : Glob m) :
    Calls Tryz.prog 130 ⟨[vp ob0 0, u2]⟩ w (OPost (R_writer_words g m F ob0) r) := by
 refine calls_enter Tryz.func130 rfl rfl ?_
 unfold writer_words at h
 obtain ⟨A1, c2, rfl⟩ := hu2.shape
 refine qr (s0 3 [(6, vs A1 a1 c2), (7, vi ((a1).length : Int)), (8, vi 0)] (nl (tn (bk (wc_loop (fun kk a w => ∃ (f0 : Fr) (m73 : Mem) (x31 : List Int) (A32 : Option Addr) (c33 : Nat) (cs34 : List Value) (x36 : Int) (x37 : Int) (x38 : Str) (x39 : Int) (x40 : Int), a = act Tryz.f130.ntmps (upds f0 [(0, vp ob0 0), (6, vs A1 a1 c2), (7, vi ((a1).length : Int)), (8, vi x40)]) ∧ kk ≤ k ∧ writer_words_l1 kk a1 x31 x36 x37 x38 x39 x40 = some r ∧ m.le m73 ∧ St g m73 (oo ob0 123 [vs A32 x31 c33, vi x36, vi x37, vstr x38, vi x39] :: rw_ 5 1 A32 x31 c33 cs34 :: F) w ∧ RC (TInt .u8) m73 x31 cs34) k ?_ ?_)))))
 ·exact ⟨_, m, (a0.out), A1_, c1_, cs1_, (a0.last.kind), (a0.last.at_), (a0.last.s_), (a0.last.n_), (0), (act_upds ⟨by kernel_rfl, by kernel_rfl, by kernel_rfl, by kernel_rfl, trivial⟩), (Nat.le_refl _), h, (Mem.le.refl _), hst, hrc1_⟩
 rintro k71 ih72 _ _ ⟨f0, m73, x31, A32, c33, cs34, x36, x37, x38, x39, x40, rfl, hk70, h, hl69, hst, hrc35⟩
 obtain _ | k75 := k71
 ·simp [writer_words_l1] at h
 rw [writer_words_l1] at h
 refine qr (s0 1 [(9, vb (decide (x40 < ((a1).length : Int))))] (nl (tn (sq (cn h (fun h => ?_) (fun h => ?_))))))
 ·refine wp_skip (tn (sq (bk (qr ?_))))
  obtain ⟨x77, hx78, h⟩ := ix h
  obtain ⟨b79, o80, cs81, hR82, hA83, hI84⟩ := RS.ix (P := Tryz.prog) (RS.mono hl69 hu2) hx78
  obtain rfl : cs81 = [vstr x77] := hR82
  refine vl (hI84.r .i64) (sg 2 [(11, vstr x77), (5, vstr x77)] [(ad b79 o80, vstr x77)] ⟨hst.e hA83 0, trivial⟩ (nl (tn (rg (s0 4 [(12, vp ob0 0), (13, vstr x77), (14, va [vi 1, vi 0, vstr x77, vi 0]), (15, vstr x77)] ?_)))))
  obtain ⟨r85, hq86, h⟩ := bs h
  refine cal (c_writer_put hq86 hst hrc35 (Glob.mono hl69 hG)) ?_
  rintro _ _ ⟨m87, A90, c91, cs92, rfl, hl88, hst, hrc93⟩
  refine nl (bn (tn (rg (s0 2 [(17, vi (w64 (x40 + 1))), (8, vi (w64 (x40 + 1)))] (nl (tn ?_))))))
  have e94 := hl69.trans hl88
  exact ih72 k75 (by omega) _ _ ⟨_, m87, (r85.out), A90, c91, cs92, (r85.last.kind), (r85.last.at_), (r85.last.s_), (r85.last.n_), (w64 (x40 + 1)), (act_upds ⟨by kernel_rfl, by kernel_rfl, by kernel_rfl, by kernel_rfl, trivial⟩), (by omega), h, e94, hst, hrc93⟩
 refine wp_exit (tx (tx (bx (we [] ?_))))
 cases h
 exact ⟨_, rfl, m73, A32, c33, cs34, rfl, hl69, hst, hrc35⟩

def R_writer_sign (g : World) (m : Mem) (F : List Asr) (ob0 : Nat) (r : SWriter) (v : Value) (w' : World) : Prop := ∃ (m' : Mem) (A1 : Option Addr) (c1 : Nat) (cs1 : List Value), v = vt [] ∧ m.le m' ∧ St g m' (oo ob0 123 (cSWriter r (vs A1 r.out c1)) :: rw_ 5 1 A1 r.out c1 cs1 :: F) w' ∧ RC (TInt .u8) m' r.out cs1
theorem c_writer_sign {k : Nat} {a0 : SWriter} {a1 : Str} {r : SWriter} {g : World} {m : Mem} {F : List Asr} {w : World} {ob0 : Nat} {A1_ : Option Addr} {c1_ : Nat} {cs1_ : List Value} (h : writer_sign k a0 a1 = some r) (hst : St g m (oo ob0 123 (cSWriter a0 (vs A1_ a0.out c1_)) :: rw_ 5 1 A1_ a0.out c1_ cs1_ :: F) w) (hrc1_ : RC (TInt .u8) m a0.out cs1_) (hG : Glob m) :
    Calls Tryz.prog 132 ⟨[vp ob0 0, vstr a1]⟩ w (OPost (R_writer_sign g m F ob0) r) := by
 refine calls_enter Tryz.func132 rfl rfl ?_
 unfold writer_sign at h
 refine rg (s0 4 [(4, vp ob0 0), (5, vstr a1), (6, va [vi 4, vi 0, vstr a1, vi 0]), (7, vstr a1)] ?_)
 obtain ⟨r1, hq2, h⟩ := bs h
 refine cal (c_writer_put hq2 hst hrc1_ hG) ?_
 rintro _ _ ⟨m3, A6, c7, cs8, rfl, hl4, hst, hrc9⟩
 refine nl (we [] ?_)
 have h := Option.some.inj h; subst h
 exact ⟨_, rfl, m3, A6, c7, cs8, rfl, hl4, hst, hrc9⟩

def R_writer_text (g : World) (m : Mem) (F : List Asr) (ob0 : Nat) (r : SWriter) (v : Value) (w' : World) : Prop := ∃ (m' : Mem) (A1 : Option Addr) (c1 : Nat) (cs1 : List Value), v = vt [] ∧ m.le m' ∧ St g m' (oo ob0 123 (cSWriter r (vs A1 r.out c1)) :: rw_ 5 1 A1 r.out c1 cs1 :: F) w' ∧ RC (TInt .u8) m' r.out cs1
theorem c_writer_text {k : Nat} {a0 : SWriter} {a1 : Str} {r : SWriter} {g : World} {m : Mem} {F : List Asr} {w : World} {ob0 : Nat} {A1_ : Option Addr} {c1_ : Nat} {cs1_ : List Value} (h : writer_text k a0 a1 = some r) (hst : St g m (oo ob0 123 (cSWriter a0 (vs A1_ a0.out c1_)) :: rw_ 5 1 A1_ a0.out c1_ cs1_ :: F) w) (hrc1_ : RC (TInt .u8) m a0.out cs1_) (hG : Glob m) :
    Calls Tryz.prog 168 ⟨[vp ob0 0, vstr a1]⟩ w (OPost (R_writer_text g m F ob0) r) := by
 refine calls_enter Tryz.func168 rfl rfl ?_
 unfold writer_text at h
 refine qr (li 5 1 [vu 34] hst (fun b1 _ hst => ?_))
 have hrc3 : RC (TInt .u8) m [34] [vu 34] := (RC.k1 rfl (RC.nil _ _))
 have hst := hst.obj_row (size := 1) (k := 1) rfl (Nat.le_of_ble_eq_true rfl)
 refine s0 1 [(4, .slice (some ⟨b1, 0, none⟩) 1 1)] (nl (tn (sq (qr (s0 3 [(7, vstr a1), (8, vi ((a1).length : Int)), (9, vi 0)] (nl (tn (bk (wc_loop (fun kk a w => ∃ (f0 : Fr) (m146 : Mem) (x70 : List Int) (A71 : Option Addr) (c72 : Nat) (cs73 : List Value) (x75 : Int), a = act Tryz.f168.ntmps (upds f0 [(0, vp ob0 0), (1, vstr a1), (4, vs A71 x70 c72), (8, vi ((a1).length : Int)), (9, vi x75)]) ∧ kk ≤ k ∧ writer_text_l3 kk a0 a1 x70 x75 = some r ∧ m.le m146 ∧ St g m146 (rw_ 5 1 A71 x70 c72 cs73 :: oo ob0 123 (cSWriter a0 (vs A1_ a0.out c1_)) :: rw_ 5 1 A1_ a0.out c1_ cs1_ :: F) w ∧ RC (TInt .u8) m146 x70 cs73) k ?_ ?_)))))))))
 ·exact ⟨_, m, ([34]), (some ⟨b1, 0, none⟩), 1, [vu 34], (0), (act_upds ⟨by kernel_rfl, by kernel_rfl, by kernel_rfl, by kernel_rfl, by kernel_rfl, trivial⟩), (Nat.le_refl _), h, (Mem.le.refl _), hst, hrc3⟩
 rintro k144 ih145 _ _ ⟨f0, m146, x70, A71, c72, cs73, x75, rfl, hk143, h, hl142, hst, hrc74⟩
 obtain _ | k148 := k144
 ·simp [writer_text_l3] at h
 rw [writer_text_l3] at h
 refine qr (s0 1 [(10, vb (decide (x75 < ((a1).length : Int))))] (nl (tn (sq (cn h (fun h => ?_) (fun h => ?_))))))
 ·refine wp_skip (tn (sq (bk (qr (s0 2 [(11, vi x75), (5, vi x75)] (nl (tn (wc_join (fun a w => ∃ (f0 : Fr) (k178 : Nat) (m180 : Mem) (x168 : List Int) (A169 : Option Addr) (c170 : Nat) (cs171 : List Value) (x173 : Int) (x174 : Bool) (x175 : Bool) (x176 : Bool), a = act Tryz.f168.ntmps (upds f0 [(0, vp ob0 0), (1, vstr a1), (4, vs A169 x168 c170), (5, vi x75), (8, vi ((a1).length : Int)), (9, vi x75), (10, vb (decide (x75 < ((a1).length : Int)))), (11, vi x75), (12, vstr a1), (13, vi x75), (14, vu x173), (15, vb x174), (16, vb x175), (21, vb x176)]) ∧ k178 ≤ k148 ∧ writer_text_j4 k178 a0 a1 x75 x168 = some r ∧ m146.le m180 ∧ St g m180 (rw_ 5 1 A169 x168 c170 cs171 :: oo ob0 123 (cSWriter a0 (vs A1_ a0.out c1_)) :: rw_ 5 1 A1_ a0.out c1_ cs1_ :: F) w ∧ RC (TInt .u8) m180 x168 cs171) ?_ ?_))))))))
  ·rintro _ _ ⟨f0, k178, m180, x168, A169, c170, cs171, x173, x174, x175, x176, rfl, hk179, h, hl177, hst, hrc172⟩
   obtain _ | k181 := k178
   ·simp [writer_text_j4] at h
   rw [writer_text_j4] at h
   refine rg (s0 3 [(25, vs A169 x168 c170), (26, vstr a1), (27, vi x75)] ?_)
   obtain ⟨c183, hc184, h⟩ := ix h
   refine vl (ria hc184.1 hc184.2) (li 5 1 [vu (c183.toNat : Int)] hst (fun b185 _ hst => ?_))
   obtain ⟨hb186, h⟩ := chk_some h
   refine ap1 (TInt .u8) (xs := x168) (ys := [(c183.toNat : Int)]) 1 1 0 hst hrc172 (RC.k1 rfl (RC.nil _ _)) hb186 (fun A187 c188 cs189 _ hrc190 hst => ?_)
   have hst := pk0 hst
   refine s0 1 [(4, vs A187 (x168 ++ [(c183.toNat : Int)]) c188)] (nl (bn (tn (rg (s0 2 [(31, vi (w64 (x75 + 1))), (9, vi (w64 (x75 + 1)))] (nl (tn ?_)))))))
   have e191 := hl142.trans hl177
   exact ih145 k181 (by omega) _ _ ⟨_, m180, ((x168 ++ [(c183.toNat : Int)])), A187, c188, cs189, (w64 (x75 + 1)), (act_upds ⟨by kernel_rfl, by kernel_rfl, by kernel_rfl, by kernel_rfl, by kernel_rfl, trivial⟩), (by omega), h, e191, hst, hrc190⟩
  refine qr (s0 2 [(12, vstr a1), (13, vi x75)] ?_)
  obtain ⟨c193, hc194, h⟩ := ix h
  refine vl (ria hc194.1 hc194.2) (s0 2 [(15, vb ((c193.toNat : Int) == 34)), (16, vb ((c193.toNat : Int) == 34))] ?_)
  rcases sp h with ⟨hc195, h⟩ | ⟨hc195, h⟩
  ·rw [hc195]
   refine s0 5 [(17, undef), (18, undef), (19, undef), (20, undef), (21, vb true)] (nl (tn (ct (rg (s0 1 [(22, vs A71 x70 c72)] (li 5 1 [vu 92] hst (fun b196 _ hst => ?_)))))))
   obtain ⟨hb197, h⟩ := chk_some h
   refine ap1 (TInt .u8) (xs := x70) (ys := [92]) 1 1 0 hst hrc74 (RC.k1 rfl (RC.nil _ _)) hb197 (fun A198 c199 cs200 _ hrc201 hst => ?_)
   have hst := pk0 hst
   refine s0 1 [(4, vs A198 (x70 ++ [92]) c199)] (nl (tn ?_))
   exact ⟨_, k148, m146, ((x70 ++ [92])), A198, c199, cs200, ((c193.toNat : Int)), (true), (true), (true), (act_upds ⟨by kernel_rfl, by kernel_rfl, by kernel_rfl, by kernel_rfl, by kernel_rfl, by kernel_rfl, by kernel_rfl, by kernel_rfl, by kernel_rfl, by kernel_rfl, by kernel_rfl, by kernel_rfl, by kernel_rfl, by kernel_rfl, trivial⟩), (by omega), h, (Mem.le.refl _), hst, hrc201⟩
  rw [hc195]
  refine s0 2 [(17, vstr a1), (18, vi x75)] ?_
  obtain ⟨c203, hc204, h⟩ := ix h
  refine vl (ria hc204.1 hc204.2) (s0 2 [(20, vb ((c203.toNat : Int) == 92)), (21, vb ((c203.toNat : Int) == 92))] (nl (tn (cn h (fun h => ?_) (fun h => ?_)))))
  ·refine rg (s0 1 [(22, vs A71 x70 c72)] (li 5 1 [vu 92] hst (fun b205 _ hst => ?_)))
   obtain ⟨hb206, h⟩ := chk_some h
   refine ap1 (TInt .u8) (xs := x70) (ys := [92]) 1 1 0 hst hrc74 (RC.k1 rfl (RC.nil _ _)) hb206 (fun A207 c208 cs209 _ hrc210 hst => ?_)
   have hst := pk0 hst
   refine s0 1 [(4, vs A207 (x70 ++ [92]) c208)] (nl (tn ?_))
   exact ⟨_, k148, m146, ((x70 ++ [92])), A207, c208, cs209, ((c193.toNat : Int)), (false), (false), (((c203.toNat : Int) == 92)), (act_upds ⟨by kernel_rfl, by kernel_rfl, by kernel_rfl, by kernel_rfl, by kernel_rfl, by kernel_rfl, by kernel_rfl, by kernel_rfl, by kernel_rfl, by kernel_rfl, by kernel_rfl, by kernel_rfl, by kernel_rfl, by kernel_rfl, trivial⟩), (by omega), h, (Mem.le.refl _), hst, hrc210⟩
  refine wp_skip (tn ?_)
  exact ⟨_, k148, m146, (x70), A71, c72, cs73, ((c193.toNat : Int)), (false), (false), (((c203.toNat : Int) == 92)), (act_upds ⟨by kernel_rfl, by kernel_rfl, by kernel_rfl, by kernel_rfl, by kernel_rfl, by kernel_rfl, by kernel_rfl, by kernel_rfl, by kernel_rfl, by kernel_rfl, by kernel_rfl, by kernel_rfl, by kernel_rfl, by kernel_rfl, trivial⟩), (by omega), h, (Mem.le.refl _), hst, hrc74⟩
 refine wp_exit (tx (tx (bx (tn (rg (s0 3 [(32, vp ob0 0), (33, va [vi 3, vi 0, vstr w_0, vi 0]), (34, vs A71 x70 c72)] (li 5 1 [vu 34] hst (fun b211 _ hst => ?_))))))))
 obtain ⟨hb212, h⟩ := chk_some h
 refine ap1 (TInt .u8) (xs := x70) (ys := [34]) 1 1 0 hst hrc74 (RC.k1 rfl (RC.nil _ _)) hb212 (fun A213 c214 cs215 _ hrc216 hst => ?_)
 have hst := pk0 hst
 refine vl (cro hst.rd 0 hrc216) ?_
 have hst := pk10 hst
 obtain ⟨r217, hq218, h⟩ := bs h
 refine cal (c_writer_put hq218 hst (RC.mono hl142 hrc1_) (Glob.mono hl142 hG)) ?_
 rintro _ _ ⟨m219, A222, c223, cs224, rfl, hl220, hst, hrc225⟩
 refine nl (we [] ?_)
 have hst := pk28 hst
 have e226 := hl142.trans hl220
 have h := Option.some.inj h; subst h
 exact ⟨_, rfl, m219, A222, c223, cs224, rfl, e226, hst, hrc225⟩

def R_writer_label (g : World) (m : Mem) (F : List Asr) (ob0 : Nat) (r : SWriter) (v : Value) (w' : World) : Prop := ∃ (m' : Mem) (A1 : Option Addr) (c1 : Nat) (cs1 : List Value), v = vt [] ∧ m.le m' ∧ St g m' (oo ob0 123 (cSWriter r (vs A1 r.out c1)) :: rw_ 5 1 A1 r.out c1 cs1 :: F) w' ∧ RC (TInt .u8) m' r.out cs1
theorem c_writer_label {k : Nat} {a0 : SWriter} {a1 : Str} {r : SWriter} {g : World} {m : Mem} {F : List Asr} {w : World} {ob0 : Nat} {A1_ : Option Addr} {c1_ : Nat} {cs1_ : List Value} (h : writer_label k a0 a1 = some r) (hst : St g m (oo ob0 123 (cSWriter a0 (vs A1_ a0.out c1_)) :: rw_ 5 1 A1_ a0.out c1_ cs1_ :: F) w) (hrc1_ : RC (TInt .u8) m a0.out cs1_) (hG : Glob m) :
    Calls Tryz.prog 143 ⟨[vp ob0 0, vstr a1]⟩ w (OPost (R_writer_label g m F ob0) r) := by
 refine calls_enter Tryz.func143 rfl rfl ?_
 unfold writer_label at h
 refine sq (qr (s0 1 [(4, vstr a1)] ?_))
 obtain ⟨r1, hq2, h⟩ := bs h
 refine cal (c_syntax_isWord hq2 hst) ?_
 rintro _ _ ⟨m3, rfl, hl4, hst⟩
 refine nl (tn (cn h (fun h => ?_) (fun h => ?_)))
 ·refine qr (s0 2 [(6, vp ob0 0), (7, vstr a1)] (li 9 1 [vstr a1] hst (fun b5 _ hst => ?_)))
  obtain ⟨m6, hl7, hst, hs8⟩ := hst.obj_slice (T := TStr) (xs := [a1]) (RC.k1 rfl (RC.nil _ _)) rfl
  have e9 := hl4.trans hl7
  obtain ⟨r10, hq11, h⟩ := bs h
  refine cal (c_writer_words hq11 hst (RC.mono e9 hrc1_) hs8 (Glob.mono e9 hG)) ?_
  rintro _ _ ⟨m12, A15, c16, cs17, rfl, hl13, hst, hrc18⟩
  refine nl (tn (wp_ret (tr (wr [] ?_))))
  have e19 := e9.trans hl13
  have h := Option.some.inj h; subst h
  exact ⟨_, rfl, m12, A15, c16, cs17, rfl, e19, hst, hrc18⟩
 refine wp_skip (tn (rg (s0 2 [(10, vp ob0 0), (11, vstr a1)] ?_)))
 obtain ⟨r20, hq21, h⟩ := bs h
 refine cal (c_writer_text hq21 hst (RC.mono hl4 hrc1_) (Glob.mono hl4 hG)) ?_
 rintro _ _ ⟨m22, A25, c26, cs27, rfl, hl23, hst, hrc28⟩
 refine nl (we [] ?_)
 have e29 := hl4.trans hl23
 have h := Option.some.inj h; subst h
 exact ⟨_, rfl, m22, A25, c26, cs27, rfl, e29, hst, hrc28⟩

def R_writer_path (g : World) (m : Mem) (F : List Asr) (ob0 : Nat) (r : SWriter) (v : Value) (w' : World) : Prop := ∃ (m' : Mem) (A1 : Option Addr) (c1 : Nat) (cs1 : List Value), v = vt [] ∧ m.le m' ∧ St g m' (oo ob0 123 (cSWriter r (vs A1 r.out c1)) :: rw_ 5 1 A1 r.out c1 cs1 :: F) w' ∧ RC (TInt .u8) m' r.out cs1
theorem c_writer_path {k : Nat} {a0 : SWriter} {a1 : Str} {a2 : Str} {r : SWriter} {g : World} {m : Mem} {F : List Asr} {w : World} {ob0 : Nat} {A1_ : Option Addr} {c1_ : Nat} {cs1_ : List Value} (h : writer_path k a0 a1 a2 = some r) (hst : St g m (oo ob0 123 (cSWriter a0 (vs A1_ a0.out c1_)) :: rw_ 5 1 A1_ a0.out c1_ cs1_ :: F) w) (hrc1_ : RC (TInt .u8) m a0.out cs1_) (hG : Glob m) :
    Calls Tryz.prog 144 ⟨[vp ob0 0, vstr a1, vstr a2]⟩ w (OPost (R_writer_path g m F ob0) r) := by
 refine calls_enter Tryz.func144 rfl rfl ?_
 unfold writer_path at h
 refine qr (s0 2 [(6, vp ob0 0), (7, vstr a1)] (li 9 1 [vstr a1] hst (fun b1 _ hst => ?_)))
 obtain ⟨m2, hl3, hst, hs4⟩ := hst.obj_slice (T := TStr) (xs := [a1]) (RC.k1 rfl (RC.nil _ _)) rfl
 obtain ⟨r5, hq6, h⟩ := bs h
 refine cal (c_writer_words hq6 hst (RC.mono hl3 hrc1_) hs4 (Glob.mono hl3 hG)) ?_
 rintro _ _ ⟨m7, A10, c11, cs12, rfl, hl8, hst, hrc13⟩
 refine nl (tn (qr (s0 1 [(10, vstr a1)] (vl (re a1 w_attr) (nl (tn (cn h (fun h => ?_) (fun h => ?_))))))))
 ·refine qr (s0 1 [(12, vp ob0 0)] ?_)
  have e18 := hl3.trans hl8
  obtain ⟨r14, hq15, h⟩ := bs h
  refine cal (c_writer_sign hq15 hst hrc13 (Glob.mono e18 hG)) ?_
  rintro _ _ ⟨m16, A20, c21, cs22, rfl, hl17, hst, hrc23⟩
  refine nl (tn (rg (s0 2 [(14, vp ob0 0), (15, vstr a2)] ?_)))
  have e28 := e18.trans hl17
  obtain ⟨r24, hq25, h⟩ := bs h
  refine cal (c_writer_label hq25 hst hrc23 (Glob.mono e28 hG)) ?_
  rintro _ _ ⟨m26, A30, c31, cs32, rfl, hl27, hst, hrc33⟩
  refine nl (we [] ?_)
  have e34 := e28.trans hl27
  have h := Option.some.inj h; subst h
  exact ⟨_, rfl, m26, A30, c31, cs32, rfl, e34, hst, hrc33⟩
 refine wp_skip (we [] ?_)
 have e35 := hl3.trans hl8
 have h := Option.some.inj h; subst h
 exact ⟨_, rfl, m7, A10, c11, cs12, rfl, e35, hst, hrc13⟩

def R_strconv_Itoa (g : World) (m : Mem) (F : List Asr) (r : Str) (v : Value) (w' : World) : Prop := ∃ (m' : Mem), v = vstr r ∧ m.le m' ∧ St g m' (F) w'
theorem c_strconv_Itoa {a0 : Int} {r : Str} {g : World} {m : Mem} {F : List Asr} {w : World} (h : strconv_Itoa a0 = some r) (hst : St g m (F) w) (hG : Glob m) :
    Calls Tryz.prog 167 ⟨[vi a0]⟩ w (OPost (R_strconv_Itoa g m F) r) := by
  unfold strconv_Itoa at h
  obtain ⟨hb, h⟩ := chk_some h
  simp only [Bool.and_eq_true, decide_eq_true_eq] at hb
  have h := Option.some.inj h; subst h
  refine (Tryz.strconv_Itoa a0 hb.1 hb.2 w (hG.p w hst.mem)).mono ?_
  rw [itoaK_eq hb.1 hb.2]
  rintro e w' ⟨rfl, k, os, rfl⟩
  exact ⟨_, rfl, m, rfl, Mem.le.refl m, hst.wider (fun b hb => by simp only [Sort.grow, World.drewN]; exact Array.getElem?_append_left hb) rfl rfl rfl⟩

def R_writer_number (g : World) (m : Mem) (F : List Asr) (ob0 : Nat) (r : SWriter) (v : Value) (w' : World) : Prop := ∃ (m' : Mem) (A1 : Option Addr) (c1 : Nat) (cs1 : List Value), v = vt [] ∧ m.le m' ∧ St g m' (oo ob0 123 (cSWriter r (vs A1 r.out c1)) :: rw_ 5 1 A1 r.out c1 cs1 :: F) w' ∧ RC (TInt .u8) m' r.out cs1
theorem c_writer_number {k : Nat} {a0 : SWriter} {a1 : Int} {r : SWriter} {g : World} {m : Mem} {F : List Asr} {w : World} {ob0 : Nat} {A1_ : Option Addr} {c1_ : Nat} {cs1_ : List Value} (h : writer_number k a0 a1 = some r) (hst : St g m (oo ob0 123 (cSWriter a0 (vs A1_ a0.out c1_)) :: rw_ 5 1 A1_ a0.out c1_ cs1_ :: F) w) (hrc1_ : RC (TInt .u8) m a0.out cs1_) (hG : Glob m) :
    Calls Tryz.prog 131 ⟨[vp ob0 0, vi a1]⟩ w (OPost (R_writer_number g m F ob0) r) := by
 refine calls_enter Tryz.func131 rfl rfl ?_
 unfold writer_number at h
 refine sq (qr (s0 2 [(4, vi a1), (5, vb (decide (a1 < 0)))] (nl (tn (cn h (fun h => ?_) (fun h => ?_))))))
 ·refine qr (s0 1 [(6, vp ob0 0)] ?_)
  obtain ⟨r1, hq2, h⟩ := bs h
  refine cal (c_writer_sign hq2 hst hrc1_ hG) ?_
  rintro _ _ ⟨m3, A6, c7, cs8, rfl, hl4, hst, hrc9⟩
  refine nl (tn (rg (s0 3 [(8, vi a1), (9, vi (w64 (0 - a1))), (1, vi (w64 (0 - a1)))] (nl (tn (rg (s0 3 [(10, vp ob0 0), (11, va [vi 2, vi 0, vstr w_0, vi 0]), (12, vi (w64 (0 - a1)))] ?_)))))))
  obtain ⟨r10, hq11, h⟩ := bs h
  refine cal (c_strconv_Itoa hq11 hst (Glob.mono hl4 hG)) ?_
  rintro _ _ ⟨m12, rfl, hl13, hst⟩
  have e18 := hl4.trans hl13
  obtain ⟨r14, hq15, h⟩ := bs h
  refine cal (c_writer_put hq15 hst (RC.mono hl13 hrc9) (Glob.mono e18 hG)) ?_
  rintro _ _ ⟨m16, A20, c21, cs22, rfl, hl17, hst, hrc23⟩
  refine nl (we [] ?_)
  have e24 := e18.trans hl17
  have h := Option.some.inj h; subst h
  exact ⟨_, rfl, m16, A20, c21, cs22, rfl, e24, hst, hrc23⟩
 refine wp_skip (tn (rg (s0 3 [(10, vp ob0 0), (11, va [vi 2, vi 0, vstr w_0, vi 0]), (12, vi a1)] ?_)))
 obtain ⟨r25, hq26, h⟩ := bs h
 refine cal (c_strconv_Itoa hq26 hst hG) ?_
 rintro _ _ ⟨m27, rfl, hl28, hst⟩
 obtain ⟨r29, hq30, h⟩ := bs h
 refine cal (c_writer_put hq30 hst (RC.mono hl28 hrc1_) (Glob.mono hl28 hG)) ?_
 rintro _ _ ⟨m31, A34, c35, cs36, rfl, hl32, hst, hrc37⟩
 refine nl (we [] ?_)
 have e38 := hl28.trans hl32
 have h := Option.some.inj h; subst h
 exact ⟨_, rfl, m31, A34, c35, cs36, rfl, e38, hst, hrc37⟩

def R_writer_value (g : World) (m : Mem) (F : List Asr) (ob0 : Nat) (r : SWriter) (v : Value) (w' : World) : Prop := ∃ (m' : Mem) (A1 : Option Addr) (c1 : Nat) (cs1 : List Value), v = vt [] ∧ m.le m' ∧ St g m' (oo ob0 123 (cSWriter r (vs A1 r.out c1)) :: rw_ 5 1 A1 r.out c1 cs1 :: F) w' ∧ RC (TInt .u8) m' r.out cs1
theorem c_writer_value {k : Nat} {a0 : SWriter} {a1 : GValue} {r : SWriter} {g : World} {m : Mem} {F : List Asr} {w : World} {ob0 : Nat} {A1_ : Option Addr} {c1_ : Nat} {cs1_ : List Value} (h : writer_value k a0 a1 = some r) (hst : St g m (oo ob0 123 (cSWriter a0 (vs A1_ a0.out c1_)) :: rw_ 5 1 A1_ a0.out c1_ cs1_ :: F) w) (hrc1_ : RC (TInt .u8) m a0.out cs1_) (hG : Glob m) :
    Calls Tryz.prog 145 ⟨[vp ob0 0, va (cGValue a1)]⟩ w (OPost (R_writer_value g m F ob0) r) := by
 refine calls_enter Tryz.func145 rfl rfl ?_
 unfold writer_value at h
 refine qr (bo_ (cGValue a1) hst (fun b1 _ hst => ?_))
 refine nl (tn (qr (sg 2 [(4, vp b1 0), (5, vi a1.Kind)] [(ad b1 0, vi a1.Kind)] ⟨hst.c 0, trivial⟩ (nl (tn (bk (qr (s0 2 [(14, vb (a1.Kind == 1)), (13, vb (a1.Kind == 1))] (nl (tn (cn h (fun h => ?_) (fun h => ?_))))))))))))
 ·refine rg (sg 3 [(15, vp ob0 0), (16, vp b1 1), (17, vstr a1.Text)] [(ad b1 1, vstr a1.Text)] ⟨hst.c 0, trivial⟩ ?_)
  have hst := pk10 hst
  obtain ⟨r2, hq3, h⟩ := bs h
  refine cal (c_writer_text hq3 hst hrc1_ hG) ?_
  rintro _ _ ⟨m4, A7, c8, cs9, rfl, hl5, hst, hrc10⟩
  refine nl (bn (we [] ?_))
  have hst := pk28 hst
  have h := Option.some.inj h; subst h
  exact ⟨_, rfl, m4, A7, c8, cs9, rfl, hl5, hst, hrc10⟩
 refine qr (s0 2 [(20, vb (a1.Kind == 2)), (19, vb (a1.Kind == 2))] (nl (tn (cn h (fun h => ?_) (fun h => ?_)))))
 ·refine rg (sg 3 [(21, vp ob0 0), (22, vp b1 2), (23, vi a1.Int)] [(ad b1 2, vi a1.Int)] ⟨hst.c 0, trivial⟩ ?_)
  have hst := pk10 hst
  obtain ⟨r11, hq12, h⟩ := bs h
  refine cal (c_writer_number hq12 hst hrc1_ hG) ?_
  rintro _ _ ⟨m13, A16, c17, cs18, rfl, hl14, hst, hrc19⟩
  refine nl (bn (we [] ?_))
  have hst := pk28 hst
  have h := Option.some.inj h; subst h
  exact ⟨_, rfl, m13, A16, c17, cs18, rfl, hl14, hst, hrc19⟩
 refine rg (sg 4 [(6, vp ob0 0), (7, va [vstr w_false, vstr w_true]), (8, vp b1 2), (9, vi a1.Int)] [(ad b1 2, vi a1.Int)] ⟨hst.c 0, trivial⟩ ?_)
 obtain ⟨c21, hc22, h⟩ := ix h
 refine vl (ras 9 .i64 ([w_false, w_true] : List Str) hc22.1 hc22.2) (li 9 1 [vstr c21] hst (fun b23 _ hst => ?_))
 obtain ⟨m24, hl25, hst, hs26⟩ := hst.obj_slice (T := TStr) (xs := [c21]) (RC.k1 rfl (RC.nil _ _)) rfl
 have hst := pk10 hst
 obtain ⟨r27, hq28, h⟩ := bs h
 refine cal (c_writer_words hq28 hst (RC.mono hl25 hrc1_) hs26 (Glob.mono hl25 hG)) ?_
 rintro _ _ ⟨m29, A32, c33, cs34, rfl, hl30, hst, hrc35⟩
 refine nl (bn (we [] ?_))
 have hst := pk28 hst
 have e36 := hl25.trans hl30
 have h := Option.some.inj h; subst h
 exact ⟨_, rfl, m29, A32, c33, cs34, rfl, e36, hst, hrc35⟩

def R_writer_pred (g : World) (m : Mem) (F : List Asr) (ob0 : Nat) (r : SWriter) (v : Value) (w' : World) : Prop := ∃ (m' : Mem) (A1 : Option Addr) (c1 : Nat) (cs1 : List Value), v = vt [] ∧ m.le m' ∧ St g m' (oo ob0 123 (cSWriter r (vs A1 r.out c1)) :: rw_ 5 1 A1 r.out c1 cs1 :: F) w' ∧ RC (TInt .u8) m' r.out cs1
def R_writer_argument (g : World) (m : Mem) (F : List Asr) (ob0 : Nat) (r : SWriter) (v : Value) (w' : World) : Prop := ∃ (m' : Mem) (A1 : Option Addr) (c1 : Nat) (cs1 : List Value), v = vt [] ∧ m.le m' ∧ St g m' (oo ob0 123 (cSWriter r (vs A1 r.out c1)) :: rw_ 5 1 A1 r.out c1 cs1 :: F) w' ∧ RC (TInt .u8) m' r.out cs1
structure I_writer_pred (k : Nat) : Prop where
  c_writer_pred : ∀ {a0 : SWriter} {a1 : GPred} {r : SWriter} {g : World} {m : Mem} {F : List Asr} {w : World} {ob0 : Nat} {A1_ : Option Addr} {c1_ : Nat} {cs1_ : List Value} {u2 : Value} (h : writer_pred k a0 a1 = some r) (hst : St g m (oo ob0 123 (cSWriter a0 (vs A1_ a0.out c1_)) :: rw_ 5 1 A1_ a0.out c1_ cs1_ :: F) w) (hrc1_ : RC (TInt .u8) m a0.out cs1_) (hu2 : RS (TGPred) m u2 a1.Args) (hG : Glob m),
    Calls Tryz.prog 70 ⟨[vp ob0 0, va (cGPred a1 u2)]⟩ w (OPost (R_writer_pred g m F ob0) r)
  c_writer_argument : ∀ {a0 : SWriter} {a1 : GPred} {r : SWriter} {g : World} {m : Mem} {F : List Asr} {w : World} {ob0 : Nat} {A1_ : Option Addr} {c1_ : Nat} {cs1_ : List Value} {u2 : Value} (h : writer_argument k a0 a1 = some r) (hst : St g m (oo ob0 123 (cSWriter a0 (vs A1_ a0.out c1_)) :: rw_ 5 1 A1_ a0.out c1_ cs1_ :: F) w) (hrc1_ : RC (TInt .u8) m a0.out cs1_) (hu2 : RS (TGPred) m u2 a1.Args) (hG : Glob m),
    Calls Tryz.prog 142 ⟨[vp ob0 0, va (cGPred a1 u2)]⟩ w (OPost (R_writer_argument g m F ob0) r)
theorem s_writer_pred {k : Nat} (ih : ∀ j, j < k → I_writer_pred j) {a0 : SWriter} {a1 : GPred} {r : SWriter} {g : World} {m : Mem} {F : List Asr} {w : World} {ob0 : Nat} {A1_ : Option Addr} {c1_ : Nat} {cs1_ : List Value} {u2 : Value} (h : writer_pred k a0 a1 = some r) (hst : St g m (oo ob0 123 (cSWriter a0 (vs A1_ a0.out c1_)) :: rw_ 5 1 A1_ a0.out c1_ cs1_ :: F) w) (hrc1_ : RC (TInt .u8) m a0.out cs1_) (hu2 : RS (TGPred) m u2 a1.Args) (hG : Glob m) :
    Calls Tryz.prog 70 ⟨[vp ob0 0, va (cGPred a1 u2)]⟩ w (OPost (R_writer_pred g m F ob0) r) := by
 refine calls_enter Tryz.func70 rfl rfl ?_
 obtain _ | k1 := k
 ·simp [writer_pred] at h
 rw [writer_pred] at h
 obtain ⟨A1, c2, rfl⟩ := hu2.shape
 refine qr (bo_ (cGPred a1 (vs A1 a1.Args c2)) hst (fun b3 _ hst => ?_))
 refine nl (tn (qr (sg 2 [(6, vp b3 0), (7, vi a1.Op)] [(ad b3 0, vi a1.Op)] ⟨hst.c 0, trivial⟩ (nl (tn (bk (qr (s0 2 [(32, vb (a1.Op == 0)), (31, vb (a1.Op == 0))] (nl (tn (cn h (fun h => ?_) (fun h => ?_))))))))))))
 ·refine rg (s0 1 [(33, vp ob0 0)] (li 9 1 [vstr w_true] hst (fun b4 _ hst => ?_)))
  obtain ⟨m5, hl6, hst, hs7⟩ := hst.obj_slice (T := TStr) (xs := [w_true]) (RC.k1 rfl (RC.nil _ _)) rfl
  have hst := pk10 hst
  obtain ⟨r8, hq9, h⟩ := bs h
  refine cal (c_writer_words hq9 hst (RC.mono hl6 hrc1_) hs7 (Glob.mono hl6 hG)) ?_
  rintro _ _ ⟨m10, A13, c14, cs15, rfl, hl11, hst, hrc16⟩
  refine nl (bn (we [] ?_))
  have hst := pk28 hst
  have e17 := hl6.trans hl11
  have h := Option.some.inj h; subst h
  exact ⟨_, rfl, m10, A13, c14, cs15, rfl, e17, hst, hrc16⟩
 refine wc_join (fun a w => ∃ (f0 : Fr) (k20 : Nat) (m22 : Mem) (x18 : Bool), a = act Tryz.f70.ntmps (upds f0 [(0, vp ob0 0), (3, vp b3 0), (7, vi a1.Op), (36, vb x18)]) ∧ k20 ≤ k1 ∧ writer_pred_j1 k20 a0 a1 x18 = some r ∧ m.le m22 ∧ St g m22 (oo b3 44 (cGPred a1 (vs A1 a1.Args c2)) :: oo ob0 123 (cSWriter a0 (vs A1_ a0.out c1_)) :: rw_ 5 1 A1_ a0.out c1_ cs1_ :: F) w) ?_ ?_
 ·rintro _ _ ⟨f0, k20, m22, x18, rfl, hk21, h, hl19, hst⟩
  obtain _ | k23 := k20
  ·simp [writer_pred_j1] at h
  rw [writer_pred_j1] at h
  refine cn h (fun h => ?_) (fun h => ?_)
  ·refine qr (sg 4 [(39, vp b3 6), (40, vs A1 a1.Args c2), (41, vi ((a1.Args).length : Int)), (42, vi 0)] [(ad b3 6, vs A1 a1.Args c2)] ⟨hst.c 0, trivial⟩ (nl (tn (bk (wc_loop (fun kk a w => ∃ (f0 : Fr) (m162 : Mem) (x86 : List Int) (A87 : Option Addr) (c88 : Nat) (cs89 : List Value) (x91 : Int) (x92 : Int) (x93 : Str) (x94 : Int) (x95 : Int), a = act Tryz.f70.ntmps (upds f0 [(0, vp ob0 0), (3, vp b3 0), (40, vs A1 a1.Args c2), (41, vi ((a1.Args).length : Int)), (42, vi x95)]) ∧ kk ≤ k23 ∧ writer_pred_l2 kk a1 x86 x91 x92 x93 x94 x95 = some r ∧ m22.le m162 ∧ St g m162 (oo b3 44 (cGPred a1 (vs A1 a1.Args c2)) :: oo ob0 123 [vs A87 x86 c88, vi x91, vi x92, vstr x93, vi x94] :: rw_ 5 1 A87 x86 c88 cs89 :: F) w ∧ RC (TInt .u8) m162 x86 cs89) k23 ?_ ?_)))))
   ·exact ⟨_, m22, (a0.out), A1_, c1_, cs1_, (a0.last.kind), (a0.last.at_), (a0.last.s_), (a0.last.n_), (0), (act_upds ⟨by kernel_rfl, by kernel_rfl, by kernel_rfl, by kernel_rfl, by kernel_rfl, trivial⟩), (Nat.le_refl _), h, (Mem.le.refl _), hst, (RC.mono hl19 hrc1_)⟩
   rintro k160 ih161 _ _ ⟨f0, m162, x86, A87, c88, cs89, x91, x92, x93, x94, x95, rfl, hk159, h, hl158, hst, hrc90⟩
   obtain _ | k164 := k160
   ·simp [writer_pred_l2] at h
   rw [writer_pred_l2] at h
   refine qr (s0 1 [(43, vb (decide (x95 < ((a1.Args).length : Int))))] (nl (tn (sq (cn h (fun h => ?_) (fun h => ?_))))))
   ·refine wp_skip (tn (sq (bk (qr (s0 1 [(44, vi x95)] ?_)))))
    obtain ⟨x166, hx167, h⟩ := ix h
    have e174 := hl19.trans hl158
    obtain ⟨b168, o169, cs170, hR171, hA172, hI173⟩ := RS.ix (P := Tryz.prog) (RS.mono e174 hu2) hx167
    obtain ⟨v175, rfl, hv175⟩ := TGPred.open_ hR171
    obtain ⟨A176, c177, rfl⟩ := hv175.shape
    refine vl (hI173.r .i64) (sg 1 [(46, va (cGPred x166 (vs A176 x166.Args c177)))] [(ad b168 o169, vi x166.Op), (ad b168 (o169 + 1), vstr x166.Field), (ad b168 (o169 + 2), vstr x166.Key), (ad b168 (o169 + 3), vi x166.Value.Kind), (ad b168 (o169 + 4), vstr x166.Value.Text), (ad b168 (o169 + 5), vi x166.Value.Int), (ad b168 (o169 + 6), vs A176 x166.Args c177)] ⟨hst.e hA172 0, hst.e hA172 1, hst.e hA172 2, hst.e hA172 3, hst.e hA172 4, hst.e hA172 5, hst.e hA172 6, trivial⟩ (al [vi 0, vstr w_0, vstr w_0, vi 0, vstr w_0, vi 0, vn] hst (fun b178 _ hst => ?_)))
    have hrc180 := RC.nil (TGPred) m162
    have hst := hst.nil_row 44 7
    refine s0 1 [(4, vi x95)] (so1 0 (cGPred x166 (vs A176 x166.Args c177)) (cGPred x166 (vs A176 x166.Args c177)) hst (fun _ hst => ?_))
    refine nl (tn (sq (qr (s0 2 [(47, vi x95), (48, vb (decide (x95 > 0)))] (nl (tn (cn h (fun h => ?_) (fun h => ?_))))))))
    ·refine rg (sg 4 [(49, vp ob0 0), (50, va [vstr w_0, vstr w_and, vstr w_or]), (51, vp b3 0), (52, vi a1.Op)] [(ad b3 0, vi a1.Op)] ⟨hst.c 2, trivial⟩ ?_)
     obtain ⟨c182, hc183, h⟩ := ix h
     refine vl (ras 9 .i64 ([w_0, w_and, w_or] : List Str) hc183.1 hc183.2) (li 9 1 [vstr c182] hst (fun b184 _ hst => ?_))
     obtain ⟨m185, hl186, hst, hs187⟩ := hst.obj_slice (T := TStr) (xs := [c182]) (RC.k1 rfl (RC.nil _ _)) rfl
     have hst := pk29 hst
     have e192 := e174.trans hl186
     obtain ⟨r188, hq189, h⟩ := bs h
     refine cal (c_writer_words hq189 hst (RC.mono hl186 hrc90) hs187 (Glob.mono e192 hG)) ?_
     rintro _ _ ⟨m190, A194, c195, cs196, rfl, hl191, hst, hrc197⟩
     refine nl (tn (rg (sg 2 [(56, vp ob0 0), (57, va (cGPred x166 (vs A176 x166.Args c177)))] [(ad b178 0, vi x166.Op), (ad b178 1, vstr x166.Field), (ad b178 2, vstr x166.Key), (ad b178 3, vi x166.Value.Kind), (ad b178 4, vstr x166.Value.Text), (ad b178 5, vi x166.Value.Int), (ad b178 6, vs A176 x166.Args c177)] ⟨hst.c 3, hst.c 3, hst.c 3, hst.c 3, hst.c 3, hst.c 3, hst.c 3, trivial⟩ ?_)))
     have e198 := hl186.trans hl191
     have e203 := e192.trans hl191
     obtain ⟨r199, hq200, h⟩ := bs h
     refine cal ((ih k164 (by omega)).c_writer_argument hq200 hst hrc197 (RS.mono e198 hv175) (Glob.mono e203 hG)) ?_
     rintro _ _ ⟨m201, A205, c206, cs207, rfl, hl202, hst, hrc208⟩
     refine nl (bn (tn (rg (s0 2 [(59, vi (w64 (x95 + 1))), (42, vi (w64 (x95 + 1)))] (nl (tn ?_))))))
     have e209 := hl158.trans (hl186.trans (hl191.trans hl202))
     have hst := pk30 hst
     exact ih161 k164 (by omega) _ _ ⟨_, m201, (r199.out), A205, c206, cs207, (r199.last.kind), (r199.last.at_), (r199.last.s_), (r199.last.n_), (w64 (x95 + 1)), (act_upds ⟨by kernel_rfl, by kernel_rfl, by kernel_rfl, by kernel_rfl, by kernel_rfl, trivial⟩), (by omega), h, e209, hst, hrc208⟩
    refine wp_skip (tn (rg (sg 2 [(56, vp ob0 0), (57, va (cGPred x166 (vs A176 x166.Args c177)))] [(ad b178 0, vi x166.Op), (ad b178 1, vstr x166.Field), (ad b178 2, vstr x166.Key), (ad b178 3, vi x166.Value.Kind), (ad b178 4, vstr x166.Value.Text), (ad b178 5, vi x166.Value.Int), (ad b178 6, vs A176 x166.Args c177)] ⟨hst.c 1, hst.c 1, hst.c 1, hst.c 1, hst.c 1, hst.c 1, hst.c 1, trivial⟩ ?_)))
    have hst := pk29 hst
    obtain ⟨r210, hq211, h⟩ := bs h
    refine cal ((ih k164 (by omega)).c_writer_argument hq211 hst hrc90 hv175 (Glob.mono e174 hG)) ?_
    rintro _ _ ⟨m212, A215, c216, cs217, rfl, hl213, hst, hrc218⟩
    refine nl (bn (tn (rg (s0 2 [(59, vi (w64 (x95 + 1))), (42, vi (w64 (x95 + 1)))] (nl (tn ?_))))))
    have e219 := hl158.trans hl213
    have hst := pk30 hst
    exact ih161 k164 (by omega) _ _ ⟨_, m212, (r210.out), A215, c216, cs217, (r210.last.kind), (r210.last.at_), (r210.last.s_), (r210.last.n_), (w64 (x95 + 1)), (act_upds ⟨by kernel_rfl, by kernel_rfl, by kernel_rfl, by kernel_rfl, by kernel_rfl, trivial⟩), (by omega), h, e219, hst, hrc218⟩
   refine wp_exit (tx (tx (bx (bn (we [] ?_)))))
   have hst := pk0 hst
   have e220 := hl19.trans hl158
   cases h
   exact ⟨_, rfl, m162, A87, c88, cs89, rfl, e220, hst, hrc90⟩
  refine qr (s0 2 [(61, vb (a1.Op == 3)), (60, vb (a1.Op == 3))] (nl (tn (cn h (fun h => ?_) (fun h => ?_)))))
  ·refine qr (s0 1 [(62, vp ob0 0)] (li 9 1 [vstr w_not] hst (fun b221 _ hst => ?_)))
   obtain ⟨m222, hl223, hst, hs224⟩ := hst.obj_slice (T := TStr) (xs := [w_not]) (RC.k1 rfl (RC.nil _ _)) rfl
   have e225 := hl19.trans hl223
   have hst := pk10 hst
   obtain ⟨r226, hq227, h⟩ := bs h
   refine cal (c_writer_words hq227 hst (RC.mono e225 hrc1_) hs224 (Glob.mono e225 hG)) ?_
   rintro _ _ ⟨m228, A231, c232, cs233, rfl, hl229, hst, hrc234⟩
   refine nl (tn (rg (sg 3 [(65, vp ob0 0), (66, vp b3 6), (67, vs A1 a1.Args c2)] [(ad b3 6, vs A1 a1.Args c2)] ⟨hst.c 2, trivial⟩ ?_)))
   obtain ⟨x236, hx237, h⟩ := ix h
   have e244 := e225.trans hl229
   obtain ⟨b238, o239, cs240, hR241, hA242, hI243⟩ := RS.ix (P := Tryz.prog) (RS.mono e244 hu2) hx237
   obtain ⟨v245, rfl, hv245⟩ := TGPred.open_ hR241
   obtain ⟨A246, c247, rfl⟩ := hv245.shape
   refine vl (hI243.r .i64) (sg 1 [(69, va (cGPred x236 (vs A246 x236.Args c247)))] [(ad b238 o239, vi x236.Op), (ad b238 (o239 + 1), vstr x236.Field), (ad b238 (o239 + 2), vstr x236.Key), (ad b238 (o239 + 3), vi x236.Value.Kind), (ad b238 (o239 + 4), vstr x236.Value.Text), (ad b238 (o239 + 5), vi x236.Value.Int), (ad b238 (o239 + 6), vs A246 x236.Args c247)] ⟨hst.e hA242 0, hst.e hA242 1, hst.e hA242 2, hst.e hA242 3, hst.e hA242 4, hst.e hA242 5, hst.e hA242 6, trivial⟩ ?_)
   obtain ⟨r248, hq249, h⟩ := bs h
   refine cal ((ih k23 (by omega)).c_writer_argument hq249 hst hrc234 hv245 (Glob.mono e244 hG)) ?_
   rintro _ _ ⟨m250, A253, c254, cs255, rfl, hl251, hst, hrc256⟩
   refine nl (bn (we [] ?_))
   have hst := pk28 hst
   have e257 := e244.trans hl251
   have h := Option.some.inj h; subst h
   exact ⟨_, rfl, m250, A253, c254, cs255, rfl, e257, hst, hrc256⟩
  refine qr (s0 2 [(72, vb (a1.Op == 4)), (71, vb (a1.Op == 4))] (nl (tn (cn h (fun h => ?_) (fun h => ?_)))))
  ·refine qr (s0 1 [(73, vp ob0 0)] (li 9 1 [vstr w_has] hst (fun b258 _ hst => ?_)))
   obtain ⟨m259, hl260, hst, hs261⟩ := hst.obj_slice (T := TStr) (xs := [w_has]) (RC.k1 rfl (RC.nil _ _)) rfl
   have e262 := hl19.trans hl260
   have hst := pk10 hst
   obtain ⟨r263, hq264, h⟩ := bs h
   refine cal (c_writer_words hq264 hst (RC.mono e262 hrc1_) hs261 (Glob.mono e262 hG)) ?_
   rintro _ _ ⟨m265, A268, c269, cs270, rfl, hl266, hst, hrc271⟩
   refine nl (tn (rg (sg 3 [(76, vp ob0 0), (77, vp b3 2), (78, vstr a1.Key)] [(ad b3 2, vstr a1.Key)] ⟨hst.c 2, trivial⟩ ?_)))
   have e276 := e262.trans hl266
   obtain ⟨r272, hq273, h⟩ := bs h
   refine cal (c_writer_label hq273 hst hrc271 (Glob.mono e276 hG)) ?_
   rintro _ _ ⟨m274, A278, c279, cs280, rfl, hl275, hst, hrc281⟩
   refine nl (bn (we [] ?_))
   have hst := pk28 hst
   have e282 := e276.trans hl275
   have h := Option.some.inj h; subst h
   exact ⟨_, rfl, m274, A278, c279, cs280, rfl, e282, hst, hrc281⟩
  refine qr (sg 5 [(8, vp ob0 0), (9, vp b3 1), (10, vstr a1.Field), (11, vp b3 2), (12, vstr a1.Key)] [(ad b3 1, vstr a1.Field), (ad b3 2, vstr a1.Key)] ⟨hst.c 0, hst.c 0, trivial⟩ ?_)
  have hst := pk10 hst
  obtain ⟨r283, hq284, h⟩ := bs h
  refine cal (c_writer_path hq284 hst (RC.mono hl19 hrc1_) (Glob.mono hl19 hG)) ?_
  rintro _ _ ⟨m285, A288, c289, cs290, rfl, hl286, hst, hrc291⟩
  refine nl (tn (sq (qr (sg 2 [(14, vp b3 0), (15, vi a1.Op)] [(ad b3 0, vi a1.Op)] ⟨hst.c 2, trivial⟩ (nl (tn (bk (qr (s0 2 [(20, vb (a1.Op == 5)), (19, vb (a1.Op == 5))] (nl (tn (cn h (fun h => ?_) (fun h => ?_)))))))))))))
  ·refine rg (s0 1 [(21, vp ob0 0)] ?_)
   have e296 := hl19.trans hl286
   obtain ⟨r292, hq293, h⟩ := bs h
   refine cal (c_writer_sign hq293 hst hrc291 (Glob.mono e296 hG)) ?_
   rintro _ _ ⟨m294, A298, c299, cs300, rfl, hl295, hst, hrc301⟩
   refine nl (bn (tn (rg (sg 3 [(27, vp ob0 0), (28, vp b3 3), (29, va (cGValue a1.Value))] [(ad b3 3, vi a1.Value.Kind), (ad b3 4, vstr a1.Value.Text), (ad b3 5, vi a1.Value.Int)] ⟨hst.c 2, hst.c 2, hst.c 2, trivial⟩ ?_))))
   have e306 := e296.trans hl295
   obtain ⟨r302, hq303, h⟩ := bs h
   refine cal (c_writer_value hq303 hst hrc301 (Glob.mono e306 hG)) ?_
   rintro _ _ ⟨m304, A308, c309, cs310, rfl, hl305, hst, hrc311⟩
   refine nl (bn (we [] ?_))
   have hst := pk28 hst
   have e312 := e306.trans hl305
   have h := Option.some.inj h; subst h
   exact ⟨_, rfl, m304, A308, c309, cs310, rfl, e312, hst, hrc311⟩
  refine qr (s0 2 [(24, vb (a1.Op == 6)), (23, vb (a1.Op == 6))] (nl (tn (cn h (fun h => ?_) (fun h => ?_)))))
  ·refine rg (s0 1 [(25, vp ob0 0)] ?_)
   have e317 := hl19.trans hl286
   obtain ⟨r313, hq314, h⟩ := bs h
   refine cal (c_writer_sign hq314 hst hrc291 (Glob.mono e317 hG)) ?_
   rintro _ _ ⟨m315, A319, c320, cs321, rfl, hl316, hst, hrc322⟩
   refine nl (bn (tn (rg (sg 3 [(27, vp ob0 0), (28, vp b3 3), (29, va (cGValue a1.Value))] [(ad b3 3, vi a1.Value.Kind), (ad b3 4, vstr a1.Value.Text), (ad b3 5, vi a1.Value.Int)] ⟨hst.c 2, hst.c 2, hst.c 2, trivial⟩ ?_))))
   have e327 := e317.trans hl316
   obtain ⟨r323, hq324, h⟩ := bs h
   refine cal (c_writer_value hq324 hst hrc322 (Glob.mono e327 hG)) ?_
   rintro _ _ ⟨m325, A329, c330, cs331, rfl, hl326, hst, hrc332⟩
   refine nl (bn (we [] ?_))
   have hst := pk28 hst
   have e333 := e327.trans hl326
   have h := Option.some.inj h; subst h
   exact ⟨_, rfl, m325, A329, c330, cs331, rfl, e333, hst, hrc332⟩
  refine rg (s0 1 [(16, vp ob0 0)] (li 9 1 [vstr w_prefix] hst (fun b334 _ hst => ?_)))
  obtain ⟨m335, hl336, hst, hs337⟩ := hst.obj_slice (T := TStr) (xs := [w_prefix]) (RC.k1 rfl (RC.nil _ _)) rfl
  have e342 := hl19.trans (hl286.trans hl336)
  obtain ⟨r338, hq339, h⟩ := bs h
  refine cal (c_writer_words hq339 hst (RC.mono hl336 hrc291) hs337 (Glob.mono e342 hG)) ?_
  rintro _ _ ⟨m340, A344, c345, cs346, rfl, hl341, hst, hrc347⟩
  refine nl (bn (tn (rg (sg 3 [(27, vp ob0 0), (28, vp b3 3), (29, va (cGValue a1.Value))] [(ad b3 3, vi a1.Value.Kind), (ad b3 4, vstr a1.Value.Text), (ad b3 5, vi a1.Value.Int)] ⟨hst.c 2, hst.c 2, hst.c 2, trivial⟩ ?_))))
  have e352 := e342.trans hl341
  obtain ⟨r348, hq349, h⟩ := bs h
  refine cal (c_writer_value hq349 hst hrc347 (Glob.mono e352 hG)) ?_
  rintro _ _ ⟨m350, A354, c355, cs356, rfl, hl351, hst, hrc357⟩
  refine nl (bn (we [] ?_))
  have hst := pk28 hst
  have e358 := e352.trans hl351
  have h := Option.some.inj h; subst h
  exact ⟨_, rfl, m350, A354, c355, cs356, rfl, e358, hst, hrc357⟩
 refine qr (s0 2 [(37, vb (a1.Op == 1)), (36, vb (a1.Op == 1))] (nl (tn (cn h (fun h => ?_) (fun h => ?_)))))
 ·refine wp_skip (tn ?_)
  exact ⟨_, k1, m, ((a1.Op == 1)), (act_upds ⟨by kernel_rfl, by kernel_rfl, by kernel_rfl, by kernel_rfl, trivial⟩), (by omega), h, (Mem.le.refl _), hst⟩
 refine rg (s0 2 [(38, vb (a1.Op == 2)), (36, vb (a1.Op == 2))] (nl (tn ?_)))
 exact ⟨_, k1, m, ((a1.Op == 2)), (act_upds ⟨by kernel_rfl, by kernel_rfl, by kernel_rfl, by kernel_rfl, trivial⟩), (by omega), h, (Mem.le.refl _), hst⟩
theorem s_writer_argument {k : Nat} (ih : ∀ j, j < k → I_writer_pred j) {a0 : SWriter} {a1 : GPred} {r : SWriter} {g : World} {m : Mem} {F : List Asr} {w : World} {ob0 : Nat} {A1_ : Option Addr} {c1_ : Nat} {cs1_ : List Value} {u2 : Value} (h : writer_argument k a0 a1 = some r) (hst : St g m (oo ob0 123 (cSWriter a0 (vs A1_ a0.out c1_)) :: rw_ 5 1 A1_ a0.out c1_ cs1_ :: F) w) (hrc1_ : RC (TInt .u8) m a0.out cs1_) (hu2 : RS (TGPred) m u2 a1.Args) (hG : Glob m) :
    Calls Tryz.prog 142 ⟨[vp ob0 0, va (cGPred a1 u2)]⟩ w (OPost (R_writer_argument g m F ob0) r) := by
 refine calls_enter Tryz.func142 rfl rfl ?_
 obtain _ | k1 := k
 ·simp [writer_argument] at h
 rw [writer_argument] at h
 obtain ⟨A1, c2, rfl⟩ := hu2.shape
 refine qr (bo_ (cGPred a1 (vs A1 a1.Args c2)) hst (fun b3 _ hst => ?_))
 refine nl (tn (sq (wc_join (fun a w => ∃ (f0 : Fr) (k7 : Nat) (m9 : Mem) (x5 : Bool), a = act Tryz.f142.ntmps (upds f0 [(0, vp ob0 0), (3, vp b3 0), (11, vb x5)]) ∧ k7 ≤ k1 ∧ writer_argument_j1 k7 a0 a1 x5 = some r ∧ m.le m9 ∧ St g m9 (oo b3 44 (cGPred a1 (vs A1 a1.Args c2)) :: oo ob0 123 (cSWriter a0 (vs A1_ a0.out c1_)) :: rw_ 5 1 A1_ a0.out c1_ cs1_ :: F) w) ?_ ?_)))
 ·rintro _ _ ⟨f0, k7, m9, x5, rfl, hk8, h, hl6, hst⟩
  obtain _ | k10 := k7
  ·simp [writer_argument_j1] at h
  rw [writer_argument_j1] at h
  refine cn h (fun h => ?_) (fun h => ?_)
  ·refine qr (sg 2 [(12, vp ob0 0), (13, va (cGPred a1 (vs A1 a1.Args c2)))] [(ad b3 0, vi a1.Op), (ad b3 1, vstr a1.Field), (ad b3 2, vstr a1.Key), (ad b3 3, vi a1.Value.Kind), (ad b3 4, vstr a1.Value.Text), (ad b3 5, vi a1.Value.Int), (ad b3 6, vs A1 a1.Args c2)] ⟨hst.c 0, hst.c 0, hst.c 0, hst.c 0, hst.c 0, hst.c 0, hst.c 0, trivial⟩ ?_)
   have hst := pk10 hst
   obtain ⟨r11, hq12, h⟩ := bs h
   refine cal ((ih k10 (by omega)).c_writer_pred hq12 hst (RC.mono hl6 hrc1_) (RS.mono hl6 hu2) (Glob.mono hl6 hG)) ?_
   rintro _ _ ⟨m13, A16, c17, cs18, rfl, hl14, hst, hrc19⟩
   refine nl (tn (wp_ret (tr (wr [] ?_))))
   have hst := pk28 hst
   have e20 := hl6.trans hl14
   have h := Option.some.inj h; subst h
   exact ⟨_, rfl, m13, A16, c17, cs18, rfl, e20, hst, hrc19⟩
  refine wp_skip (tn (qr (s0 1 [(15, vp ob0 0)] ?_)))
  have hst := pk10 hst
  obtain ⟨r21, hq22, h⟩ := bs h
  refine cal (c_writer_sign hq22 hst (RC.mono hl6 hrc1_) (Glob.mono hl6 hG)) ?_
  rintro _ _ ⟨m23, A26, c27, cs28, rfl, hl24, hst, hrc29⟩
  refine nl (tn (qr (sg 2 [(17, vp ob0 0), (18, va (cGPred a1 (vs A1 a1.Args c2)))] [(ad b3 0, vi a1.Op), (ad b3 1, vstr a1.Field), (ad b3 2, vstr a1.Key), (ad b3 3, vi a1.Value.Kind), (ad b3 4, vstr a1.Value.Text), (ad b3 5, vi a1.Value.Int), (ad b3 6, vs A1 a1.Args c2)] ⟨hst.c 2, hst.c 2, hst.c 2, hst.c 2, hst.c 2, hst.c 2, hst.c 2, trivial⟩ ?_)))
  have e30 := hl6.trans hl24
  obtain ⟨r31, hq32, h⟩ := bs h
  refine cal ((ih k10 (by omega)).c_writer_pred hq32 hst hrc29 (RS.mono e30 hu2) (Glob.mono e30 hG)) ?_
  rintro _ _ ⟨m33, A36, c37, cs38, rfl, hl34, hst, hrc39⟩
  refine nl (tn (rg (s0 1 [(20, vp ob0 0)] ?_)))
  have e44 := e30.trans hl34
  obtain ⟨r40, hq41, h⟩ := bs h
  refine cal (c_writer_sign hq41 hst hrc39 (Glob.mono e44 hG)) ?_
  rintro _ _ ⟨m42, A46, c47, cs48, rfl, hl43, hst, hrc49⟩
  refine nl (we [] ?_)
  have hst := pk28 hst
  have e50 := e44.trans hl43
  have h := Option.some.inj h; subst h
  exact ⟨_, rfl, m42, A46, c47, cs48, rfl, e50, hst, hrc49⟩
 refine rg (sg 4 [(4, vp b3 0), (5, vi a1.Op), (6, vb (a1.Op != 1)), (7, vb (a1.Op != 1))] [(ad b3 0, vi a1.Op)] ⟨hst.c 0, trivial⟩ ?_)
 rcases sp h with ⟨hc51, h⟩ | ⟨hc51, h⟩
 ·rw [hc51]
  refine sg 4 [(8, vp b3 0), (9, vi a1.Op), (10, vb (a1.Op != 2)), (11, vb (a1.Op != 2))] [(ad b3 0, vi a1.Op)] ⟨hst.c 0, trivial⟩ (nl (tn ?_))
  exact ⟨_, k1, m, ((a1.Op != 2)), (act_upds ⟨by kernel_rfl, by kernel_rfl, by kernel_rfl, trivial⟩), (by omega), h, (Mem.le.refl _), hst⟩
 rw [hc51]
 refine s0 4 [(8, undef), (9, undef), (10, undef), (11, vb false)] (nl (tn ?_))
 exact ⟨_, k1, m, (false), (act_upds ⟨by kernel_rfl, by kernel_rfl, by kernel_rfl, trivial⟩), (by omega), h, (Mem.le.refl _), hst⟩
theorem i_writer_pred (k : Nat) : I_writer_pred k := by
  induction k using Nat.strongRecOn with
  | ind k ih => exact ⟨s_writer_pred ih, s_writer_argument ih⟩
theorem c_writer_pred {k : Nat} {a0 : SWriter} {a1 : GPred} {r : SWriter} {g : World} {m : Mem} {F : List Asr} {w : World} {ob0 : Nat} {A1_ : Option Addr} {c1_ : Nat} {cs1_ : List Value} {u2 : Value} (h : writer_pred k a0 a1 = some r) (hst : St g m (oo ob0 123 (cSWriter a0 (vs A1_ a0.out c1_)) :: rw_ 5 1 A1_ a0.out c1_ cs1_ :: F) w) (hrc1_ : RC (TInt .u8) m a0.out cs1_) (hu2 : RS (TGPred) m u2 a1.Args) (hG : Glob m) :
    Calls Tryz.prog 70 ⟨[vp ob0 0, va (cGPred a1 u2)]⟩ w (OPost (R_writer_pred g m F ob0) r) := (i_writer_pred k).c_writer_pred h hst hrc1_ hu2 hG
theorem c_writer_argument {k : Nat} {a0 : SWriter} {a1 : GPred} {r : SWriter} {g : World} {m : Mem} {F : List Asr} {w : World} {ob0 : Nat} {A1_ : Option Addr} {c1_ : Nat} {cs1_ : List Value} {u2 : Value} (h : writer_argument k a0 a1 = some r) (hst : St g m (oo ob0 123 (cSWriter a0 (vs A1_ a0.out c1_)) :: rw_ 5 1 A1_ a0.out c1_ cs1_ :: F) w) (hrc1_ : RC (TInt .u8) m a0.out cs1_) (hu2 : RS (TGPred) m u2 a1.Args) (hG : Glob m) :
    Calls Tryz.prog 142 ⟨[vp ob0 0, va (cGPred a1 u2)]⟩ w (OPost (R_writer_argument g m F ob0) r) := (i_writer_pred k).c_writer_argument h hst hrc1_ hu2 hG

def R_writer_variable (g : World) (m : Mem) (F : List Asr) (ob0 : Nat) (r : SWriter) (v : Value) (w' : World) : Prop := ∃ (m' : Mem) (A1 : Option Addr) (c1 : Nat) (cs1 : List Value), v = vt [] ∧ m.le m' ∧ St g m' (oo ob0 123 (cSWriter r (vs A1 r.out c1)) :: rw_ 5 1 A1 r.out c1 cs1 :: F) w' ∧ RC (TInt .u8) m' r.out cs1
theorem c_writer_variable {k : Nat} {a0 : SWriter} {a1 : GVariable} {r : SWriter} {g : World} {m : Mem} {F : List Asr} {w : World} {ob0 : Nat} {A1_ : Option Addr} {c1_ : Nat} {cs1_ : List Value} {u2 : Value} (h : writer_variable k a0 a1 = some r) (hst : St g m (oo ob0 123 (cSWriter a0 (vs A1_ a0.out c1_)) :: rw_ 5 1 A1_ a0.out c1_ cs1_ :: F) w) (hrc1_ : RC (TInt .u8) m a0.out cs1_) (hu2 : RS (TGPred) m u2 a1.Where.Args) (hG : Glob m) :
    Calls Tryz.prog 127 ⟨[vp ob0 0, va (cGVariable a1 u2)]⟩ w (OPost (R_writer_variable g m F ob0) r) := by
 refine calls_enter Tryz.func127 rfl rfl ?_
 unfold writer_variable at h
 obtain ⟨A1, c2, rfl⟩ := hu2.shape
 refine qr (bo_ (cGVariable a1 (vs A1 a1.Where.Args c2)) hst (fun b3 _ hst => ?_))
 refine nl (tn (qr (sg 3 [(4, vp ob0 0), (5, vp b3 0), (6, vstr a1.Name)] [(ad b3 0, vstr a1.Name)] ⟨hst.c 0, trivial⟩ (li 9 1 [vstr a1.Name] hst (fun b4 _ hst => ?_)))))
 obtain ⟨m5, hl6, hst, hs7⟩ := hst.obj_slice (T := TStr) (xs := [a1.Name]) (RC.k1 rfl (RC.nil _ _)) rfl
 have hst := pk10 hst
 obtain ⟨r8, hq9, h⟩ := bs h
 refine cal (c_writer_words hq9 hst (RC.mono hl6 hrc1_) hs7 (Glob.mono hl6 hG)) ?_
 rintro _ _ ⟨m10, A13, c14, cs15, rfl, hl11, hst, hrc16⟩
 refine nl (tn (qr (s0 1 [(9, vp ob0 0)] ?_)))
 have e21 := hl6.trans hl11
 obtain ⟨r17, hq18, h⟩ := bs h
 refine cal (c_writer_sign hq18 hst hrc16 (Glob.mono e21 hG)) ?_
 rintro _ _ ⟨m19, A23, c24, cs25, rfl, hl20, hst, hrc26⟩
 refine nl (tn (qr (sg 3 [(11, vp ob0 0), (12, vp b3 1), (13, va (cGPred a1.Where (vs A1 a1.Where.Args c2)))] [(ad b3 1, vi a1.Where.Op), (ad b3 2, vstr a1.Where.Field), (ad b3 3, vstr a1.Where.Key), (ad b3 4, vi a1.Where.Value.Kind), (ad b3 5, vstr a1.Where.Value.Text), (ad b3 6, vi a1.Where.Value.Int), (ad b3 7, vs A1 a1.Where.Args c2)] ⟨hst.c 2, hst.c 2, hst.c 2, hst.c 2, hst.c 2, hst.c 2, hst.c 2, trivial⟩ ?_)))
 have e27 := e21.trans hl20
 obtain ⟨r28, hq29, h⟩ := bs h
 refine cal (c_writer_pred hq29 hst hrc26 (RS.mono e27 hu2) (Glob.mono e27 hG)) ?_
 rintro _ _ ⟨m30, A33, c34, cs35, rfl, hl31, hst, hrc36⟩
 refine nl (tn (rg (s0 1 [(15, vp ob0 0)] ?_)))
 have e41 := e27.trans hl31
 obtain ⟨r37, hq38, h⟩ := bs h
 refine cal (c_writer_sign hq38 hst hrc36 (Glob.mono e41 hG)) ?_
 rintro _ _ ⟨m39, A43, c44, cs45, rfl, hl40, hst, hrc46⟩
 refine nl (we [] ?_)
 have hst := pk28 hst
 have e47 := e41.trans hl40
 have h := Option.some.inj h; subst h
 exact ⟨_, rfl, m39, A43, c44, cs45, rfl, e47, hst, hrc46⟩

def R_writer_query_c1 (g : World) (m : Mem) (F : List Asr) (ob1 : Nat) (ob2 : Nat) (ob3 : Nat) (r : SWriter × GQuery) (v : Value) (w' : World) : Prop := ∃ (m' : Mem) (A1 : Option Addr) (c1 : Nat) (cs1 : List Value) (v2 : Value) (v3 : Value) (v4 : Value) (v5 : Value) (v6 : Value) (v7 : Value), v = vt [] ∧ m.le m' ∧ St g m' (oo ob1 163 [vp ob2 0] :: oo ob2 123 (cSWriter r.1 (vs A1 r.1.out c1)) :: rw_ 5 1 A1 r.1.out c1 cs1 :: oo ob3 36 (cGQuery r.2 v2 v3 v4 v5 v6 v7) :: F) w' ∧ RC (TInt .u8) m' r.1.out cs1 ∧ RS (TGVariable) m' v2 r.2.Variables ∧ RS (TGRelation) m' v3 r.2.Relations ∧ RS (TGAbsence) m' v4 r.2.Absences ∧ RS (TGColumn) m' v5 r.2.Group ∧ RS (TGAggregate) m' v6 r.2.Compute ∧ RS (TGOrderKey) m' v7 r.2.Order
theorem c_writer_query_c1 {k : Nat} {a0 : Int} {a2 : SWriter} {a3 : GQuery} {r : SWriter × GQuery} {g : World} {m : Mem} {F : List Asr} {w : World} {ob1 : Nat} {ob2 : Nat} {ob3 : Nat} {A1_ : Option Addr} {c1_ : Nat} {cs1_ : List Value} {u2 : Value} {u3 : Value} {u4 : Value} {u5 : Value} {u6 : Value} {u7 : Value} (h : writer_query_c1 k a0 a2 a3 = some r) (hst : St g m (oo ob1 163 [vp ob2 0] :: oo ob2 123 (cSWriter a2 (vs A1_ a2.out c1_)) :: rw_ 5 1 A1_ a2.out c1_ cs1_ :: oo ob3 36 (cGQuery a3 u2 u3 u4 u5 u6 u7) :: F) w) (hrc1_ : RC (TInt .u8) m a2.out cs1_) (hu2 : RS (TGVariable) m u2 a3.Variables) (hu3 : RS (TGRelation) m u3 a3.Relations) (hu4 : RS (TGAbsence) m u4 a3.Absences) (hu5 : RS (TGColumn) m u5 a3.Group) (hu6 : RS (TGAggregate) m u6 a3.Compute) (hu7 : RS (TGOrderKey) m u7 a3.Order) (hG : Glob m) :
    Calls Tryz.prog 126 ⟨[vi a0, vp ob1 0, vp ob3 0]⟩ w (OPost (R_writer_query_c1 g m F ob1 ob2 ob3) r) := by
 refine calls_enter Tryz.func126 rfl rfl ?_
 unfold writer_query_c1 at h
 obtain ⟨A1, c2, rfl⟩ := hu2.shape
 obtain ⟨A3, c4, rfl⟩ := hu3.shape
 obtain ⟨A5, c6, rfl⟩ := hu4.shape
 obtain ⟨A7, c8, rfl⟩ := hu5.shape
 obtain ⟨A9, c10, rfl⟩ := hu6.shape
 obtain ⟨A11, c12, rfl⟩ := hu7.shape
 refine wc_draw false (fun x => Rd m (oo ob1 163 [vp ob2 0] :: oo ob3 36 (cGQuery a3 (vs A1 a3.Variables c2) (vs A3 a3.Relations c4) (vs A5 a3.Absences c6) (vs A7 a3.Group c8) (vs A9 a3.Compute c10) (vs A11 a3.Order c12)) :: []) x) (by kernel_rfl) ?_
 have hst := hst.drew
 refine wpG_seg [0, 1, 3, 2] [(4, vp ob2 0), (5, vp ob3 0), (7, vi a0), (6, vs A1 a3.Variables c2)] [(ad ob1 0, vp ob2 0), (ad ob3 0, vs A1 a3.Variables c2)] #[true, true, true, true, false, false, false] (fuel := 3) PQ.body (by kernel_rfl) (by kernel_rfl) (hst.rd.with_ 0 rfl (hst.rd.with_ 3 rfl (hst.rd.none_))) (fun x hx => ⟨hx.c 0, hx.c 1, trivial⟩) ?_
 obtain ⟨x35, hx36, h⟩ := ix h
 obtain ⟨b37, o38, cs39, hR40, hA41, hI42⟩ := RS.ix (P := Tryz.prog) hu2 hx36
 obtain ⟨v43, rfl, hv43⟩ := TGVariable.open_ hR40
 obtain ⟨A44, c45, rfl⟩ := hv43.shape
 refine wpG_take_val PQ.body (i := 4) rfl (by kernel_rfl) (by kernel_rfl) (hst.rd.with_ 0 rfl (hst.rd.with_ 3 rfl (hst.rd.none_))) (fun x hx => hI42.r .i64) ?_
 refine wpG_seg [5] [(9, va (cGVariable x35 (vs A44 x35.Where.Args c45)))] [(ad b37 o38, vstr x35.Name), (ad b37 (o38 + 1), vi x35.Where.Op), (ad b37 (o38 + 2), vstr x35.Where.Field), (ad b37 (o38 + 3), vstr x35.Where.Key), (ad b37 (o38 + 4), vi x35.Where.Value.Kind), (ad b37 (o38 + 5), vstr x35.Where.Value.Text), (ad b37 (o38 + 6), vi x35.Where.Value.Int), (ad b37 (o38 + 7), vs A44 x35.Where.Args c45)] #[true, true, true, true, true, true, false] (fuel := 1) PQ.body (by kernel_rfl) (by kernel_rfl) (hst.rd.with_ 0 rfl (hst.rd.with_ 3 rfl (hst.rd.none_))) (fun x hx => ⟨hx.e hA41 0, hx.e hA41 1, hx.e hA41 2, hx.e hA41 3, hx.e hA41 4, hx.e hA41 5, hx.e hA41 6, hx.e hA41 7, trivial⟩) ?_
 refine wpG_exec 6 (by kernel_rfl) rfl ?_
 have hst := pk10 hst
 obtain ⟨r46, hq47, h⟩ := bs h
 refine cal (c_writer_variable hq47 hst hrc1_ hv43 hG) ?_
 rintro _ _ ⟨m48, A51, c52, cs53, rfl, hl49, hst, hrc54⟩
 refine nl (tn (⟨_, fun _ h => h, .inl ⟨rfl, allListed_of _ (by kernel_rfl)⟩, ?_⟩))
 refine wpG_done (by kernel_rfl) (we [] ?_)
 have hst := pk5 hst
 cases h
 exact ⟨_, rfl, m48, A51, c52, cs53, (vs A1 a3.Variables c2), (vs A3 a3.Relations c4), (vs A5 a3.Absences c6), (vs A7 a3.Group c8), (vs A9 a3.Compute c10), (vs A11 a3.Order c12), rfl, hl49, hst, hrc54, (RS.mono hl49 hu2), (RS.mono hl49 hu3), (RS.mono hl49 hu4), (RS.mono hl49 hu5), (RS.mono hl49 hu6), (RS.mono hl49 hu7)⟩

def R_writer_list (g : World) (m : Mem) (F : List Asr) (ob0 : Nat) (ob2 : Nat) (ob3 : Nat) (r : SWriter × GQuery) (v : Value) (w' : World) : Prop := ∃ (m' : Mem) (A1 : Option Addr) (c1 : Nat) (cs1 : List Value) (v2 : Value) (v3 : Value) (v4 : Value) (v5 : Value) (v6 : Value) (v7 : Value), v = vt [] ∧ m.le m' ∧ St g m' (oo ob0 123 (cSWriter r.1 (vs A1 r.1.out c1)) :: rw_ 5 1 A1 r.1.out c1 cs1 :: oo ob2 163 [vp ob0 0] :: oo ob3 36 (cGQuery r.2 v2 v3 v4 v5 v6 v7) :: F) w' ∧ RC (TInt .u8) m' r.1.out cs1 ∧ RS (TGVariable) m' v2 r.2.Variables ∧ RS (TGRelation) m' v3 r.2.Relations ∧ RS (TGAbsence) m' v4 r.2.Absences ∧ RS (TGColumn) m' v5 r.2.Group ∧ RS (TGAggregate) m' v6 r.2.Compute ∧ RS (TGOrderKey) m' v7 r.2.Order
theorem c_writer_list {k : Nat} {a0 : SWriter} {a1 : Int} {a3 : GQuery} {a4 : List Str} {r : SWriter × GQuery} {g : World} {m : Mem} {F : List Asr} {w : World} {ob0 : Nat} {ob2 : Nat} {ob3 : Nat} {A1_ : Option Addr} {c1_ : Nat} {cs1_ : List Value} {u2 : Value} {u3 : Value} {u4 : Value} {u5 : Value} {u6 : Value} {u7 : Value} {u8 : Value} (h : writer_list k a0 a1 a3 a4 = some r) (hst : St g m (oo ob0 123 (cSWriter a0 (vs A1_ a0.out c1_)) :: rw_ 5 1 A1_ a0.out c1_ cs1_ :: oo ob2 163 [vp ob0 0] :: oo ob3 36 (cGQuery a3 u2 u3 u4 u5 u6 u7) :: F) w) (hrc1_ : RC (TInt .u8) m a0.out cs1_) (hu2 : RS (TGVariable) m u2 a3.Variables) (hu3 : RS (TGRelation) m u3 a3.Relations) (hu4 : RS (TGAbsence) m u4 a3.Absences) (hu5 : RS (TGColumn) m u5 a3.Group) (hu6 : RS (TGAggregate) m u6 a3.Compute) (hu7 : RS (TGOrderKey) m u7 a3.Order) (hu8 : RS (TStr) m u8 a4) (hG : Glob m) :
    Calls Tryz.prog 125 ⟨[vp ob0 0, vi a1, vf 126 [] [vp ob2 0, vp ob3 0], u8]⟩ w (OPost (R_writer_list g m F ob0 ob2 ob3) r) := by
 refine calls_enter Tryz.func125 rfl rfl ?_
 unfold writer_list at h
 obtain ⟨A1, c2, rfl⟩ := hu8.shape
 obtain ⟨A3, c4, rfl⟩ := hu2.shape
 obtain ⟨A5, c6, rfl⟩ := hu3.shape
 obtain ⟨A7, c8, rfl⟩ := hu4.shape
 obtain ⟨A9, c10, rfl⟩ := hu5.shape
 obtain ⟨A11, c12, rfl⟩ := hu6.shape
 obtain ⟨A13, c14, rfl⟩ := hu7.shape
 refine qr (s0 2 [(9, vi a1), (10, vi 0)] (nl (tn (bk (wc_loop (fun kk a w => ∃ (f0 : Fr) (m250 : Mem) (x112 : List Int) (A113 : Option Addr) (c114 : Nat) (cs115 : List Value) (x117 : Int) (x118 : Int) (x119 : Str) (x120 : Int) (x121 : List GVariable) (v122 : Value) (x123 : List GRelation) (v124 : Value) (x125 : List GAbsence) (v126 : Value) (x127 : Int) (x128 : Int) (x129 : List GColumn) (v130 : Value) (x131 : List GAggregate) (v132 : Value) (x133 : List GOrderKey) (v134 : Value) (x135 : Int) (x136 : Int), a = act Tryz.f125.ntmps (upds f0 [(0, vp ob0 0), (2, vf 126 [] [vp ob2 0, vp ob3 0]), (3, vs A1 a4 c2), (9, vi a1), (10, vi x136)]) ∧ kk ≤ k ∧ writer_list_l1 kk a1 a4 x112 x117 x118 x119 x120 x121 x123 x125 x127 x128 x129 x131 x133 x135 x136 = some r ∧ m.le m250 ∧ St g m250 (oo ob0 123 [vs A113 x112 c114, vi x117, vi x118, vstr x119, vi x120] :: rw_ 5 1 A113 x112 c114 cs115 :: oo ob2 163 [vp ob0 0] :: oo ob3 36 [v122, v124, v126, vi x127, vi x128, v130, v132, v134, vi x135] :: F) w ∧ RC (TInt .u8) m250 x112 cs115 ∧ RS (TGVariable) m250 v122 x121 ∧ RS (TGRelation) m250 v124 x123 ∧ RS (TGAbsence) m250 v126 x125 ∧ RS (TGColumn) m250 v130 x129 ∧ RS (TGAggregate) m250 v132 x131 ∧ RS (TGOrderKey) m250 v134 x133) k ?_ ?_)))))
 ·exact ⟨_, m, (a0.out), A1_, c1_, cs1_, (a0.last.kind), (a0.last.at_), (a0.last.s_), (a0.last.n_), (a3.Variables), (vs A3 a3.Variables c4), (a3.Relations), (vs A5 a3.Relations c6), (a3.Absences), (vs A7 a3.Absences c8), (a3.Slots.From), (a3.Slots.To), (a3.Group), (vs A9 a3.Group c10), (a3.Compute), (vs A11 a3.Compute c12), (a3.Order), (vs A13 a3.Order c14), (a3.Limit), (0), (act_upds ⟨by kernel_rfl, by kernel_rfl, by kernel_rfl, by kernel_rfl, by kernel_rfl, trivial⟩), (Nat.le_refl _), h, (Mem.le.refl _), hst, hrc1_, hu2, hu3, hu4, hu5, hu6, hu7⟩
 rintro k248 ih249 _ _ ⟨f0, m250, x112, A113, c114, cs115, x117, x118, x119, x120, x121, v122, x123, v124, x125, v126, x127, x128, x129, v130, x131, v132, x133, v134, x135, x136, rfl, hk247, h, hl246, hst, hrc116, hv122, hv124, hv126, hv130, hv132, hv134⟩
 obtain _ | k252 := k248
 ·simp [writer_list_l1] at h
 rw [writer_list_l1] at h
 obtain ⟨A253, c254, rfl⟩ := hv122.shape
 obtain ⟨A255, c256, rfl⟩ := hv124.shape
 obtain ⟨A257, c258, rfl⟩ := hv126.shape
 obtain ⟨A259, c260, rfl⟩ := hv130.shape
 obtain ⟨A261, c262, rfl⟩ := hv132.shape
 obtain ⟨A263, c264, rfl⟩ := hv134.shape
 refine qr (s0 1 [(11, vb (decide (x136 < a1)))] (nl (tn (sq (cn h (fun h => ?_) (fun h => ?_))))))
 ·refine wp_skip (tn (sq (bk (qr (s0 2 [(12, vi x136), (8, vi x136)] (nl (tn (sq (qr (s0 2 [(13, vi x136), (14, vb (x136 == 0))] (nl (tn (cn h (fun h => ?_) (fun h => ?_))))))))))))))
  ·refine rg (s0 2 [(15, vp ob0 0), (16, vs A1 a4 c2)] ?_)
   obtain ⟨r265, hq266, h⟩ := bs h
   refine cal (c_writer_words hq266 hst hrc116 (RS.mono hl246 hu8) (Glob.mono hl246 hG)) ?_
   rintro _ _ ⟨m267, A270, c271, cs272, rfl, hl268, hst, hrc273⟩
   refine nl (tn (rg (s0 2 [(20, vf 126 [] [vp ob2 0, vp ob3 0]), (21, vi x136)] ?_)))
   have hst := pk5 hst
   have e278 := hl246.trans hl268
   obtain ⟨r274, hq275, h⟩ := bs h
   refine cal (c_writer_query_c1 hq275 hst hrc273 (RS.mono hl268 hv122) (RS.mono hl268 hv124) (RS.mono hl268 hv126) (RS.mono hl268 hv130) (RS.mono hl268 hv132) (RS.mono hl268 hv134) (Glob.mono e278 hG)) ?_
   rintro _ _ ⟨m276, A280, c281, cs282, v284, v285, v286, v287, v288, v289, rfl, hl277, hst, hrc283, hv284, hv285, hv286, hv287, hv288, hv289⟩
   obtain ⟨A290, c291, rfl⟩ := hv284.shape
   obtain ⟨A292, c293, rfl⟩ := hv285.shape
   obtain ⟨A294, c295, rfl⟩ := hv286.shape
   obtain ⟨A296, c297, rfl⟩ := hv287.shape
   obtain ⟨A298, c299, rfl⟩ := hv288.shape
   obtain ⟨A300, c301, rfl⟩ := hv289.shape
   refine nl (bn (tn (rg (s0 2 [(23, vi (w64 (x136 + 1))), (10, vi (w64 (x136 + 1)))] (nl (tn ?_))))))
   have e302 := e278.trans hl277
   have hst := pk10 hst
   exact ih249 k252 (by omega) _ _ ⟨_, m276, (r274.1.out), A280, c281, cs282, (r274.1.last.kind), (r274.1.last.at_), (r274.1.last.s_), (r274.1.last.n_), (r274.2.Variables), (vs A290 r274.2.Variables c291), (r274.2.Relations), (vs A292 r274.2.Relations c293), (r274.2.Absences), (vs A294 r274.2.Absences c295), (r274.2.Slots.From), (r274.2.Slots.To), (r274.2.Group), (vs A296 r274.2.Group c297), (r274.2.Compute), (vs A298 r274.2.Compute c299), (r274.2.Order), (vs A300 r274.2.Order c301), (r274.2.Limit), (w64 (x136 + 1)), (act_upds ⟨by kernel_rfl, by kernel_rfl, by kernel_rfl, by kernel_rfl, by kernel_rfl, trivial⟩), (by omega), h, e302, hst, hrc283, hv284, hv285, hv286, hv287, hv288, hv289⟩
  refine rg (s0 1 [(18, vp ob0 0)] ?_)
  obtain ⟨r303, hq304, h⟩ := bs h
  refine cal (c_writer_sign hq304 hst hrc116 (Glob.mono hl246 hG)) ?_
  rintro _ _ ⟨m305, A308, c309, cs310, rfl, hl306, hst, hrc311⟩
  refine nl (tn (rg (s0 2 [(20, vf 126 [] [vp ob2 0, vp ob3 0]), (21, vi x136)] ?_)))
  have hst := pk5 hst
  have e316 := hl246.trans hl306
  obtain ⟨r312, hq313, h⟩ := bs h
  refine cal (c_writer_query_c1 hq313 hst hrc311 (RS.mono hl306 hv122) (RS.mono hl306 hv124) (RS.mono hl306 hv126) (RS.mono hl306 hv130) (RS.mono hl306 hv132) (RS.mono hl306 hv134) (Glob.mono e316 hG)) ?_
  rintro _ _ ⟨m314, A318, c319, cs320, v322, v323, v324, v325, v326, v327, rfl, hl315, hst, hrc321, hv322, hv323, hv324, hv325, hv326, hv327⟩
  obtain ⟨A328, c329, rfl⟩ := hv322.shape
  obtain ⟨A330, c331, rfl⟩ := hv323.shape
  obtain ⟨A332, c333, rfl⟩ := hv324.shape
  obtain ⟨A334, c335, rfl⟩ := hv325.shape
  obtain ⟨A336, c337, rfl⟩ := hv326.shape
  obtain ⟨A338, c339, rfl⟩ := hv327.shape
  refine nl (bn (tn (rg (s0 2 [(23, vi (w64 (x136 + 1))), (10, vi (w64 (x136 + 1)))] (nl (tn ?_))))))
  have e340 := e316.trans hl315
  have hst := pk10 hst
  exact ih249 k252 (by omega) _ _ ⟨_, m314, (r312.1.out), A318, c319, cs320, (r312.1.last.kind), (r312.1.last.at_), (r312.1.last.s_), (r312.1.last.n_), (r312.2.Variables), (vs A328 r312.2.Variables c329), (r312.2.Relations), (vs A330 r312.2.Relations c331), (r312.2.Absences), (vs A332 r312.2.Absences c333), (r312.2.Slots.From), (r312.2.Slots.To), (r312.2.Group), (vs A334 r312.2.Group c335), (r312.2.Compute), (vs A336 r312.2.Compute c337), (r312.2.Order), (vs A338 r312.2.Order c339), (r312.2.Limit), (w64 (x136 + 1)), (act_upds ⟨by kernel_rfl, by kernel_rfl, by kernel_rfl, by kernel_rfl, by kernel_rfl, trivial⟩), (by omega), h, e340, hst, hrc321, hv322, hv323, hv324, hv325, hv326, hv327⟩
 refine wp_exit (tx (tx (bx (we [] ?_))))
 cases h
 exact ⟨_, rfl, m250, A113, c114, cs115, (vs A253 x121 c254), (vs A255 x123 c256), (vs A257 x125 c258), (vs A259 x129 c260), (vs A261 x131 c262), (vs A263 x133 c264), rfl, hl246, hst, hrc116, hv122, hv124, hv126, hv130, hv132, hv134⟩

end Go.Proofs.YtfnaahkgegfbnaaGreatDoor
