/- Contracts of Go functions. Written by a program of this session. -/
import Derived.Test.YtfnaahkgegfbnaaGreatDoorPK
import Derived.Test.YtfnaahkgegfbnaaGreatDoorShelf
import Derived.Test.YtfnaahkgegfbnaaGreatDoorDp
import Derived.Test.YtfnaahkgegfbnaaGreatDoorGa0
import Derived.Test.YtfnaahkgegfbnaaGreatDoorGa2
import Derived.Test.YtfnaahkgegfbnaaGreatDoorGc0
import Derived.Test.YtfnaahkgegfbnaaGreatDoorGf0
set_option linter.unusedVariables false
set_option linter.unusedSimpArgs false
set_option maxRecDepth 10000
namespace Go.Proofs.YtfnaahkgegfbnaaGreatDoor

def R_l36_SyntaxNames (g : World) (m : Mem) (F : List Asr) (r : Bool) (v : Value) (w' : World) : Prop := ∃ (m' : Mem), v = vb r ∧ m.le m' ∧ St g m' (F) w'
theorem c_l36_SyntaxNames {k : Nat} {a0 : Str} {a1 : Int} {r : Bool} {g : World} {m : Mem} {F : List Asr} {w : World} (h : l36_SyntaxNames k a0 a1 = some r) (hst : St g m (F) w) (hG : Glob m) :
    Calls Tryz.prog 3 ⟨[vstr a0, vu a1]⟩ w (OPost (R_l36_SyntaxNames g m F) r) := by
 refine calls_enter Tryz.func3 rfl rfl ?_
 unfold l36_SyntaxNames at h
 refine qr (s0 1 [(4, vb false)] (nl (tn (qr (s0 4 [(6, vstr a0), (7, vstr a0), (8, vi ((a0).length : Int)), (9, vi (mn ((a0).length : Int) 80))] ?_)))))
 obtain ⟨hb1, h⟩ := chk_some h
 refine vl (rs0 hb1) (s0 1 [(0, vstr (List.take (Int.toNat (mn ((a0).length : Int) 80)) a0))] (nl (tn (qr ?_))))
 obtain ⟨r2, hq3, h⟩ := bs h
 refine cal (c_l36_reserved hq3 hst) ?_
 rintro _ _ ⟨m4, v6, rfl, hl5, hst, hv6⟩
 obtain ⟨A7, c8, rfl⟩ := hv6.shape
 refine s0 2 [(12, vu a1), (13, vi (w64 a1))] ?_
 obtain ⟨r9, hq10, h⟩ := bs h
 refine cal (c_l36_reserved hq10 hst) ?_
 rintro _ _ ⟨m11, v13, rfl, hl12, hst, hv13⟩
 obtain ⟨A14, c15, rfl⟩ := hv13.shape
 refine s0 1 [(15, vi ((r9).length : Int))] ?_
 obtain ⟨hb16, h⟩ := chk_some h
 refine vl (rrm .i64 (w64 a1) hb16) ?_
 obtain ⟨x18, hx19, h⟩ := ix h
 obtain ⟨b20, o21, cs22, hR23, hA24, hI25⟩ := RS.ix (P := Tryz.prog) (RS.mono hl12 hv6) hx19
 obtain rfl : cs22 = [vstr x18] := hR23
 refine vl (hI25.r .i64) (sg 2 [(18, vstr x18), (5, vstr x18)] [(ad b20 o21, vstr x18)] ⟨hst.e hA24 0, trivial⟩ (nl (tn (qr ?_))))
 have e30 := hl5.trans hl12
 obtain ⟨r26, hq27, h⟩ := bs h
 refine cal (c_l36_known hq27 hst (Glob.mono e30 hG)) ?_
 rintro _ _ ⟨m28, rfl, hl29, hst⟩
 refine s0 1 [(20, vb r26)] ?_
 rcases sp h with ⟨hc31, h⟩ | ⟨hc31, h⟩
 ·rw [hc31]
  refine s0 1 [(21, vstr (List.take (Int.toNat (mn ((a0).length : Int) 80)) a0))] ?_
  have e36 := e30.trans hl29
  obtain ⟨r32, hq33, h⟩ := bs h
  refine cal (c_syntax_IsVariable hq33 hst (Glob.mono e36 hG)) ?_
  rintro _ _ ⟨m34, rfl, hl35, hst⟩
  refine s0 1 [(23, vstr (List.take (Int.toNat (mn ((a0).length : Int) 80)) a0))] ?_
  obtain ⟨r37, hq38, h⟩ := bs h
  refine cal (c_l36_variable hq38 hst) ?_
  rintro _ _ ⟨m39, rfl, hl40, hst⟩
  refine s0 3 [(25, vb (r32 == r37)), (26, vb (r32 == r37)), (27, vb (r32 == r37))] ?_
  rcases sp h with ⟨hc41, h⟩ | ⟨hc41, h⟩
  ·rw [hc41]
   refine s0 1 [(28, vstr (List.take (Int.toNat (mn ((a0).length : Int) 80)) a0))] ?_
   obtain ⟨r42, hq43, h⟩ := bs h
   refine cal (c_syntax_IsField hq43 hst) ?_
   rintro _ _ ⟨m44, rfl, hl45, hst⟩
   refine s0 1 [(30, vstr (List.take (Int.toNat (mn ((a0).length : Int) 80)) a0))] ?_
   obtain ⟨r46, hq47, h⟩ := bs h
   refine cal (c_l36_field hq47 hst) ?_
   rintro _ _ ⟨m48, rfl, hl49, hst⟩
   refine s0 3 [(32, vb (r42 == r46)), (33, vb (r42 == r46)), (34, vb (r42 == r46))] ?_
   rcases sp h with ⟨hc50, h⟩ | ⟨hc50, h⟩
   ·rw [hc50]
    refine s0 1 [(35, vstr x18)] ?_
    have e55 := e36.trans (hl35.trans (hl40.trans (hl45.trans hl49)))
    obtain ⟨r51, hq52, h⟩ := bs h
    refine cal (c_syntax_IsVariable hq52 hst (Glob.mono e55 hG)) ?_
    rintro _ _ ⟨m53, rfl, hl54, hst⟩
    refine s0 3 [(37, vb (!r51)), (38, vb (!r51)), (39, vb (!r51))] ?_
    rcases sp h with ⟨hc56, h⟩ | ⟨hc56, h⟩
    ·rw [hc56]
     refine s0 1 [(40, vstr x18)] ?_
     obtain ⟨r57, hq58, h⟩ := bs h
     refine cal (c_syntax_IsField hq58 hst) ?_
     rintro _ _ ⟨m59, rfl, hl60, hst⟩
     refine s0 1 [(42, vstr x18)] ?_
     obtain ⟨r61, hq62, h⟩ := bs h
     refine cal (c_l36_field hq62 hst) ?_
     rintro _ _ ⟨m63, rfl, hl64, hst⟩
     refine s0 3 [(44, vb (r57 == r61)), (45, vb (r57 == r61)), (4, vb (r57 == r61))] (nl (tn (wp_ret (wr [vb (r57 == r61)] ?_))))
     have e65 := e55.trans (hl54.trans (hl60.trans hl64))
     cases h
     exact ⟨_, rfl, m63, rfl, e65, hst⟩
    rw [hc56]
    refine s0 7 [(40, undef), (41, undef), (42, undef), (43, undef), (44, undef), (45, vb false), (4, vb false)] (nl (tn (wp_ret (wr [vb false] ?_))))
    have e66 := e55.trans hl54
    have h := Option.some.inj h; subst h
    exact ⟨_, rfl, m53, rfl, e66, hst⟩
   rw [hc50]
   refine s0 12 [(35, undef), (36, undef), (37, undef), (38, vb false), (39, vb false), (40, undef), (41, undef), (42, undef), (43, undef), (44, undef), (45, vb false), (4, vb false)] (nl (tn (wp_ret (wr [vb false] ?_))))
   have e67 := e36.trans (hl35.trans (hl40.trans (hl45.trans hl49)))
   have h := Option.some.inj h; subst h
   exact ⟨_, rfl, m48, rfl, e67, hst⟩
  rw [hc41]
  refine s0 19 [(28, undef), (29, undef), (30, undef), (31, undef), (32, undef), (33, vb false), (34, vb false), (35, undef), (36, undef), (37, undef), (38, vb false), (39, vb false), (40, undef), (41, undef), (42, undef), (43, undef), (44, undef), (45, vb false), (4, vb false)] (nl (tn (wp_ret (wr [vb false] ?_))))
  have e68 := e36.trans (hl35.trans hl40)
  have h := Option.some.inj h; subst h
  exact ⟨_, rfl, m39, rfl, e68, hst⟩
 rw [hc31]
 refine s0 26 [(21, undef), (22, undef), (23, undef), (24, undef), (25, undef), (26, vb false), (27, vb false), (28, undef), (29, undef), (30, undef), (31, undef), (32, undef), (33, vb false), (34, vb false), (35, undef), (36, undef), (37, undef), (38, vb false), (39, vb false), (40, undef), (41, undef), (42, undef), (43, undef), (44, undef), (45, vb false), (4, vb false)] (nl (tn (wp_ret (wr [vb false] ?_))))
 have e69 := e30.trans hl29
 have h := Option.some.inj h; subst h
 exact ⟨_, rfl, m28, rfl, e69, hst⟩

end Go.Proofs.YtfnaahkgegfbnaaGreatDoor
