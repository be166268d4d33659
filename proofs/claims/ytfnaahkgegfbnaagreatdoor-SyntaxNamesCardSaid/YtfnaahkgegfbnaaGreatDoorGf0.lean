/- Contracts of Go functions. Written by a program of this session. -/
import Derived.Test.YtfnaahkgegfbnaaGreatDoorPK
import Derived.Test.YtfnaahkgegfbnaaGreatDoorShelf
import Derived.Test.YtfnaahkgegfbnaaGreatDoorDf
import Derived.Test.YtfnaahkgegfbnaaGreatDoorGc0
set_option linter.unusedVariables false
set_option linter.unusedSimpArgs false
set_option maxRecDepth 10000
namespace Go.Proofs.YtfnaahkgegfbnaaGreatDoor

def R_l36_variable (g : World) (m : Mem) (F : List Asr) (r : Bool) (v : Value) (w' : World) : Prop := ∃ (m' : Mem), v = vb r ∧ m.le m' ∧ St g m' (F) w'
theorem c_l36_variable {k : Nat} {a0 : Str} {r : Bool} {g : World} {m : Mem} {F : List Asr} {w : World} (h : l36_variable k a0 = some r) (hst : St g m (F) w) :
    Calls Tryz.prog 16 ⟨[vstr a0]⟩ w (OPost (R_l36_variable g m F) r) := by
 refine calls_enter Tryz.func16 rfl rfl ?_
 unfold l36_variable at h
 refine qr (s0 1 [(2, vb false)] (nl (tn (qr (s0 1 [(3, vstr a0)] ?_)))))
 obtain ⟨r1, hq2, h⟩ := bs h
 refine cal (c_l36_word hq2 hst) ?_
 rintro _ _ ⟨m3, rfl, hl4, hst⟩
 refine s0 1 [(5, vb r1)] ?_
 rcases sp h with ⟨hc5, h⟩ | ⟨hc5, h⟩
 ·rw [hc5]
  refine s0 5 [(6, vstr a0), (7, vi ((a0).length : Int)), (8, vb (decide (((a0).length : Int) ≤ 64))), (9, vb (decide (((a0).length : Int) ≤ 64))), (10, vb (decide (((a0).length : Int) ≤ 64)))] ?_
  rcases sp h with ⟨hc6, h⟩ | ⟨hc6, h⟩
  ·rw [hc6]
   refine s0 1 [(11, vstr a0)] ?_
   obtain ⟨r7, hq8, h⟩ := bs h
   refine cal (c_l36_reserved hq8 hst) ?_
   rintro _ _ ⟨m9, v11, rfl, hl10, hst, hv11⟩
   obtain ⟨A12, c13, rfl⟩ := hv11.shape
   refine s0 1 [(13, vi ((r7).length : Int))] ?_
   obtain ⟨r14, hq15, h⟩ := bs h
   refine cal (c_l36_among hq15 hst) ?_
   rintro _ _ ⟨m16, rfl, hl17, hst⟩
   refine s0 3 [(15, vb (!r14)), (16, vb (!r14)), (2, vb (!r14))] (nl (tn (wp_ret (wr [vb (!r14)] ?_))))
   have e18 := hl4.trans (hl10.trans hl17)
   cases h
   exact ⟨_, rfl, m16, rfl, e18, hst⟩
  rw [hc6]
  refine s0 7 [(11, undef), (12, undef), (13, undef), (14, undef), (15, undef), (16, vb false), (2, vb false)] (nl (tn (wp_ret (wr [vb false] ?_))))
  have h := Option.some.inj h; subst h
  exact ⟨_, rfl, m3, rfl, hl4, hst⟩
 rw [hc5]
 refine s0 12 [(6, undef), (7, undef), (8, undef), (9, vb false), (10, vb false), (11, undef), (12, undef), (13, undef), (14, undef), (15, undef), (16, vb false), (2, vb false)] (nl (tn (wp_ret (wr [vb false] ?_))))
 have h := Option.some.inj h; subst h
 exact ⟨_, rfl, m3, rfl, hl4, hst⟩

end Go.Proofs.YtfnaahkgegfbnaaGreatDoor
