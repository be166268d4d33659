/- Contracts of Go functions. Written by a program of this session. -/
import Derived.Test.YtfnaahkgegfbnaaGreatDoorPK
import Derived.Test.YtfnaahkgegfbnaaGreatDoorShelf
import Derived.Test.YtfnaahkgegfbnaaGreatDoorDb
set_option linter.unusedVariables false
set_option linter.unusedSimpArgs false
set_option maxRecDepth 10000
namespace Go.Proofs.YtfnaahkgegfbnaaGreatDoor

def R_l36_begins (g : World) (m : Mem) (F : List Asr) (r : Bool) (v : Value) (w' : World) : Prop := ∃ (m' : Mem), v = vb r ∧ m.le m' ∧ St g m' (F) w'
theorem c_l36_begins {a0 : Int} {r : Bool} {g : World} {m : Mem} {F : List Asr} {w : World} (h : l36_begins a0 = some r) (hst : St g m (F) w) :
    Calls Tryz.prog 99 ⟨[vu a0]⟩ w (OPost (R_l36_begins g m F) r) := by
 refine calls_enter Tryz.func99 rfl rfl ?_
 unfold l36_begins at h
 refine qr (s0 1 [(2, vb false)] (nl (tn (qr (s0 3 [(3, vu a0), (4, vb (decide (a0 ≥ 65))), (5, vb (decide (a0 ≥ 65)))] ?_)))))
 rcases sp h with ⟨hc1, h⟩ | ⟨hc1, h⟩
 ·rw [hc1]
  refine s0 4 [(6, vu a0), (7, vb (decide (a0 ≤ 90))), (8, vb (decide (a0 ≤ 90))), (9, vb (decide (a0 ≤ 90)))] ?_
  rcases sp h with ⟨hc2, h⟩ | ⟨hc2, h⟩
  ·rw [hc2]
   refine s0 12 [(10, undef), (11, undef), (12, undef), (13, undef), (14, undef), (15, undef), (16, vb true), (17, vb true), (18, undef), (19, undef), (20, vb true), (2, vb true)] (nl (tn (wp_ret (wr [vb true] ?_))))
   have h := Option.some.inj h; subst h
   exact ⟨_, rfl, m, rfl, (Mem.le.refl _), hst⟩
  rw [hc2]
  refine s0 3 [(10, vu a0), (11, vb (decide (a0 ≥ 97))), (12, vb (decide (a0 ≥ 97)))] ?_
  rcases sp h with ⟨hc3, h⟩ | ⟨hc3, h⟩
  ·rw [hc3]
   refine s0 5 [(13, vu a0), (14, vb (decide (a0 ≤ 122))), (15, vb (decide (a0 ≤ 122))), (16, vb (decide (a0 ≤ 122))), (17, vb (decide (a0 ≤ 122)))] ?_
   rcases sp h with ⟨hc4, h⟩ | ⟨hc4, h⟩
   ·rw [hc4]
    refine s0 4 [(18, undef), (19, undef), (20, vb true), (2, vb true)] (nl (tn (wp_ret (wr [vb true] ?_))))
    have h := Option.some.inj h; subst h
    exact ⟨_, rfl, m, rfl, (Mem.le.refl _), hst⟩
   rw [hc4]
   refine s0 4 [(18, vu a0), (19, vb (a0 == 95)), (20, vb (a0 == 95)), (2, vb (a0 == 95))] (nl (tn (wp_ret (wr [vb (a0 == 95)] ?_))))
   cases h
   exact ⟨_, rfl, m, rfl, (Mem.le.refl _), hst⟩
  rw [hc3]
  refine s0 9 [(13, undef), (14, undef), (15, vb false), (16, vb false), (17, vb false), (18, vu a0), (19, vb (a0 == 95)), (20, vb (a0 == 95)), (2, vb (a0 == 95))] (nl (tn (wp_ret (wr [vb (a0 == 95)] ?_))))
  cases h
  exact ⟨_, rfl, m, rfl, (Mem.le.refl _), hst⟩
 rw [hc1]
 refine s0 7 [(6, undef), (7, undef), (8, vb false), (9, vb false), (10, vu a0), (11, vb (decide (a0 ≥ 97))), (12, vb (decide (a0 ≥ 97)))] ?_
 rcases sp h with ⟨hc5, h⟩ | ⟨hc5, h⟩
 ·rw [hc5]
  refine s0 5 [(13, vu a0), (14, vb (decide (a0 ≤ 122))), (15, vb (decide (a0 ≤ 122))), (16, vb (decide (a0 ≤ 122))), (17, vb (decide (a0 ≤ 122)))] ?_
  rcases sp h with ⟨hc6, h⟩ | ⟨hc6, h⟩
  ·rw [hc6]
   refine s0 4 [(18, undef), (19, undef), (20, vb true), (2, vb true)] (nl (tn (wp_ret (wr [vb true] ?_))))
   have h := Option.some.inj h; subst h
   exact ⟨_, rfl, m, rfl, (Mem.le.refl _), hst⟩
  rw [hc6]
  refine s0 4 [(18, vu a0), (19, vb (a0 == 95)), (20, vb (a0 == 95)), (2, vb (a0 == 95))] (nl (tn (wp_ret (wr [vb (a0 == 95)] ?_))))
  cases h
  exact ⟨_, rfl, m, rfl, (Mem.le.refl _), hst⟩
 rw [hc5]
 refine s0 9 [(13, undef), (14, undef), (15, vb false), (16, vb false), (17, vb false), (18, vu a0), (19, vb (a0 == 95)), (20, vb (a0 == 95)), (2, vb (a0 == 95))] (nl (tn (wp_ret (wr [vb (a0 == 95)] ?_))))
 cases h
 exact ⟨_, rfl, m, rfl, (Mem.le.refl _), hst⟩

def R_l36_digit (g : World) (m : Mem) (F : List Asr) (r : Bool) (v : Value) (w' : World) : Prop := ∃ (m' : Mem), v = vb r ∧ m.le m' ∧ St g m' (F) w'
theorem c_l36_digit {a0 : Int} {r : Bool} {g : World} {m : Mem} {F : List Asr} {w : World} (h : l36_digit a0 = some r) (hst : St g m (F) w) :
    Calls Tryz.prog 100 ⟨[vu a0]⟩ w (OPost (R_l36_digit g m F) r) := by
 refine calls_enter Tryz.func100 rfl rfl ?_
 unfold l36_digit at h
 refine qr (s0 1 [(2, vb false)] (nl (tn (qr (s0 3 [(3, vu a0), (4, vb (decide (a0 ≥ 48))), (5, vb (decide (a0 ≥ 48)))] ?_)))))
 rcases sp h with ⟨hc1, h⟩ | ⟨hc1, h⟩
 ·rw [hc1]
  refine s0 4 [(6, vu a0), (7, vb (decide (a0 ≤ 57))), (8, vb (decide (a0 ≤ 57))), (2, vb (decide (a0 ≤ 57)))] (nl (tn (wp_ret (wr [vb (decide (a0 ≤ 57))] ?_))))
  cases h
  exact ⟨_, rfl, m, rfl, (Mem.le.refl _), hst⟩
 rw [hc1]
 refine s0 4 [(6, undef), (7, undef), (8, vb false), (2, vb false)] (nl (tn (wp_ret (wr [vb false] ?_))))
 have h := Option.some.inj h; subst h
 exact ⟨_, rfl, m, rfl, (Mem.le.refl _), hst⟩

end Go.Proofs.YtfnaahkgegfbnaaGreatDoor
