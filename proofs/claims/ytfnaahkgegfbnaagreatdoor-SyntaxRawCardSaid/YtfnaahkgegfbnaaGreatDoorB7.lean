/- The data of the statements: how they lie in memory. Written by a program of this session. -/
import Derived.Test.YtfnaahkgegfbnaaGreatDoorB6
set_option linter.unusedVariables false
set_option linter.unusedSimpArgs false
namespace Go.Proofs.YtfnaahkgegfbnaaGreatDoor

structure GInterval where
  From : Int
  To : Int
  deriving DecidableEq

def TGInterval : Ty GInterval := { size := 2, R := fun m x cs => cs = [.int .i64 x.From, .int .i64 x.To], mono := fun hm h => (by exact h), len := fun h => (by subst h; rfl), one := fun h v hv => (by subst h; simp at hv; rcases hv with rfl | rfl <;> rfl) }

theorem TGInterval.open_ {m : Mem} {x : GInterval} {cs : List Value} (h : TGInterval.R m x cs) : cs = [.int .i64 x.From, .int .i64 x.To] := h

theorem TGInterval.close_ {m : Mem} (x : GInterval) : TGInterval.R m x [.int .i64 x.From, .int .i64 x.To] := rfl

structure GValue where
  Kind : Int
  Text : Str
  Int : Int
  deriving DecidableEq

def TGValue : Ty GValue := { size := 3, R := fun m x cs => cs = [.int .i64 x.Kind, vstr x.Text, .int .i64 x.Int], mono := fun hm h => (by exact h), len := fun h => (by subst h; rfl), one := fun h v hv => (by subst h; simp at hv; rcases hv with rfl | rfl | rfl <;> rfl) }

theorem TGValue.open_ {m : Mem} {x : GValue} {cs : List Value} (h : TGValue.R m x cs) : cs = [.int .i64 x.Kind, vstr x.Text, .int .i64 x.Int] := h

theorem TGValue.close_ {m : Mem} (x : GValue) : TGValue.R m x [.int .i64 x.Kind, vstr x.Text, .int .i64 x.Int] := rfl

structure GPred where
  Op : Int
  Field : Str
  Key : Str
  Value : GValue
  Args : List GPred

inductive RGPred (m : Mem) : GPred → List Value → Prop
  | mk (x : GPred) (A : Option Addr) (c : Nat) (hc : x.Args.length ≤ c) (ad : Nat → Addr) (cf : Nat → List Value)
      (h1 : ∀ i y, x.Args[i]? = some y → RGPred m y (cf i)) (h2 : ∀ i y, x.Args[i]? = some y → A = some (ad i) ∧ At m ((ad i).add (i * 7)) (cf i)) :
      RGPred m x [.int .i64 x.Op, vstr x.Field, vstr x.Key, .int .i64 x.Value.Kind, vstr x.Value.Text, .int .i64 x.Value.Int, .slice A x.Args.length c]
theorem RGPred.mono {m m' : Mem} (hm : m.le m') {x : GPred} {cs : List Value} (h : RGPred m x cs) : RGPred m' x cs := by
  induction h with
  | mk x A c hc ad cf h1 h2 ih => exact .mk x A c hc ad cf ih (fun i y hy => ⟨(h2 i y hy).1, (h2 i y hy).2.mono hm⟩)
def TGPred : Ty GPred := { size := 7, R := RGPred, mono := fun hm h => h.mono hm, len := fun h => (by cases h; rfl), one := fun h v hv => (by cases h; simp at hv; rcases hv with rfl | rfl | rfl | rfl | rfl | rfl | rfl <;> rfl) }
theorem TGPred.open_ {m : Mem} {x : GPred} {cs : List Value} (h : TGPred.R m x cs) : ∃ v0, cs = [.int .i64 x.Op, vstr x.Field, vstr x.Key, .int .i64 x.Value.Kind, vstr x.Value.Text, .int .i64 x.Value.Int, v0] ∧ RS (TGPred) m v0 x.Args := by
  cases h with
  | mk x A c hc ad cf h1 h2 =>
    refine ⟨_, rfl, A, c, rfl, hc, fun i y hy => ⟨ad i, cf i, (h2 i y hy).1, h1 i y hy, (h2 i y hy).2⟩⟩
theorem TGPred.close_ {m : Mem} (x : GPred) {v0 : Value} (h : RS TGPred m v0 x.Args) : TGPred.R m x [.int .i64 x.Op, vstr x.Field, vstr x.Key, .int .i64 x.Value.Kind, vstr x.Value.Text, .int .i64 x.Value.Int, v0] := by
  obtain ⟨A, c, rfl, hc, hx⟩ := h
  have hx' : ∀ i, ∃ q : Addr × List Value, ∀ y, x.Args[i]? = some y → A = some q.1 ∧ RGPred m y q.2 ∧ At m (q.1.add (i * 7)) q.2 := by
    intro i
    cases hy : x.Args[i]? with
    | none => exact ⟨(⟨0, 0, none⟩, []), fun y e => by cases e⟩
    | some y =>
      obtain ⟨ad, cs, h1, h2, h3⟩ := hx i y hy
      exact ⟨(ad, cs), fun z e => by cases e; exact ⟨h1, h2, h3⟩⟩
  exact .mk x A c hc (fun i => (Classical.choose (hx' i)).1) (fun i => (Classical.choose (hx' i)).2) (fun i y hy => (Classical.choose_spec (hx' i) y hy).2.1)
    (fun i y hy => ⟨(Classical.choose_spec (hx' i) y hy).1, (Classical.choose_spec (hx' i) y hy).2.2⟩)

structure GVariable where
  Name : Str
  Where : GPred

def TGVariable : Ty GVariable := { size := 8, R := fun m x cs => ∃ v0, cs = [vstr x.Name, .int .i64 x.Where.Op, vstr x.Where.Field, vstr x.Where.Key, .int .i64 x.Where.Value.Kind, vstr x.Where.Value.Text, .int .i64 x.Where.Value.Int, v0] ∧ RS (TGPred) m v0 x.Where.Args, mono := fun hm h => (by obtain ⟨v0, e, h0⟩ := h; exact ⟨v0, e, h0.mono hm⟩), len := fun h => (by obtain ⟨v0, e, _⟩ := h; subst e; rfl), one := fun h v hv => (by obtain ⟨v0, e, h0⟩ := h; subst e; obtain ⟨_, _, rfl, _⟩ := h0; simp at hv; rcases hv with rfl | rfl | rfl | rfl | rfl | rfl | rfl | rfl <;> rfl) }

theorem TGVariable.open_ {m : Mem} {x : GVariable} {cs : List Value} (h : TGVariable.R m x cs) : ∃ v0, cs = [vstr x.Name, .int .i64 x.Where.Op, vstr x.Where.Field, vstr x.Where.Key, .int .i64 x.Where.Value.Kind, vstr x.Where.Value.Text, .int .i64 x.Where.Value.Int, v0] ∧ RS (TGPred) m v0 x.Where.Args := h

theorem TGVariable.close_ {m : Mem} (x : GVariable) {v0 : Value} (h0 : RS (TGPred) m v0 x.Where.Args) : TGVariable.R m x [vstr x.Name, .int .i64 x.Where.Op, vstr x.Where.Field, vstr x.Where.Key, .int .i64 x.Where.Value.Kind, vstr x.Where.Value.Text, .int .i64 x.Where.Value.Int, v0] := ⟨v0, rfl, h0⟩

structure GRelation where
  Kind : Int
  A : Str
  B : Str
  deriving DecidableEq

def TGRelation : Ty GRelation := { size := 3, R := fun m x cs => cs = [.int .i64 x.Kind, vstr x.A, vstr x.B], mono := fun hm h => (by exact h), len := fun h => (by subst h; rfl), one := fun h v hv => (by subst h; simp at hv; rcases hv with rfl | rfl | rfl <;> rfl) }

theorem TGRelation.open_ {m : Mem} {x : GRelation} {cs : List Value} (h : TGRelation.R m x cs) : cs = [.int .i64 x.Kind, vstr x.A, vstr x.B] := h

theorem TGRelation.close_ {m : Mem} (x : GRelation) : TGRelation.R m x [.int .i64 x.Kind, vstr x.A, vstr x.B] := rfl

structure GAbsence where
  Variable : GVariable
  Kind : Int
  Other : Str
  First : Bool

def TGAbsence : Ty GAbsence := { size := 11, R := fun m x cs => ∃ v0, cs = [vstr x.Variable.Name, .int .i64 x.Variable.Where.Op, vstr x.Variable.Where.Field, vstr x.Variable.Where.Key, .int .i64 x.Variable.Where.Value.Kind, vstr x.Variable.Where.Value.Text, .int .i64 x.Variable.Where.Value.Int, v0, .int .i64 x.Kind, vstr x.Other, .bool x.First] ∧ RS (TGPred) m v0 x.Variable.Where.Args, mono := fun hm h => (by obtain ⟨v0, e, h0⟩ := h; exact ⟨v0, e, h0.mono hm⟩), len := fun h => (by obtain ⟨v0, e, _⟩ := h; subst e; rfl), one := fun h v hv => (by obtain ⟨v0, e, h0⟩ := h; subst e; obtain ⟨_, _, rfl, _⟩ := h0; simp at hv; rcases hv with rfl | rfl | rfl | rfl | rfl | rfl | rfl | rfl | rfl | rfl | rfl <;> rfl) }

theorem TGAbsence.open_ {m : Mem} {x : GAbsence} {cs : List Value} (h : TGAbsence.R m x cs) : ∃ v0, cs = [vstr x.Variable.Name, .int .i64 x.Variable.Where.Op, vstr x.Variable.Where.Field, vstr x.Variable.Where.Key, .int .i64 x.Variable.Where.Value.Kind, vstr x.Variable.Where.Value.Text, .int .i64 x.Variable.Where.Value.Int, v0, .int .i64 x.Kind, vstr x.Other, .bool x.First] ∧ RS (TGPred) m v0 x.Variable.Where.Args := h

theorem TGAbsence.close_ {m : Mem} (x : GAbsence) {v0 : Value} (h0 : RS (TGPred) m v0 x.Variable.Where.Args) : TGAbsence.R m x [vstr x.Variable.Name, .int .i64 x.Variable.Where.Op, vstr x.Variable.Where.Field, vstr x.Variable.Where.Key, .int .i64 x.Variable.Where.Value.Kind, vstr x.Variable.Where.Value.Text, .int .i64 x.Variable.Where.Value.Int, v0, .int .i64 x.Kind, vstr x.Other, .bool x.First] := ⟨v0, rfl, h0⟩

structure GColumn where
  Var : Str
  Field : Str
  Key : Str
  deriving DecidableEq

def TGColumn : Ty GColumn := { size := 3, R := fun m x cs => cs = [vstr x.Var, vstr x.Field, vstr x.Key], mono := fun hm h => (by exact h), len := fun h => (by subst h; rfl), one := fun h v hv => (by subst h; simp at hv; rcases hv with rfl | rfl | rfl <;> rfl) }

theorem TGColumn.open_ {m : Mem} {x : GColumn} {cs : List Value} (h : TGColumn.R m x cs) : cs = [vstr x.Var, vstr x.Field, vstr x.Key] := h

theorem TGColumn.close_ {m : Mem} (x : GColumn) : TGColumn.R m x [vstr x.Var, vstr x.Field, vstr x.Key] := rfl

structure GFraction where
  Num : Int
  Den : Int
  deriving DecidableEq

def TGFraction : Ty GFraction := { size := 2, R := fun m x cs => cs = [.int .i64 x.Num, .int .i64 x.Den], mono := fun hm h => (by exact h), len := fun h => (by subst h; rfl), one := fun h v hv => (by subst h; simp at hv; rcases hv with rfl | rfl <;> rfl) }

theorem TGFraction.open_ {m : Mem} {x : GFraction} {cs : List Value} (h : TGFraction.R m x cs) : cs = [.int .i64 x.Num, .int .i64 x.Den] := h

theorem TGFraction.close_ {m : Mem} (x : GFraction) : TGFraction.R m x [.int .i64 x.Num, .int .i64 x.Den] := rfl

structure GAggregate where
  Kind : Int
  Column : GColumn
  Q : GFraction
  deriving DecidableEq

def TGAggregate : Ty GAggregate := { size := 6, R := fun m x cs => cs = [.int .i64 x.Kind, vstr x.Column.Var, vstr x.Column.Field, vstr x.Column.Key, .int .i64 x.Q.Num, .int .i64 x.Q.Den], mono := fun hm h => (by exact h), len := fun h => (by subst h; rfl), one := fun h v hv => (by subst h; simp at hv; rcases hv with rfl | rfl | rfl | rfl | rfl | rfl <;> rfl) }

theorem TGAggregate.open_ {m : Mem} {x : GAggregate} {cs : List Value} (h : TGAggregate.R m x cs) : cs = [.int .i64 x.Kind, vstr x.Column.Var, vstr x.Column.Field, vstr x.Column.Key, .int .i64 x.Q.Num, .int .i64 x.Q.Den] := h

theorem TGAggregate.close_ {m : Mem} (x : GAggregate) : TGAggregate.R m x [.int .i64 x.Kind, vstr x.Column.Var, vstr x.Column.Field, vstr x.Column.Key, .int .i64 x.Q.Num, .int .i64 x.Q.Den] := rfl

structure GOrderKey where
  Index : Int
  Descending : Bool
  deriving DecidableEq

def TGOrderKey : Ty GOrderKey := { size := 2, R := fun m x cs => cs = [.int .i64 x.Index, .bool x.Descending], mono := fun hm h => (by exact h), len := fun h => (by subst h; rfl), one := fun h v hv => (by subst h; simp at hv; rcases hv with rfl | rfl <;> rfl) }

theorem TGOrderKey.open_ {m : Mem} {x : GOrderKey} {cs : List Value} (h : TGOrderKey.R m x cs) : cs = [.int .i64 x.Index, .bool x.Descending] := h

theorem TGOrderKey.close_ {m : Mem} (x : GOrderKey) : TGOrderKey.R m x [.int .i64 x.Index, .bool x.Descending] := rfl

structure GQuery where
  Variables : List GVariable
  Relations : List GRelation
  Absences : List GAbsence
  Slots : GInterval
  Group : List GColumn
  Compute : List GAggregate
  Order : List GOrderKey
  Limit : Int

def TGQuery : Ty GQuery := { size := 9, R := fun m x cs => ∃ v0, ∃ v1, ∃ v2, ∃ v3, ∃ v4, ∃ v5, cs = [v0, v1, v2, .int .i64 x.Slots.From, .int .i64 x.Slots.To, v3, v4, v5, .int .i64 x.Limit] ∧ RS (TGVariable) m v0 x.Variables ∧ RS (TGRelation) m v1 x.Relations ∧ RS (TGAbsence) m v2 x.Absences ∧ RS (TGColumn) m v3 x.Group ∧ RS (TGAggregate) m v4 x.Compute ∧ RS (TGOrderKey) m v5 x.Order, mono := fun hm h => (by obtain ⟨v0, v1, v2, v3, v4, v5, e, h0, h1, h2, h3, h4, h5⟩ := h; exact ⟨v0, v1, v2, v3, v4, v5, e, h0.mono hm, h1.mono hm, h2.mono hm, h3.mono hm, h4.mono hm, h5.mono hm⟩), len := fun h => (by obtain ⟨v0, v1, v2, v3, v4, v5, e, _, _, _, _, _, _⟩ := h; subst e; rfl), one := fun h v hv => (by obtain ⟨v0, v1, v2, v3, v4, v5, e, h0, h1, h2, h3, h4, h5⟩ := h; subst e; obtain ⟨_, _, rfl, _⟩ := h0; obtain ⟨_, _, rfl, _⟩ := h1; obtain ⟨_, _, rfl, _⟩ := h2; obtain ⟨_, _, rfl, _⟩ := h3; obtain ⟨_, _, rfl, _⟩ := h4; obtain ⟨_, _, rfl, _⟩ := h5; simp at hv; rcases hv with rfl | rfl | rfl | rfl | rfl | rfl | rfl | rfl | rfl <;> rfl) }

theorem TGQuery.open_ {m : Mem} {x : GQuery} {cs : List Value} (h : TGQuery.R m x cs) : ∃ v0, ∃ v1, ∃ v2, ∃ v3, ∃ v4, ∃ v5, cs = [v0, v1, v2, .int .i64 x.Slots.From, .int .i64 x.Slots.To, v3, v4, v5, .int .i64 x.Limit] ∧ RS (TGVariable) m v0 x.Variables ∧ RS (TGRelation) m v1 x.Relations ∧ RS (TGAbsence) m v2 x.Absences ∧ RS (TGColumn) m v3 x.Group ∧ RS (TGAggregate) m v4 x.Compute ∧ RS (TGOrderKey) m v5 x.Order := h

theorem TGQuery.close_ {m : Mem} (x : GQuery) {v0 : Value} {v1 : Value} {v2 : Value} {v3 : Value} {v4 : Value} {v5 : Value} (h0 : RS (TGVariable) m v0 x.Variables) (h1 : RS (TGRelation) m v1 x.Relations) (h2 : RS (TGAbsence) m v2 x.Absences) (h3 : RS (TGColumn) m v3 x.Group) (h4 : RS (TGAggregate) m v4 x.Compute) (h5 : RS (TGOrderKey) m v5 x.Order) : TGQuery.R m x [v0, v1, v2, .int .i64 x.Slots.From, .int .i64 x.Slots.To, v3, v4, v5, .int .i64 x.Limit] := ⟨v0, v1, v2, v3, v4, v5, rfl, h0, h1, h2, h3, h4, h5⟩

structure A2_5 where
  a0 : Int
  a1 : Int
  deriving DecidableEq

def TA2_5 : Ty A2_5 := { size := 2, R := fun m x cs => cs = [.int .u8 x.a0, .int .u8 x.a1], mono := fun hm h => (by exact h), len := fun h => (by subst h; rfl), one := fun h v hv => (by subst h; simp at hv; rcases hv with rfl | rfl <;> rfl) }

theorem TA2_5.open_ {m : Mem} {x : A2_5} {cs : List Value} (h : TA2_5.R m x cs) : cs = [.int .u8 x.a0, .int .u8 x.a1] := h

theorem TA2_5.close_ {m : Mem} (x : A2_5) : TA2_5.R m x [.int .u8 x.a0, .int .u8 x.a1] := rfl

structure A3_5 where
  a0 : Int
  a1 : Int
  a2 : Int
  deriving DecidableEq

def TA3_5 : Ty A3_5 := { size := 3, R := fun m x cs => cs = [.int .u8 x.a0, .int .u8 x.a1, .int .u8 x.a2], mono := fun hm h => (by exact h), len := fun h => (by subst h; rfl), one := fun h v hv => (by subst h; simp at hv; rcases hv with rfl | rfl | rfl <;> rfl) }

theorem TA3_5.open_ {m : Mem} {x : A3_5} {cs : List Value} (h : TA3_5.R m x cs) : cs = [.int .u8 x.a0, .int .u8 x.a1, .int .u8 x.a2] := h

theorem TA3_5.close_ {m : Mem} (x : A3_5) : TA3_5.R m x [.int .u8 x.a0, .int .u8 x.a1, .int .u8 x.a2] := rfl

structure LAbsent where
  Name : Int
  Kind : Int
  Other : Int
  Where : List Int
  First : Bool

def TLAbsent : Ty LAbsent := { size := 5, R := fun m x cs => ∃ v0, cs = [.int .u8 x.Name, .int .u8 x.Kind, .int .u8 x.Other, v0, .bool x.First] ∧ RS (TInt .u8) m v0 x.Where, mono := fun hm h => (by obtain ⟨v0, e, h0⟩ := h; exact ⟨v0, e, h0.mono hm⟩), len := fun h => (by obtain ⟨v0, e, _⟩ := h; subst e; rfl), one := fun h v hv => (by obtain ⟨v0, e, h0⟩ := h; subst e; obtain ⟨_, _, rfl, _⟩ := h0; simp at hv; rcases hv with rfl | rfl | rfl | rfl | rfl <;> rfl) }

theorem TLAbsent.open_ {m : Mem} {x : LAbsent} {cs : List Value} (h : TLAbsent.R m x cs) : ∃ v0, cs = [.int .u8 x.Name, .int .u8 x.Kind, .int .u8 x.Other, v0, .bool x.First] ∧ RS (TInt .u8) m v0 x.Where := h

theorem TLAbsent.close_ {m : Mem} (x : LAbsent) {v0 : Value} (h0 : RS (TInt .u8) m v0 x.Where) : TLAbsent.R m x [.int .u8 x.Name, .int .u8 x.Kind, .int .u8 x.Other, v0, .bool x.First] := ⟨v0, rfl, h0⟩

structure A4_5 where
  a0 : Int
  a1 : Int
  a2 : Int
  a3 : Int
  deriving DecidableEq

def TA4_5 : Ty A4_5 := { size := 4, R := fun m x cs => cs = [.int .u8 x.a0, .int .u8 x.a1, .int .u8 x.a2, .int .u8 x.a3], mono := fun hm h => (by exact h), len := fun h => (by subst h; rfl), one := fun h v hv => (by subst h; simp at hv; rcases hv with rfl | rfl | rfl | rfl <;> rfl) }

theorem TA4_5.open_ {m : Mem} {x : A4_5} {cs : List Value} (h : TA4_5.R m x cs) : cs = [.int .u8 x.a0, .int .u8 x.a1, .int .u8 x.a2, .int .u8 x.a3] := h

theorem TA4_5.close_ {m : Mem} (x : A4_5) : TA4_5.R m x [.int .u8 x.a0, .int .u8 x.a1, .int .u8 x.a2, .int .u8 x.a3] := rfl

structure LPlan where
  Where : List (List Int)
  Relations : List A3_5
  Absences : List LAbsent
  Slots : A2_5
  Group : List A3_5
  Compute : List A4_5
  Order : List A2_5
  Limit : Int
  Wrong : Int

def TLPlan : Ty LPlan := { size := 10, R := fun m x cs => ∃ v0, ∃ v1, ∃ v2, ∃ v3, ∃ v4, ∃ v5, cs = [v0, v1, v2, .int .u8 x.Slots.a0, .int .u8 x.Slots.a1, v3, v4, v5, .int .u8 x.Limit, .int .u8 x.Wrong] ∧ RS (TSl (TInt .u8)) m v0 x.Where ∧ RS (TA3_5) m v1 x.Relations ∧ RS (TLAbsent) m v2 x.Absences ∧ RS (TA3_5) m v3 x.Group ∧ RS (TA4_5) m v4 x.Compute ∧ RS (TA2_5) m v5 x.Order, mono := fun hm h => (by obtain ⟨v0, v1, v2, v3, v4, v5, e, h0, h1, h2, h3, h4, h5⟩ := h; exact ⟨v0, v1, v2, v3, v4, v5, e, h0.mono hm, h1.mono hm, h2.mono hm, h3.mono hm, h4.mono hm, h5.mono hm⟩), len := fun h => (by obtain ⟨v0, v1, v2, v3, v4, v5, e, _, _, _, _, _, _⟩ := h; subst e; rfl), one := fun h v hv => (by obtain ⟨v0, v1, v2, v3, v4, v5, e, h0, h1, h2, h3, h4, h5⟩ := h; subst e; obtain ⟨_, _, rfl, _⟩ := h0; obtain ⟨_, _, rfl, _⟩ := h1; obtain ⟨_, _, rfl, _⟩ := h2; obtain ⟨_, _, rfl, _⟩ := h3; obtain ⟨_, _, rfl, _⟩ := h4; obtain ⟨_, _, rfl, _⟩ := h5; simp at hv; rcases hv with rfl | rfl | rfl | rfl | rfl | rfl | rfl | rfl | rfl | rfl <;> rfl) }

theorem TLPlan.open_ {m : Mem} {x : LPlan} {cs : List Value} (h : TLPlan.R m x cs) : ∃ v0, ∃ v1, ∃ v2, ∃ v3, ∃ v4, ∃ v5, cs = [v0, v1, v2, .int .u8 x.Slots.a0, .int .u8 x.Slots.a1, v3, v4, v5, .int .u8 x.Limit, .int .u8 x.Wrong] ∧ RS (TSl (TInt .u8)) m v0 x.Where ∧ RS (TA3_5) m v1 x.Relations ∧ RS (TLAbsent) m v2 x.Absences ∧ RS (TA3_5) m v3 x.Group ∧ RS (TA4_5) m v4 x.Compute ∧ RS (TA2_5) m v5 x.Order := h

theorem TLPlan.close_ {m : Mem} (x : LPlan) {v0 : Value} {v1 : Value} {v2 : Value} {v3 : Value} {v4 : Value} {v5 : Value} (h0 : RS (TSl (TInt .u8)) m v0 x.Where) (h1 : RS (TA3_5) m v1 x.Relations) (h2 : RS (TLAbsent) m v2 x.Absences) (h3 : RS (TA3_5) m v3 x.Group) (h4 : RS (TA4_5) m v4 x.Compute) (h5 : RS (TA2_5) m v5 x.Order) : TLPlan.R m x [v0, v1, v2, .int .u8 x.Slots.a0, .int .u8 x.Slots.a1, v3, v4, v5, .int .u8 x.Limit, .int .u8 x.Wrong] := ⟨v0, v1, v2, v3, v4, v5, rfl, h0, h1, h2, h3, h4, h5⟩

structure A4_59 where
  a0 : Int
  a1 : Int
  a2 : Int
  a3 : Int
  deriving DecidableEq

def TA4_59 : Ty A4_59 := { size := 4, R := fun m x cs => cs = [.int .u16 x.a0, .int .u16 x.a1, .int .u16 x.a2, .int .u16 x.a3], mono := fun hm h => (by exact h), len := fun h => (by subst h; rfl), one := fun h v hv => (by subst h; simp at hv; rcases hv with rfl | rfl | rfl | rfl <;> rfl) }

theorem TA4_59.open_ {m : Mem} {x : A4_59} {cs : List Value} (h : TA4_59.R m x cs) : cs = [.int .u16 x.a0, .int .u16 x.a1, .int .u16 x.a2, .int .u16 x.a3] := h

theorem TA4_59.close_ {m : Mem} (x : A4_59) : TA4_59.R m x [.int .u16 x.a0, .int .u16 x.a1, .int .u16 x.a2, .int .u16 x.a3] := rfl

structure LToken where
  kind : Int
  text : Str
  n_ : Int
  at_ : Int
  e_ : Int
  deriving DecidableEq

def TLToken : Ty LToken := { size := 5, R := fun m x cs => cs = [.int .i64 x.kind, vstr x.text, .int .i64 x.n_, .int .i64 x.at_, .int .i64 x.e_], mono := fun hm h => (by exact h), len := fun h => (by subst h; rfl), one := fun h v hv => (by subst h; simp at hv; rcases hv with rfl | rfl | rfl | rfl | rfl <;> rfl) }

theorem TLToken.open_ {m : Mem} {x : LToken} {cs : List Value} (h : TLToken.R m x cs) : cs = [.int .i64 x.kind, vstr x.text, .int .i64 x.n_, .int .i64 x.at_, .int .i64 x.e_] := h

theorem TLToken.close_ {m : Mem} (x : LToken) : TLToken.R m x [.int .i64 x.kind, vstr x.text, .int .i64 x.n_, .int .i64 x.at_, .int .i64 x.e_] := rfl

structure SFailure where
  at_ : Int
  e_ : Int
  deriving DecidableEq

def TSFailure : Ty SFailure := { size := 2, R := fun m x cs => cs = [.int .i64 x.at_, .int .i64 x.e_], mono := fun hm h => (by exact h), len := fun h => (by subst h; rfl), one := fun h v hv => (by subst h; simp at hv; rcases hv with rfl | rfl <;> rfl) }

theorem TSFailure.open_ {m : Mem} {x : SFailure} {cs : List Value} (h : TSFailure.R m x cs) : cs = [.int .i64 x.at_, .int .i64 x.e_] := h

theorem TSFailure.close_ {m : Mem} (x : SFailure) : TSFailure.R m x [.int .i64 x.at_, .int .i64 x.e_] := rfl

structure LReader where
  l_ : List LToken
  i_ : Int
  at_ : Int
  e_ : Int

def TLReader : Ty LReader := { size := 4, R := fun m x cs => ∃ v0, cs = [v0, .int .i64 x.i_, .int .i64 x.at_, .int .i64 x.e_] ∧ RS (TLToken) m v0 x.l_, mono := fun hm h => (by obtain ⟨v0, e, h0⟩ := h; exact ⟨v0, e, h0.mono hm⟩), len := fun h => (by obtain ⟨v0, e, _⟩ := h; subst e; rfl), one := fun h v hv => (by obtain ⟨v0, e, h0⟩ := h; subst e; obtain ⟨_, _, rfl, _⟩ := h0; simp at hv; rcases hv with rfl | rfl | rfl | rfl <;> rfl) }

theorem TLReader.open_ {m : Mem} {x : LReader} {cs : List Value} (h : TLReader.R m x cs) : ∃ v0, cs = [v0, .int .i64 x.i_, .int .i64 x.at_, .int .i64 x.e_] ∧ RS (TLToken) m v0 x.l_ := h

theorem TLReader.close_ {m : Mem} (x : LReader) {v0 : Value} (h0 : RS (TLToken) m v0 x.l_) : TLReader.R m x [v0, .int .i64 x.i_, .int .i64 x.at_, .int .i64 x.e_] := ⟨v0, rfl, h0⟩

structure SToken where
  kind : Int
  at_ : Int
  s_ : Str
  n_ : Int
  deriving DecidableEq

def TSToken : Ty SToken := { size := 4, R := fun m x cs => cs = [.int .i64 x.kind, .int .i64 x.at_, vstr x.s_, .int .i64 x.n_], mono := fun hm h => (by exact h), len := fun h => (by subst h; rfl), one := fun h v hv => (by subst h; simp at hv; rcases hv with rfl | rfl | rfl | rfl <;> rfl) }

theorem TSToken.open_ {m : Mem} {x : SToken} {cs : List Value} (h : TSToken.R m x cs) : cs = [.int .i64 x.kind, .int .i64 x.at_, vstr x.s_, .int .i64 x.n_] := h

theorem TSToken.close_ {m : Mem} (x : SToken) : TSToken.R m x [.int .i64 x.kind, .int .i64 x.at_, vstr x.s_, .int .i64 x.n_] := rfl

structure SWriter where
  out : List Int
  last : SToken

def TSWriter : Ty SWriter := { size := 5, R := fun m x cs => ∃ v0, cs = [v0, .int .i64 x.last.kind, .int .i64 x.last.at_, vstr x.last.s_, .int .i64 x.last.n_] ∧ RS (TInt .u8) m v0 x.out, mono := fun hm h => (by obtain ⟨v0, e, h0⟩ := h; exact ⟨v0, e, h0.mono hm⟩), len := fun h => (by obtain ⟨v0, e, _⟩ := h; subst e; rfl), one := fun h v hv => (by obtain ⟨v0, e, h0⟩ := h; subst e; obtain ⟨_, _, rfl, _⟩ := h0; simp at hv; rcases hv with rfl | rfl | rfl | rfl | rfl <;> rfl) }

theorem TSWriter.open_ {m : Mem} {x : SWriter} {cs : List Value} (h : TSWriter.R m x cs) : ∃ v0, cs = [v0, .int .i64 x.last.kind, .int .i64 x.last.at_, vstr x.last.s_, .int .i64 x.last.n_] ∧ RS (TInt .u8) m v0 x.out := h

theorem TSWriter.close_ {m : Mem} (x : SWriter) {v0 : Value} (h0 : RS (TInt .u8) m v0 x.out) : TSWriter.R m x [v0, .int .i64 x.last.kind, .int .i64 x.last.at_, vstr x.last.s_, .int .i64 x.last.n_] := ⟨v0, rfl, h0⟩

structure SLexer where
  s_ : Str
  at_ : Int
  deriving DecidableEq

def TSLexer : Ty SLexer := { size := 2, R := fun m x cs => cs = [vstr x.s_, .int .i64 x.at_], mono := fun hm h => (by exact h), len := fun h => (by subst h; rfl), one := fun h v hv => (by subst h; simp at hv; rcases hv with rfl | rfl <;> rfl) }

theorem TSLexer.open_ {m : Mem} {x : SLexer} {cs : List Value} (h : TSLexer.R m x cs) : cs = [vstr x.s_, .int .i64 x.at_] := h

theorem TSLexer.close_ {m : Mem} (x : SLexer) : TSLexer.R m x [vstr x.s_, .int .i64 x.at_] := rfl

structure SParser where
  x_ : SLexer
  t_ : SToken
  deriving DecidableEq

def TSParser : Ty SParser := { size := 6, R := fun m x cs => cs = [vstr x.x_.s_, .int .i64 x.x_.at_, .int .i64 x.t_.kind, .int .i64 x.t_.at_, vstr x.t_.s_, .int .i64 x.t_.n_], mono := fun hm h => (by exact h), len := fun h => (by subst h; rfl), one := fun h v hv => (by subst h; simp at hv; rcases hv with rfl | rfl | rfl | rfl | rfl | rfl <;> rfl) }

theorem TSParser.open_ {m : Mem} {x : SParser} {cs : List Value} (h : TSParser.R m x cs) : cs = [vstr x.x_.s_, .int .i64 x.x_.at_, .int .i64 x.t_.kind, .int .i64 x.t_.at_, vstr x.t_.s_, .int .i64 x.t_.n_] := h

theorem TSParser.close_ {m : Mem} (x : SParser) : TSParser.R m x [vstr x.x_.s_, .int .i64 x.x_.at_, .int .i64 x.t_.kind, .int .i64 x.t_.at_, vstr x.t_.s_, .int .i64 x.t_.n_] := rfl

structure A3_9 where
  a0 : Str
  a1 : Str
  a2 : Str
  deriving DecidableEq

def TA3_9 : Ty A3_9 := { size := 3, R := fun m x cs => cs = [vstr x.a0, vstr x.a1, vstr x.a2], mono := fun hm h => (by exact h), len := fun h => (by subst h; rfl), one := fun h v hv => (by subst h; simp at hv; rcases hv with rfl | rfl | rfl <;> rfl) }

theorem TA3_9.open_ {m : Mem} {x : A3_9} {cs : List Value} (h : TA3_9.R m x cs) : cs = [vstr x.a0, vstr x.a1, vstr x.a2] := h

theorem TA3_9.close_ {m : Mem} (x : A3_9) : TA3_9.R m x [vstr x.a0, vstr x.a1, vstr x.a2] := rfl

structure A2_9 where
  a0 : Str
  a1 : Str
  deriving DecidableEq

def TA2_9 : Ty A2_9 := { size := 2, R := fun m x cs => cs = [vstr x.a0, vstr x.a1], mono := fun hm h => (by exact h), len := fun h => (by subst h; rfl), one := fun h v hv => (by subst h; simp at hv; rcases hv with rfl | rfl <;> rfl) }

theorem TA2_9.open_ {m : Mem} {x : A2_9} {cs : List Value} (h : TA2_9.R m x cs) : cs = [vstr x.a0, vstr x.a1] := h

theorem TA2_9.close_ {m : Mem} (x : A2_9) : TA2_9.R m x [vstr x.a0, vstr x.a1] := rfl

end Go.Proofs.YtfnaahkgegfbnaaGreatDoor
