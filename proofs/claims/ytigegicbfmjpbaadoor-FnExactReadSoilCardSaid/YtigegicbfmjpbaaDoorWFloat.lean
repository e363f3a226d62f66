/- Floats as a kind beside whole numbers: a float64 is told by its bits (a natural number). Conditions: none. -/
import Derived.Test.YtigegicbfmjpbaaDoorWWords
import Derived.Test.YtigegicbfmjpbaaDoorWFoot
import Derived.Test.YtigegicbfmjpbaaDoorWMore
import Derived.Laws.FloatBits
set_option linter.unusedVariables false
namespace Go

/-- A sum, a difference, a product, a quotient of two float64: is it valid (no NaN comes of it)? -/
def fres (op : BinOp) (x y : Nat) : Option Nat :=
  match op with
  | .add => FloatKind.f64.format.add x y
  | .sub => FloatKind.f64.format.sub x y
  | .mul => FloatKind.f64.format.mul x y
  | .quo => FloatKind.f64.format.div x y
  | _ => none
def fok (op : BinOp) (x y : Nat) : Bool := (fres op x y).isSome
def fop (op : BinOp) (x y : Nat) : Nat := (fres op x y).getD 0
def feq (x y : Nat) : Bool := FloatKind.f64.format.order x y == some .eq
def fne (x y : Nat) : Bool := FloatKind.f64.format.order x y != some .eq
def flt (x y : Nat) : Bool := FloatKind.f64.format.order x y == some .lt
def fle (x y : Nat) : Bool := FloatKind.f64.format.order x y == some .lt || FloatKind.f64.format.order x y == some .eq
def fgt (x y : Nat) : Bool := FloatKind.f64.format.order x y == some .gt
def fge (x y : Nat) : Bool := FloatKind.f64.format.order x y == some .gt || FloatKind.f64.format.order x y == some .eq
def fneg (x : Nat) : Nat := Op.negFloat .f64 x
/-- 'float64(n)'. -/
def fofi (n : Int) : Nat := FloatKind.f64.nearest n
/-- 'int64(x)' and its kin: is there one? -/
def fires (k : IntKind) (x : Nat) : Option Int :=
  match (FloatKind.f64.decode x).toInt .zero with
  | some n => if k.min ≤ n ∧ n ≤ k.max then some n else none
  | none => none
def fiok (k : IntKind) (x : Nat) : Bool := (fires k x).isSome
def fint (k : IntKind) (x : Nat) : Int := (fires k x).getD 0

theorem fres_of {op : BinOp} {x y : Nat} (h : fok op x y = true) : fres op x y = some (fop op x y) := by
  unfold fok at h
  unfold fop
  cases hr : fres op x y with
  | none => rw [hr] at h; cases h
  | some r => rfl

@[go_sem] theorem binOp_feq (t : TypeId) (a b : Nat) : binOp .eql t (.float .f64 a) (.float .f64 b) = pure (.bool (feq a b)) := by simp [binOp, Op.floatCmp, feq]
@[go_sem] theorem binOp_fne (t : TypeId) (a b : Nat) : binOp .neq t (.float .f64 a) (.float .f64 b) = pure (.bool (fne a b)) := by simp [binOp, Op.floatCmp, fne]
@[go_sem] theorem binOp_flt (t : TypeId) (a b : Nat) : binOp .lss t (.float .f64 a) (.float .f64 b) = pure (.bool (flt a b)) := by simp [binOp, Op.floatCmp, flt]
@[go_sem] theorem binOp_fle (t : TypeId) (a b : Nat) : binOp .leq t (.float .f64 a) (.float .f64 b) = pure (.bool (fle a b)) := by simp [binOp, Op.floatCmp, fle]
@[go_sem] theorem binOp_fgt (t : TypeId) (a b : Nat) : binOp .gtr t (.float .f64 a) (.float .f64 b) = pure (.bool (fgt a b)) := by simp [binOp, Op.floatCmp, fgt]
@[go_sem] theorem binOp_fge (t : TypeId) (a b : Nat) : binOp .geq t (.float .f64 a) (.float .f64 b) = pure (.bool (fge a b)) := by simp [binOp, Op.floatCmp, fge]
@[go_sem] theorem unary_fneg (b : Nat) : Op.unary .neg (.float .f64 b) = pure (.float .f64 (fneg b)) := rfl

section
variable {P : Program} (w : World)
theorem run_fop_all (op : BinOp) (t : TypeId) (x y : Nat) (h : fok op x y = true) : (binOp op t (.float .f64 x) (.float .f64 y)).run P w = .ok (.float .f64 (fop op x y)) w := by
  have hr := fres_of h
  unfold fres at hr
  cases op <;> simp only at hr <;> first | (cases hr; done) | skip
  all_goals simp [binOp, Op.floatArith, hr]
@[go_sem] theorem run_fadd (t : TypeId) (x y : Nat) (h : fok .add x y = true) : (binOp .add t (.float .f64 x) (.float .f64 y)).run P w = .ok (.float .f64 (fop .add x y)) w := run_fop_all w .add t x y h
@[go_sem] theorem run_fsub (t : TypeId) (x y : Nat) (h : fok .sub x y = true) : (binOp .sub t (.float .f64 x) (.float .f64 y)).run P w = .ok (.float .f64 (fop .sub x y)) w := run_fop_all w .sub t x y h
@[go_sem] theorem run_fmul (t : TypeId) (x y : Nat) (h : fok .mul x y = true) : (binOp .mul t (.float .f64 x) (.float .f64 y)).run P w = .ok (.float .f64 (fop .mul x y)) w := run_fop_all w .mul t x y h
@[go_sem] theorem run_fquo (t : TypeId) (x y : Nat) (h : fok .quo x y = true) : (binOp .quo t (.float .f64 x) (.float .f64 y)).run P w = .ok (.float .f64 (fop .quo x y)) w := run_fop_all w .quo t x y h
@[go_sem] theorem run_fofi (src dst : TypeId) (q : IntKind) (n : Int) (hs : (P.underlying src).isSome = true) (hd : P.underlying dst = some (.float .f64)) :
    (convert src dst (.int q n)).run P w = .ok (.float .f64 (fofi n)) w := by
  obtain ⟨s, hs'⟩ := Option.isSome_iff_exists.1 hs
  cases s <;> simp [convert, run_underlying hs', run_underlying hd, Conv.intToFloat, fofi]
theorem run_fint (src dst : TypeId) (k : IntKind) (b : Nat) (h : fiok k b = true) (hs : (P.underlying src).isSome = true) (hd : P.underlying dst = some (.int k)) :
    (convert src dst (.float .f64 b)).run P w = .ok (.int k (fint k b)) w := by
  obtain ⟨u, hs'⟩ := Option.isSome_iff_exists.1 hs
  have hr : fires k b = some (fint k b) := by
    unfold fiok at h
    unfold fint
    cases hr : fires k b with
    | none => rw [hr] at h; cases h
    | some r => rfl
  generalize fint k b = n at hr ⊢
  unfold fires at hr
  split at hr
  · rename_i m he
    split at hr
    · rename_i hb
      cases hr
      cases u <;> simp [convert, run_underlying hs', run_underlying hd, Conv.floatToInt, he, hb.1, hb.2]
    · cases hr
  · cases hr
@[go_sem] theorem run_fint_i64 (src dst : TypeId) (b : Nat) (h : fiok .i64 b = true) (hs : (P.underlying src).isSome = true) (hd : P.underlying dst = some (.int .i64)) :
    (convert src dst (.float .f64 b)).run P w = .ok (.int .i64 (fint .i64 b)) w := run_fint w src dst .i64 b h hs hd
@[go_sem] theorem run_store_f64 (a : Addr) (b : Nat) (m : Mode) : (store a (.float .f64 b) m).run P w = stored P w a (.float .f64 b) m := run_store P w a _ m rfl
end
end Go
namespace Go.Proofs.YtigegicbfmjpbaaDoorW.PrintWords.Kd
open Go.Proofs.YtigegicbfmjpbaaDoorW.PrintWords
def f64 : Kd Nat := scalar (Value.float .f64) (fun _ => rfl)
end Go.Proofs.YtigegicbfmjpbaaDoorW.PrintWords.Kd
