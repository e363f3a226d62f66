/- Binary floating point by rungs: order, rounding, exactness, over the model's own words (Ieee). Conditions: none. -/
import Derived.Test.YtigegicbfmjpbaaDoorWFloat
set_option maxRecDepth 100000
set_option linter.unusedVariables false
namespace Go.Proofs.YtigegicbfmjpbaaDoorW
namespace F64
open Ieee

/-- The rung of a word. -/
def rung (w : Nat) : Nat := w % 9223372036854775808
def INF : Nat := 9218868437227405312
def IsNaN (w : Nat) : Prop := INF < rung w
def Fin (w : Nat) : Prop := rung w < INF
end F64
namespace F64
open Ieee

/-! Rounding to a rung: of a whole number u of least places. -/
/-- u / d to the nearest whole number, ties to even. -/
def rne (u d : Nat) : Nat := u / d + (if d < 2 * (u % d) ∨ (d = 2 * (u % d) ∧ u / d % 2 = 1) then 1 else 0)

/-- The rung of u least places, rounded. k: how many binary digits are dropped. -/
def dropOf (u : Nat) : Nat := u.log2 - 52
def rungOf (u : Nat) : Nat := min (dropOf u * 4503599627370496 + rne u (2 ^ dropOf u)) INF

end F64
namespace F64
open Ieee

/-- The key of the word nearest to v least places. -/
def K (v : Int) : Int := if v < 0 then -(rungOf v.natAbs : Int) else rungOf v.natAbs

end F64
namespace F64
open Ieee Go
instance (x : Nat) : Decidable (Fin x) := by unfold Fin; exact inferInstance
instance (x : Nat) : Decidable (IsNaN x) := by unfold IsNaN; exact inferInstance
section
variable {x y : Nat} (hx : ¬ IsNaN x) (hy : ¬ IsNaN y)
include hx hy
end
end F64
end Go.Proofs.YtigegicbfmjpbaaDoorW
