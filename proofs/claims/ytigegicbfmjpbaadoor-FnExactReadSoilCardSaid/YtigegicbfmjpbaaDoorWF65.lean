/- Binary floating point by rungs, further: products, quotients, whole numbers made floats. Conditions: none. -/
import Derived.Test.YtigegicbfmjpbaaDoorWF64
set_option maxRecDepth 100000
set_option exponentiation.threshold 2000
set_option linter.unusedVariables false
namespace Go.Proofs.YtigegicbfmjpbaaDoorW
namespace F64
open Ieee

/-! Bounds by whole binades: rung x ≤ c * 2^52. -/
end F64
end Go.Proofs.YtigegicbfmjpbaaDoorW
