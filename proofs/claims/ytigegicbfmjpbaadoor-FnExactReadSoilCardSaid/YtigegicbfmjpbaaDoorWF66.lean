/- Binary floating point by rungs: whole numbers made of floats. Conditions: none. -/
import Derived.Test.YtigegicbfmjpbaaDoorWF65
set_option maxRecDepth 100000
set_option exponentiation.threshold 2000
set_option linter.unusedVariables false
namespace Go.Proofs.YtigegicbfmjpbaaDoorW
namespace F64
open Ieee

end F64
end Go.Proofs.YtigegicbfmjpbaaDoorW
