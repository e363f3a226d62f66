-- Printed by a program of this session's own (wip/print), out of the translation. Lean checks it.
import Derived.Test.YtigegicbfmjpbaaDoorProg
import Derived.Test.YtigegicbfmjpbaaDoorWF66
import Derived.Below
import Derived.Deep.Draws
import Derived.Deep.AppendLies
import Derived.Maps.AppendAt
import Derived.OwnWalk
import Derived.Laws.BytesArg
import Derived.Laws.MakeOwn
import Derived.Laws.OwnMore
import Derived.Deep.OwnRows
import Derived.Tactics
import Derived.Lib.ConvBytes
import Derived.Laws.Slices
import Derived.WalkKit
import Derived.KernelRfl
import Derived.RowKit3
import Derived.Deep.LoopGhost
import Derived.Deep.QuietTactic
import Derived.BigQuiet
import Derived.WideLaws
import Derived.Deep.DeepCutAuto
import Derived.Deep.CutBlock
import Derived.Deep.RegionHeld3
import Derived.Laws.Rows
import Derived.Lib.AppendStr
import Derived.ArgAppend
import Derived.Laws.IdiomCopy
import Derived.OrdersHeld
import Derived.Laws.BitsLemmas
import Derived.RowKit
import Derived.Test.YtigegicbfmjpbaaDoorWWords
import Derived.Test.YtigegicbfmjpbaaDoorWLast
import Derived.Test.YtigegicbfmjpbaaDoorWTab
import Derived.Test.YtigegicbfmjpbaaDoorWFour
import Derived.Test.YtigegicbfmjpbaaDoorWQPut
import Derived.Test.YtigegicbfmjpbaaDoorWApart
import Derived.Test.YtigegicbfmjpbaaDoorWArr
import Derived.Test.YtigegicbfmjpbaaDoorWZeros
import Derived.Test.YtigegicbfmjpbaaDoorWFoot
import Derived.Test.YtigegicbfmjpbaaDoorWKept
import Derived.Test.YtigegicbfmjpbaaDoorWShare
import Derived.Test.YtigegicbfmjpbaaDoorWN
import Derived.Test.YtigegicbfmjpbaaDoorWFootNe
import Derived.Test.YtigegicbfmjpbaaDoorWAt
import Derived.Test.YtigegicbfmjpbaaDoorWEqStruct
import Derived.Test.YtigegicbfmjpbaaDoorWRepsOne
import Derived.Test.YtigegicbfmjpbaaDoorWInv
import Derived.Test.YtigegicbfmjpbaaDoorWInvWords
import Derived.Test.YtigegicbfmjpbaaDoorWGuard
import Derived.Test.YtigegicbfmjpbaaDoorWNEv
import Derived.Test.YtigegicbfmjpbaaDoorWMore
import Derived.Test.YtigegicbfmjpbaaDoorWFloat
import Derived.Test.YtigegicbfmjpbaaDoorWF64
namespace Go.Proofs.YtigegicbfmjpbaaDoor.PSo
open Go.Proofs.YtigegicbfmjpbaaDoorW
open Go.RowKit Go.Proofs.YtigegicbfmjpbaaDoorW.PrintWords Go.Proofs.YtigegicbfmjpbaaDoorW.PrintLast Go.Proofs.YtigegicbfmjpbaaDoorW.PrintMore
attribute [local go_sem] max2_int min2_int max_two min_two max_three min_three max_four min_four   -- for this text's walks alone
set_option linter.unusedVariables false
set_option linter.unusedSimpArgs false



def errW : Option Int → Value
  | none => .nilIface
  | some c => .iface 0 (.int .i64 c)
theorem errW_none : errW none = .nilIface := rfl
theorem errW_some (c : Int) : errW (some c) = .iface 0 (.int .i64 c) := rfl

theorem am_ {p : Prop} (h : p) : Aside0 p := ⟨h⟩
abbrev T_ : Bool := true
abbrev F_ : Bool := false
theorem sa_ {α : Type} (l : List α) (i : Nat) (a : α) : l.toArray.setIfInBounds i a = (l.set i a).toArray := List.setIfInBounds_toArray l i a
theorem sb_ {α : Type} {x : α} {xs : List α} {a : α} : (x :: xs).set 0 a = a :: xs := List.set_cons_zero
theorem sc_ {α : Type} {x : α} {xs : List α} {i : Nat} {a : α} : (x :: xs).set (i + 1) a = x :: xs.set i a := List.set_cons_succ
theorem info2 : (Tryd.prog.info? 2).map (fun i => (i.zero, i.size, i.bytes)) = some (some (.int .i64 0), 1, 8) := by kernel_rfl
theorem info5 : (Tryd.prog.info? 5).map (fun i => (i.zero, i.size, i.bytes)) = some (some (.int .u8 0), 1, 1) := by kernel_rfl
theorem info9 : (Tryd.prog.info? 9).map (fun i => (i.zero, i.size, i.bytes)) = some (some (.string ⟨#[]⟩), 1, 16) := by kernel_rfl
-- the values' own types

end Go.Proofs.YtigegicbfmjpbaaDoor.PSo
