/- True whatever is drawn. Conditions: none. -/
import Derived.Test.YtjgnolohppnbbaaAnySg
namespace Go.Proofs.Ytjgnolohppnbbaa.PSg
open Go.Proofs.YtjgnolohppnbbaaW
open Go.RowKit Go.Proofs.YtjgnolohppnbbaaW.PrintWords Go.Proofs.YtjgnolohppnbbaaW.PrintLast Go.Proofs.YtjgnolohppnbbaaW.PrintMore
attribute [local go_sem] max2_int min2_int max_two min_two max_three min_three max_four min_four   -- for this text's walks alone
set_option linter.unusedVariables false
set_option linter.unusedSimpArgs false
open F64
open Classical in
/-- True whatever is drawn. -/
noncomputable def anyO {α : Type} (p : Prop) (g : α → Option Bool) : Option Bool := if p ∧ ∀ a, g a = some true then some true else none
theorem anyO_out {α : Type} {l : List Int} {g : α → Option Bool} {r : Bool} (h : anyO (l.length ≤ 1048576 ∧ Byt l) g = some r) : r = true ∧ l.length ≤ 1048576 ∧ Byt l ∧ ∀ a, g a = some true := by
  unfold anyO at h
  split at h
  · rename_i hc; exact ⟨(Option.some.inj h).symm, hc.1.1, hc.1.2, hc.2⟩
  · cases h
theorem anyO_in {α : Type} {p : Prop} {g : α → Option Bool} (hp : p) (h : ∀ a, g a = some true) : anyO p g = some true := if_pos ⟨hp, h⟩
end Go.Proofs.Ytjgnolohppnbbaa.PSg
