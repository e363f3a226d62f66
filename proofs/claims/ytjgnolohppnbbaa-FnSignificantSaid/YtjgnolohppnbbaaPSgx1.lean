-- Printed by a program of this session's own (wip/print), out of the translation. Lean checks it.
import Derived.Test.YtjgnolohppnbbaaPSgx0
namespace Go.Proofs.Ytjgnolohppnbbaa.PSg
open Go.Proofs.YtjgnolohppnbbaaW
open Go.RowKit Go.Proofs.YtjgnolohppnbbaaW.PrintWords Go.Proofs.YtjgnolohppnbbaaW.PrintLast Go.Proofs.YtjgnolohppnbbaaW.PrintMore
attribute [local go_sem] max2_int min2_int max_two min_two max_three min_three max_four min_four   -- for this text's walks alone
set_option linter.unusedVariables false
set_option linter.unusedSimpArgs false

/-! ### spec_Known: function 20 (given by hand) -/
def spec_Known.f (a0 : Nat) : Option (Bool) := some (F64.ffin a0)
theorem spec_Known.calls (a0 : Nat) (r : Bool) (w : World) (h : spec_Known.f a0 = some r) :
    Calls Try.prog 20 #[.float .f64 a0] w fun e w' => e = .returned (.bool r) ∧ Drawn0 w w' := by
  obtain rfl := Option.some.inj h
  clear h
  by_cases hf : F64.Fin a0
  · have c : fok .sub a0 a0 = true := by rw [F64.fok_sub_self]; exact decide_eq_true hf
    have hfin : feq (fop .sub a0 a0) 0 = F64.ffin a0 := by rw [F64.fop_sub_self hf, show F64.ffin a0 = true from decide_eq_true hf]; decide
    have HF := Aside0.mk hfin
    clear hfin hf
    go_enter Try.func20, Try.ntmps20
    go_wp2
    go_ret
    exact ⟨by rw [HF.out]; rfl, Drawn0.refl _⟩
  · have c : fok .sub a0 a0 = false := by rw [F64.fok_sub_self]; exact decide_eq_false hf
    obtain ⟨b, hb, _, hrun⟩ := run_fop_nan (P := Try.prog) w .sub (.inr (.inl rfl)) 23 a0 a0 c
    have hfin : feq b 0 = F64.ffin a0 := by rw [F64.feq_nan (.inl (F64.nan_of hb)), show F64.ffin a0 = false from decide_eq_false hf]
    have HF := Aside0.mk hfin
    clear hfin hf hb c
    go_enter Try.func20, Try.ntmps20
    go_wp2
    go_ret
    exact ⟨by rw [HF.out]; rfl, Drawn0.step (Drawn0.refl _) 1⟩

/-! ### spec_l2In: function 36 -/
def spec_l2In.f (a0 : Int) (a1 : Int) (a2 : Int) : Option (Bool) := if a0 ≥ a1 then (some (decide (a0 ≤ a2))) else (some false)
set_option maxHeartbeats 8000000 in
set_option maxRecDepth 100000 in
theorem spec_l2In.calls (a0 : Int) (a1 : Int) (a2 : Int) (r : Bool) (w : World) (h : spec_l2In.f a0 a1 a2 = some r) :
    Calls Try.prog 36 #[.int .i64 a0, .int .i64 a1, .int .i64 a2] w fun e w' => e = .returned (.bool r) ∧ Drawn0 w w' := by
  have H : (if a0 ≥ a1 then (some (decide (a0 ≤ a2))) else (some false)) = some r := h
  clear h
  by_cases c4 : a0 ≥ a1
  · rw [if_pos c4] at H
    have c4b0 : decide (a1 ≤ a0) = true := decide_eq_true c4
    clear c4
    obtain rfl := Option.some.inj H
    go_enter Try.func36, Try.ntmps36
    go_wp2
    go_ret
    exact ⟨by first | rfl | (simp; done) | (simp [*]; done), by repeat (first | exact Drawn0.refl _ | apply Drawn0.step)⟩
  · rw [if_neg c4] at H
    have c4b0 : decide (a1 ≤ a0) = false := decide_eq_false c4
    clear c4
    obtain rfl := Option.some.inj H
    go_enter Try.func36, Try.ntmps36
    go_wp2
    go_ret
    exact ⟨by first | rfl | (simp; done) | (simp [*]; done), by repeat (first | exact Drawn0.refl _ | apply Drawn0.step)⟩

end Go.Proofs.Ytjgnolohppnbbaa.PSg
