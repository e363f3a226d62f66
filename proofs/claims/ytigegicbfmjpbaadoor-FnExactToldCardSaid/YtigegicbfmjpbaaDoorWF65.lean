/- Binary floating point by rungs, further: products, quotients, whole numbers made floats. Conditions: none. -/
import Derived.Test.YtigegicbfmjpbaaDoorWF64
set_option maxRecDepth 100000
set_option exponentiation.threshold 2000
set_option linter.unusedVariables false
namespace Go.Proofs.YtigegicbfmjpbaaDoorW
namespace F64
open Ieee

theorem nearest_word (s : Bool) (m : Nat) (e : Int) : ∃ r, r ≤ INF ∧ double.nearest s m e = double.word s r := by
  unfold Format.nearest
  by_cases h0 : m = 0
  · rw [if_pos h0]; exact ⟨0, by unfold INF; omega, rfl⟩
  · rw [if_neg h0]; exact ⟨_, by rw [inf_eq]; exact Nat.min_le_right _ _, rfl⟩
theorem nearest_notNaN (s : Bool) (m : Nat) (e : Int) : ¬ IsNaN (double.nearest s m e) := by
  obtain ⟨r, h, e⟩ := nearest_word s m e
  rw [e]; exact word_notNaN s h
theorem mul_ok {x y : Nat} (hx : Fin x) (hy : Fin y) : fok .mul x y = true ∧ ¬ IsNaN (fop .mul x y) := by
  obtain ⟨m, e, h1, _, _⟩ := read_fin hx
  obtain ⟨n, f, g1, _, _⟩ := read_fin hy
  have h : double.mul x y = some (double.nearest (sgn x ^^ sgn y) (m * n) (e + f)) := by unfold Format.mul; rw [h1, g1]; rfl
  unfold fok fop fres
  rw [show FloatKind.f64.format.mul x y = _ from h]
  exact ⟨rfl, nearest_notNaN _ _ _⟩
theorem fofi_word (n : Int) : fofi n = double.word (decide (n < 0)) (rungOf (n.natAbs * 2 ^ 1074)) := by
  have h : fofi n = double.nearest (decide (n < 0)) n.natAbs 0 := rfl
  rw [h, nearest_place _ _ _ (by omega)]; rfl
theorem rung_fofi (n : Int) : rung (fofi n) = rungOf (n.natAbs * 2 ^ 1074) := by
  rw [fofi_word, rung_word _ (rungOf_le _)]
theorem sgn_fofi (n : Int) : sgn (fofi n) = decide (n < 0) := by
  rw [fofi_word, sgn_word _ (rungOf_le _)]
theorem fneg_xor (x : Nat) : fneg x = x ^^^ 2 ^ 63 := rfl
theorem rung_fneg (x : Nat) : rung (fneg x) = rung x := by
  unfold rung
  rw [fneg_xor, show (9223372036854775808 : Nat) = 2 ^ 63 by decide, Nat.xor_mod_two_pow, Nat.mod_self, Nat.xor_zero]
theorem sgn_fneg (x : Nat) : sgn (fneg x) = !sgn x := by
  unfold sgn
  rw [fneg_xor, show (9223372036854775808 : Nat) = 2 ^ 63 by decide, Nat.xor_div_two_pow, Nat.div_self (by decide)]
  generalize x / 2 ^ 63 = y
  have h := Nat.xor_mod_two_pow (a := y) (b := 1) (n := 1)
  rw [Nat.pow_one] at h
  rw [h]
  rcases Nat.mod_two_eq_zero_or_one y with e | e <;> rw [e] <;> decide
theorem key_fneg (x : Nat) : key (fneg x) = - key x := by
  unfold key; rw [rung_fneg, sgn_fneg]
  cases sgn x <;> simp
theorem notNaN_fneg {x : Nat} (h : ¬ IsNaN x) : ¬ IsNaN (fneg x) := by unfold IsNaN at *; rwa [rung_fneg]
/-! Bounds by whole binades: rung x ≤ c * 2^52. -/
end F64
end Go.Proofs.YtigegicbfmjpbaaDoorW
