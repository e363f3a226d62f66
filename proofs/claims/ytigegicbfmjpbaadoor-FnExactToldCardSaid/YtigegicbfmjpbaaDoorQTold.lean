/- FnExactTold: the plain law. Conditions: none. -/
import Derived.Test.YtigegicbfmjpbaaDoorPTox2
import Derived.Test.YtigegicbfmjpbaaDoorWF66
import Derived.Outline
set_option linter.unusedVariables false
namespace Go.Proofs.YtigegicbfmjpbaaDoor.PTo
open Go.Proofs.YtigegicbfmjpbaaDoorW Go.RowKit Go.Proofs.YtigegicbfmjpbaaDoorW.PrintWords Go.Proofs.YtigegicbfmjpbaaDoorW.PrintLast Go.Proofs.YtigegicbfmjpbaaDoorW.PrintMore
open F64
theorem wrap_id {i : Int} (h0 : -9000000000000000000 ≤ i) (h1 : i ≤ 9000000000000000000) : wrap64 i = i := by
  unfold wrap64; omega
theorem e15_bits : (4831355200913801216 : Nat) = fofi 1000000000000000 ∧ (14054727237768577024 : Nat) = fofi (-1000000000000000) := by decide +kernel
/-- Within a million milliards. -/
theorem n_within {x : Nat} (hx : F64.Fin x) (h1 : flt x 14054727237768577024 = false) (h2 : fgt x 4831355200913801216 = false) : mag (rung x) ≤ 1000000000000000 * U := by
  have n1 : ¬ IsNaN 14054727237768577024 := by decide
  have n2 : ¬ IsNaN 4831355200913801216 := by decide
  rw [flt_key (fin_notNaN hx) n1, decide_eq_false_iff_not, key_lt_val, e15_bits.2, val_fofi (by decide)] at h1
  rw [fgt_key (fin_notNaN hx) n2, decide_eq_false_iff_not, key_lt_val, e15_bits.1, val_fofi (by decide)] at h2
  unfold val at h1 h2
  generalize U = u at *
  split at h1 <;> rename_i hs
  · rw [if_pos hs] at h2; omega
  · rw [if_neg hs] at h2; omega
/-- The whole number below, and what is left, by the magnitude. -/
theorem n_floor (x : Nat) : 
    (sgn x = false → val x / (U : Int) = (mag (rung x) / U : Nat) ∧ val x % (U : Int) = (mag (rung x) % U : Nat)) ∧
    (sgn x = true → mag (rung x) % U = 0 → val x / (U : Int) = -((mag (rung x) / U : Nat) : Int) ∧ val x % (U : Int) = 0) ∧
    (sgn x = true → mag (rung x) % U ≠ 0 → val x / (U : Int) = -((mag (rung x) / U : Nat) : Int) - 1 ∧ val x % (U : Int) = (U : Int) - (mag (rung x) % U : Nat)) := by
  have hU := U_pos
  have hd := Nat.div_add_mod (mag (rung x)) U
  have hm := Nat.mod_lt (mag (rung x)) hU
  have hc : (mag (rung x) : Int) = (U : Int) * (mag (rung x) / U : Nat) + (mag (rung x) % U : Nat) := by
    rw [← Int.natCast_mul, ← Int.natCast_add, hd]
  have key := fun q e (h : e + (U : Int) * q = val x ∧ 0 ≤ e ∧ e < (U : Int)) => (Int.ediv_emod_unique (a := val x) (b := (U : Int)) (q := q) (r := e) (by omega)).2 h
  have hv : val x = if sgn x then -(mag (rung x) : Int) else mag (rung x) := rfl
  rw [hc] at hv
  generalize mag (rung x) / U = a at *
  generalize mag (rung x) % U = f at *
  have hm' : (f : Int) < U := by exact_mod_cast hm
  have hU' : (0 : Int) < U := by exact_mod_cast hU
  refine ⟨fun h => ?_, fun h h0 => ?_, fun h h0 => ?_⟩
  · rw [h, if_neg (show ¬ (false = true) by decide)] at hv
    exact key a f ⟨by rw [hv]; omega, by omega, hm'⟩
  · rw [h, if_pos rfl] at hv
    subst h0
    exact key (-a) 0 ⟨by rw [hv, Int.mul_neg]; omega, by omega, hU'⟩
  · rw [h, if_pos rfl] at hv
    exact key (-a - 1) (U - f) ⟨by rw [hv, Int.mul_sub, Int.mul_neg, Int.mul_one]; omega, by omega, by omega⟩
/-- The nearest whole number, of two the even one. -/
def NZ (x : Nat) : Int := if sgn x then -(rne (mag (rung x)) U : Int) else (rne (mag (rung x)) U : Int)
theorem half_U : (U : Int) = 2 * (4503599627370496 * G) := by rw [U_G]; omega
theorem n_even (x : Nat) : 
    (val x % (U : Int) < 4503599627370496 * G → NZ x = val x / U) ∧ (4503599627370496 * G < val x % (U : Int) → NZ x = val x / U + 1) ∧
    (val x % (U : Int) = 4503599627370496 * G → NZ x = if val x / (U : Int) % 2 = 0 then val x / U else val x / U + 1) := by
  obtain ⟨f1, f2, f3⟩ := n_floor x
  have hH := half_U
  have hU := U_pos
  have hm := Nat.mod_lt (mag (rung x)) hU
  unfold NZ rne
  generalize mag (rung x) / U = a at *
  generalize mag (rung x) % U = f at *
  generalize val x / (U : Int) = q at *
  generalize val x % (U : Int) = e at *
  generalize 4503599627370496 * G = H at *
  generalize U = u at *
  cases hs : sgn x with
  | false =>
    obtain ⟨g1, g2⟩ := f1 hs
    subst g1 g2
    simp only [Bool.false_eq_true, if_false]
    refine ⟨fun h => ?_, fun h => ?_, fun h => ?_⟩
    · rw [if_neg (by omega)]; omega
    · rw [if_pos (by omega)]; omega
    · split <;> split <;> omega
  | true =>
    simp only [if_true]
    by_cases h0 : f = 0
    · obtain ⟨g1, g2⟩ := f2 hs h0
      subst g1 g2 h0
      refine ⟨fun h => ?_, fun h => ?_, fun h => ?_⟩
      · rw [if_neg (by omega)]; omega
      · omega
      · omega
    · obtain ⟨g1, g2⟩ := f3 hs h0
      subst g1 g2
      refine ⟨fun h => ?_, fun h => ?_, fun h => ?_⟩
      · rw [if_pos (by omega)]; omega
      · rw [if_neg (by omega)]; omega
      · split <;> split <;> omega
theorem n_bound {x : Nat} (h : mag (rung x) ≤ 1000000000000000 * U) : rne (mag (rung x)) U ≤ 1000000000000000 ∧ mag (rung x) / U ≤ 1000000000000000 :=
  ⟨rne_hi U_pos h, Nat.div_le_of_le_mul (by rw [Nat.mul_comm]; exact h)⟩
theorem fint_of {y : Nat} {n : Int} (h : fires .i64 y = some n) : fiok .i64 y = true ∧ fint .i64 y = n := by
  unfold fiok fint; rw [h]; exact ⟨rfl, rfl⟩
/-- The two speak alike. -/
theorem n_nearest (x : Nat) : ∃ z : Int × Bool, spec_Nearest.f x = some z ∧ impl_Nearest.f x = some z ∧ (z.2 = true → z.1.natAbs ≤ 1000000000000000) := by
  unfold spec_Nearest.f impl_Nearest.f spec_l1Whole.f spec_Known.f
  simp only [Option.bind_some]
  by_cases hf : F64.Fin x
  case neg =>
    have e : ffin x = false := decide_eq_false hf
    rw [e]
    exact ⟨(0, false), rfl, rfl, fun h => by cases h⟩
  have e : ffin x = true := decide_eq_true hf
  have n1 : ¬ IsNaN 14054727237768577024 := by decide
  have n2 : ¬ IsNaN 4831355200913801216 := by decide
  have nx := fin_notNaN hf
  have g1 : fge x 14054727237768577024 = !(flt x 14054727237768577024) := by
    rw [fge_key nx n1, flt_key nx n1]
    by_cases h : key x < key 14054727237768577024
    · rw [decide_eq_true h, decide_eq_false (by omega)]; rfl
    · rw [decide_eq_false h, decide_eq_true (by omega)]; rfl
  have g2 : fle x 4831355200913801216 = !(fgt x 4831355200913801216) := by
    rw [fle_key nx n2, fgt_key nx n2]
    by_cases h : key 4831355200913801216 < key x
    · rw [decide_eq_true h, decide_eq_false (by omega)]; rfl
    · rw [decide_eq_false h, decide_eq_true (by omega)]; rfl
  rw [e, g1, g2]
  cases h1 : flt x 14054727237768577024 with
  | true => exact ⟨(0, false), rfl, rfl, fun h => by cases h⟩
  | false =>
  cases h2 : fgt x 4831355200913801216 with
  | true => exact ⟨(0, false), rfl, rfl, fun h => by cases h⟩
  | false =>
  have hw := n_within hf h1 h2
  obtain ⟨b1, b2⟩ := n_bound hw
  obtain ⟨i1, i2⟩ := fint_of (even_int hf (by omega))
  obtain ⟨t1, t2⟩ := fint_of (fires_i64 hf (by omega))
  refine ⟨(NZ x, true), ?_, ?_, fun _ => by unfold NZ; split <;> simp <;> omega⟩
  · simp only [Bool.not_false, if_true, Option.bind_some]
    have n : fint .i64 x = if sgn x then -((mag (rung x) / U : Nat) : Int) else ((mag (rung x) / U : Nat) : Int) := t2
    rw [if_pos t1]
    -- the whole number below
    have hq : (val x / (U : Int)).natAbs < 9007199254740992 := by
      obtain ⟨f1, f2, f3⟩ := n_floor x
      cases hs : sgn x with
      | false => rw [(f1 hs).1]; generalize mag (rung x) / U = a at b2 ⊢; omega
      | true =>
        by_cases h0 : mag (rung x) % U = 0
        · rw [(f2 hs h0).1]; generalize mag (rung x) / U = a at b2 ⊢; omega
        · rw [(f3 hs h0).1]; generalize mag (rung x) / U = a at b2 ⊢; omega
    obtain ⟨r0, r1, r2, r3, r4⟩ := rest_cmp hf hq (by omega)
    obtain ⟨v1, v2, v3⟩ := n_even x
    have hq2 : (val x / (U : Int)).natAbs ≤ 2000000000000000 := by
      obtain ⟨f1, f2, f3⟩ := n_floor x
      cases hs : sgn x with
      | false => rw [(f1 hs).1]; generalize mag (rung x) / U = a at b2 ⊢; omega
      | true =>
        by_cases h0 : mag (rung x) % U = 0
        · rw [(f2 hs h0).1]; generalize mag (rung x) / U = a at b2 ⊢; omega
        · rw [(f3 hs h0).1]; generalize mag (rung x) / U = a at b2 ⊢; omega
    -- both ways end so
    have tail : (if fok BinOp.sub x (fofi (val x / (U : Int))) = true then
              if fgt (fop BinOp.sub x (fofi (val x / (U : Int)))) 4602678819172646912 = true then some (wrap64 (val x / (U : Int) + 1), true)
              else if feq (fop BinOp.sub x (fofi (val x / (U : Int)))) 4602678819172646912 = true then
                  if (val x / (U : Int)).tmod 2 = 0 then some (val x / (U : Int), true) else some (wrap64 (val x / (U : Int) + 1), true)
                else some (val x / (U : Int), true)
            else none) = some (NZ x, true) := by
      have nh : ¬ IsNaN 4602678819172646912 := by decide
      have kh : key 4602678819172646912 = 4602678819172646912 := by decide
      rw [if_pos r0, fgt_key r1 nh, feq_key r1 nh, kh, wrap_id (by omega) (by omega)]
      rcases (show val x % (U : Int) < 4503599627370496 * G ∨ val x % (U : Int) = 4503599627370496 * G ∨ 4503599627370496 * G < val x % (U : Int) by omega) with h | h | h
      · have := r2 h
        rw [v1 h, decide_eq_false (by omega), if_neg (by decide), decide_eq_false (by omega), if_neg (by decide)]
      · have := r3 h
        rw [v3 h, decide_eq_false (by omega), if_neg (by decide), decide_eq_true (by omega), if_pos rfl]
        have ht : (val x / (U : Int)).tmod 2 = 0 ↔ val x / (U : Int) % 2 = 0 := by
          generalize val x / (U : Int) = q
          exact ⟨fun h => by have := Int.tmod_add_mul_tdiv q 2; omega, fun h => Int.tmod_eq_zero_of_dvd (Int.dvd_of_emod_eq_zero h)⟩
        by_cases hc : val x / (U : Int) % 2 = 0
        · rw [if_pos (ht.2 hc), if_pos hc]
        · rw [if_neg (fun h => hc (ht.1 h)), if_neg hc]
      · rcases r4 h with g | ⟨g, gq⟩
        · rw [v2 h, decide_eq_true (by omega), if_pos rfl]
        · rw [v2 h, decide_eq_false (by omega), if_neg (by decide), decide_eq_true (by omega), if_pos rfl, gq]
          rfl
    obtain ⟨f1, f2, f3⟩ := n_floor x
    have hm := Nat.mod_lt (mag (rung x)) U_pos
    have e2 := Int.emod_add_mul_ediv (val x) (U : Int)
    have hnb : (fint .i64 x).natAbs < 9007199254740992 := by
      rw [n]; generalize mag (rung x) / U = a at b2 ⊢; split <;> omega
    have hfi : F64.Fin (fofi (fint .i64 x)) := by
      unfold F64.Fin; rw [rung_fofi]
      have a := rungOf_mono (Nat.mul_le_mul_right (2 ^ 1074) (Nat.le_of_lt hnb))
      have b : rungOf (9007199254740992 * 2 ^ 1074) < F64.INF := by decide +kernel
      exact Nat.lt_of_le_of_lt a b
    have hg : fgt (fofi (fint .i64 x)) x = decide (val x < fint .i64 x * U) := by
      rw [fgt_key (fin_notNaN hfi) nx]
      exact decide_eq_decide.2 (by rw [key_lt_val, val_fofi hnb])
    by_cases hc : sgn x = true ∧ mag (rung x) % U ≠ 0
    · obtain ⟨hs, h0⟩ := hc
      obtain ⟨k1, k2⟩ := f3 hs h0
      rw [if_pos hs] at n
      have hn1 : fint .i64 x = val x / (U : Int) + 1 := by rw [n, k1]; omega
      have hlt : val x < fint .i64 x * U := by
        rw [hn1, Int.add_mul, Int.one_mul, Int.mul_comm]
        have : val x % (U : Int) < U := Int.emod_lt_of_pos _ (by have := U_pos; omega)
        omega
      rw [hg, decide_eq_true hlt, if_pos rfl, hn1, show val x / (U : Int) + 1 - 1 = val x / U by omega, wrap_id (i := val x / (U : Int)) (by omega) (by omega)]
      exact tail
    · have hn1 : fint .i64 x = val x / (U : Int) := by
        rw [n]
        cases hs : sgn x with
        | false => rw [(f1 hs).1]; rfl
        | true =>
          have h0 : mag (rung x) % U = 0 := by
            by_cases h : mag (rung x) % U = 0
            · exact h
            · exact absurd ⟨hs, h⟩ hc
          rw [(f2 hs h0).1]; rfl
      have hge : ¬ val x < fint .i64 x * U := by
        rw [hn1, Int.mul_comm]
        have := Int.emod_nonneg (val x) (show (U : Int) ≠ 0 by have := U_pos; omega)
        omega
      rw [hg, decide_eq_false hge, if_neg (by decide), hn1]
      exact tail
  · simp only [if_true, Bool.false_eq_true, if_false]
    rw [if_pos (show fiok .i64 (fround x) = true from i1)]
    rw [show fint .i64 (fround x) = NZ x from i2]
end Go.Proofs.YtigegicbfmjpbaaDoor.PTo
