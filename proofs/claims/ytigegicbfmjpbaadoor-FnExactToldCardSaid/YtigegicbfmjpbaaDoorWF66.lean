/- Binary floating point by rungs: whole numbers made of floats. Conditions: none. -/
import Derived.Test.YtigegicbfmjpbaaDoorWF65
set_option maxRecDepth 100000
set_option exponentiation.threshold 2000
set_option linter.unusedVariables false
namespace Go.Proofs.YtigegicbfmjpbaaDoorW
namespace F64
open Ieee

/-- One, in least places. -/
def U : Nat := 2 ^ 1074
theorem U_pos : 0 < U := Nat.two_pow_pos _
/-- A whole number below 2^53 is a float to the letter. -/
theorem val_fofi {n : Int} (h : n.natAbs < 9007199254740992) : val (fofi n) = n * U := by
  have hr : mag (rung (fofi n)) = n.natAbs * U := by
    rw [rung_fofi]
    by_cases h0 : n.natAbs = 0
    · rw [h0, Nat.zero_mul]; decide
    · -- n = m * 2 ^ j with a full significand
      have hl := Nat.log2_self_le h0
      have hu : n.natAbs < 2 ^ (n.natAbs.log2 + 1) := Nat.lt_log2_self
      have hlog : n.natAbs.log2 ≤ 52 := by
        have := (Nat.log2_lt h0 (k := 53)).2 (by omega)
        omega
      obtain ⟨m, hm⟩ : ∃ m, m = n.natAbs * 2 ^ (52 - n.natAbs.log2) := ⟨_, rfl⟩
      have e1 : n.natAbs * 2 ^ 1074 = m * 2 ^ (1022 + n.natAbs.log2) := by
        rw [hm, Nat.mul_assoc, ← Nat.pow_add]; congr 2; omega
      have lo : 4503599627370496 ≤ m := by
        rw [hm, show (4503599627370496 : Nat) = 2 ^ n.natAbs.log2 * 2 ^ (52 - n.natAbs.log2) by rw [← Nat.pow_add, show n.natAbs.log2 + (52 - n.natAbs.log2) = 52 by omega]]
        exact Nat.mul_le_mul_right _ hl
      have hi : m < 9007199254740992 := by
        rw [hm, show (9007199254740992 : Nat) = 2 ^ (n.natAbs.log2 + 1) * 2 ^ (52 - n.natAbs.log2) by rw [← Nat.pow_add, show n.natAbs.log2 + 1 + (52 - n.natAbs.log2) = 53 by omega]]
        exact Nat.mul_lt_mul_of_pos_right hu (Nat.two_pow_pos _)
      have e2 : m * 2 ^ (1022 + n.natAbs.log2) = mag ((1022 + n.natAbs.log2 + 1) * 4503599627370496 + (m - 4503599627370496)) := by
        unfold mag
        rw [if_neg (by omega), dm1 (by omega), dm2 (by omega), show 4503599627370496 + (m - 4503599627370496) = m by omega]; rfl
      rw [e1, e2, rungOf_mag (by unfold INF; omega), ← e2, ← e1]; rfl
  unfold val
  rw [sgn_fofi, hr]
  by_cases hn : n < 0
  · rw [decide_eq_true hn, if_pos rfl]
    push_cast; rw [show (n.natAbs : Int) = -n by omega, Int.neg_mul, Int.neg_neg]
  · rw [decide_eq_false hn, if_neg (by decide)]
    push_cast; rw [show (n.natAbs : Int) = n by omega]
theorem shl_div {m : Nat} {e : Int} (he : -1074 ≤ e) : (m <<< e.toNat) / 2 ^ (-e).toNat = (m * 2 ^ (e + 1074).toNat) / U ∧ rne (m <<< e.toNat) (2 ^ (-e).toNat) = rne (m * 2 ^ (e + 1074).toNat) U := by
  unfold U
  rw [Nat.shiftLeft_eq]
  by_cases h : 0 ≤ e
  · have e1 : (-e).toNat = 0 := by omega
    have e2 : m * 2 ^ (e + 1074).toNat = m * 2 ^ e.toNat * 2 ^ 1074 := by rw [Nat.mul_assoc, ← Nat.pow_add]; congr 2; omega
    rw [e1, e2, Nat.pow_zero, Nat.div_one]
    refine ⟨(Nat.mul_div_cancel _ (Nat.two_pow_pos _)).symm, ?_⟩
    have := rne_scale (m * 2 ^ e.toNat) 1 (2 ^ 1074) (Nat.two_pow_pos _) (by omega)
    rw [Nat.one_mul] at this
    exact this.symm
  · have e1 : e.toNat = 0 := by omega
    have e2 : (2 : Nat) ^ 1074 = 2 ^ (-e).toNat * 2 ^ (e + 1074).toNat := by rw [← Nat.pow_add]; congr 1; omega
    rw [e1, e2, Nat.pow_zero, Nat.mul_one]
    exact ⟨(Nat.mul_div_mul_right _ _ (Nat.two_pow_pos _)).symm, (rne_scale _ _ _ (Nat.two_pow_pos _) (Nat.two_pow_pos _)).symm⟩
theorem signed_zero (s : Bool) (m : Nat) : signed s m 0 = if s then -(m : Int) else m := by
  rw [signed_eq, Nat.pow_zero, Nat.mul_one]
theorem toInt_zero {x : Nat} (hx : Fin x) : (FloatKind.f64.decode x).toInt .zero = some (if sgn x then -((mag (rung x) / U : Nat) : Int) else ((mag (rung x) / U : Nat) : Int)) := by
  obtain ⟨m, e, h1, h2, h3⟩ := read_fin hx
  have h : FloatKind.f64.decode x = .number (sgn x) m e := h1
  rw [h]
  show some (signed (sgn x) (Toward.zero.cut (sgn x) (m <<< e.toNat) (-e).toNat) 0) = _
  rw [cut_zero, (shl_div h2).1, h3, signed_zero]
/-- To the nearest whole number, of two the even one. -/
theorem integral_even {x : Nat} (hx : Fin x) : (FloatKind.f64.decode x).integral .even = .number (sgn x) (rne (mag (rung x)) U) 0 := by
  obtain ⟨m, e, h1, h2, h3⟩ := read_fin hx
  have h : FloatKind.f64.decode x = .number (sgn x) m e := h1
  rw [h]
  show Datum.number (sgn x) (Toward.even.cut (sgn x) (m <<< e.toNat) (-e).toNat) 0 = _
  rw [cut_even, (shl_div h2).2, h3]
theorem mag_whole {a : Nat} (h : a < 9007199254740992) : mag (rungOf (a * 2 ^ 1074)) = a * U := by
  have hv := val_fofi (n := (a : Int)) (by omega)
  have hr := rung_fofi (a : Int)
  have hs := sgn_fofi (a : Int)
  rw [decide_eq_false (by omega)] at hs
  unfold val at hv
  rw [hs, if_neg (by decide), hr, Int.natAbs_natCast] at hv
  exact_mod_cast hv
theorem fires_i64 {y : Nat} (hy : Fin y) (h : mag (rung y) / U ≤ 9223372036854775807) : fires .i64 y = some (if sgn y then -((mag (rung y) / U : Nat) : Int) else ((mag (rung y) / U : Nat) : Int)) := by
  unfold fires
  rw [toInt_zero hy]
  generalize mag (rung y) / U = q at h ⊢
  have h1 : IntKind.i64.min = -9223372036854775808 := by decide
  have h2 : IntKind.i64.max = 9223372036854775807 := by decide
  simp only [h1, h2]
  rw [if_pos]
  split <;> omega
/-- The nearest whole number as an int64. -/
theorem even_int {x : Nat} (hx : Fin x) (h : rne (mag (rung x)) U < 9007199254740992) :
    fires .i64 (FloatKind.f64.encode ((FloatKind.f64.decode x).integral .even)) = some (if sgn x then -(rne (mag (rung x)) U : Int) else (rne (mag (rung x)) U : Int)) := by
  rw [integral_even hx]
  generalize rne (mag (rung x)) U = c at h ⊢
  have e : FloatKind.f64.encode (.number (sgn x) c 0) = double.word (sgn x) (rungOf (c * 2 ^ 1074)) := by
    show double.nearest (sgn x) c 0 = _
    rw [nearest_place _ _ _ (by omega)]; rfl
  rw [e]
  have hr : rung (double.word (sgn x) (rungOf (c * 2 ^ 1074))) = rungOf (c * 2 ^ 1074) := rung_word _ (rungOf_le _)
  have hs : sgn (double.word (sgn x) (rungOf (c * 2 ^ 1074))) = sgn x := sgn_word _ (rungOf_le _)
  have hm := mag_whole h
  have hq : mag (rung (double.word (sgn x) (rungOf (c * 2 ^ 1074)))) / U = c := by rw [hr, hm, Nat.mul_div_cancel _ U_pos]
  have hf : Fin (double.word (sgn x) (rungOf (c * 2 ^ 1074))) := by
    unfold Fin; rw [hr]
    have a := rungOf_mono (Nat.mul_le_mul_right (2 ^ 1074) (Nat.le_of_lt h))
    have b : rungOf (9007199254740992 * 2 ^ 1074) < INF := by decide +kernel
    exact Nat.lt_of_le_of_lt a b
  rw [fires_i64 hf (by rw [hq]; omega), hq, hs]
/-- From 1/2 on a number is a whole number of 2^-53. -/
theorem mag_gran {r : Nat} (h : 1022 * 4503599627370496 ≤ r) : ∃ k, mag r = k * 2 ^ 1021 := by
  unfold mag
  rw [if_neg (by omega)]
  have hq : 1022 ≤ r / 4503599627370496 := (Nat.le_div_iff_mul_le (by omega)).2 h
  refine ⟨(4503599627370496 + r % 4503599627370496) * 2 ^ (r / 4503599627370496 - 1 - 1021), ?_⟩
  rw [Nat.mul_assoc, ← Nat.pow_add]; congr 2; omega
def G : Int := (2 : Int) ^ 1021
theorem G_pos : 0 < G := Int.pow_pos (by omega)
theorem U_G : (U : Int) = 9007199254740992 * G := by
  unfold U G
  rw [Int.natCast_pow, show (9007199254740992 : Int) = 2 ^ 53 by decide, ← Int.pow_add]; rfl
/-- 1/2, and its two neighbours. -/
theorem half_mag : (mag 4602678819172646912 : Int) = 4503599627370496 * G ∧ (mag 4602678819172646911 : Int) = 4503599627370496 * G - G / 2 ∧ (mag 4602678819172646913 : Int) = 4503599627370496 * G + G := by
  refine ⟨?_, ?_, ?_⟩ <;> (unfold G; decide +kernel)
theorem K_nonneg {e : Int} (h : 0 ≤ e) : K e = rungOf e.natAbs := by unfold K; rw [if_neg (by omega)]
theorem K_mag (r : Nat) (h : r ≤ INF) : K (mag r : Int) = r := by rw [K_nonneg (by omega), Int.natAbs_natCast, rungOf_mag h]
/-- What is left of a number above the whole number below it, set against 1/2. -/
theorem rest_cmp {x : Nat} (hx : Fin x) (hb : (val x / (U : Int)).natAbs < 9007199254740992) (hc : (val x / (U : Int)).natAbs * 1 < 9007199254740992) :
    fok .sub x (fofi (val x / U)) = true ∧ ¬ IsNaN (fop .sub x (fofi (val x / U))) ∧
    (val x % U < 4503599627370496 * G → key (fop .sub x (fofi (val x / U))) < 4602678819172646912) ∧
    (val x % U = 4503599627370496 * G → key (fop .sub x (fofi (val x / U))) = 4602678819172646912) ∧
    (4503599627370496 * G < val x % U → 4602678819172646912 < key (fop .sub x (fofi (val x / U))) ∨ (key (fop .sub x (fofi (val x / U))) = 4602678819172646912 ∧ val x / U = -1)) := by
  have hG := G_pos
  have hU := U_G
  have hUp : 0 < (U : Int) := by omega
  have e0 := Int.emod_nonneg (val x) (show (U : Int) ≠ 0 by omega)
  have e1 := Int.emod_lt_of_pos (val x) hUp
  have e2 := Int.emod_add_mul_ediv (val x) (U : Int)
  have hf : Fin (fofi (val x / U)) := by
    unfold Fin; rw [rung_fofi]
    have a := rungOf_mono (Nat.mul_le_mul_right (2 ^ 1074) (Nat.le_of_lt hb))
    have b : rungOf (9007199254740992 * 2 ^ 1074) < INF := by decide +kernel
    exact Nat.lt_of_le_of_lt a b
  obtain ⟨r, a1, a2, a3, _⟩ := sub_fin hx hf
  have er : fres .sub x (fofi (val x / U)) = some r := a1
  have e3 : fop .sub x (fofi (val x / U)) = r := by unfold fop; rw [er]; rfl
  have e4 : fok .sub x (fofi (val x / U)) = true := by unfold fok; rw [er]; rfl
  rw [val_fofi hb, show val x - val x / (U : Int) * U = val x % U by rw [Int.mul_comm]; omega] at a2
  rw [e3, e4, a2]
  obtain ⟨m0, m1, m2⟩ := half_mag
  have k0 := K_mag 4602678819172646912 (by unfold INF; omega)
  have k1 := K_mag 4602678819172646911 (by unfold INF; omega)
  have k2 := K_mag 4602678819172646913 (by unfold INF; omega)
  rw [m0] at k0; rw [m1] at k1; rw [m2] at k2
  generalize hv : val x = v at *
  generalize hE : v % (U : Int) = E at *
  generalize hQ : v / (U : Int) = q at *
  -- a number of 1/2 or more in size
  have big : 4602678819172646912 ≤ rung x → ∃ t : Int, E = t * G := by
    intro h
    obtain ⟨k, hk⟩ := mag_gran (r := rung x) (by omega)
    have hvk : ∃ s : Int, v = s * G := by
      have hkG : (mag (rung x) : Int) = k * G := by rw [hk]; unfold G; rw [Int.natCast_mul, Int.natCast_pow]; rfl
      unfold val at hv
      by_cases hs : sgn x = true
      · rw [if_pos hs] at hv; exact ⟨-k, by rw [← hv, hkG, Int.neg_mul]⟩
      · rw [if_neg hs] at hv; exact ⟨k, by rw [← hv, hkG]⟩
    obtain ⟨s, hs⟩ := hvk
    refine ⟨s - q * 9007199254740992, ?_⟩
    rw [Int.sub_mul, Int.mul_assoc, ← hU, ← hs]
    rw [Int.mul_comm] at e2; omega
  have small : rung x < 4602678819172646912 → -(4503599627370496 * G) < v ∧ v < 4503599627370496 * G := by
    intro h
    have := mag_lt h
    unfold val at hv
    split at hv <;> omega
  refine ⟨rfl, a3, fun h => ?_, fun h => by rw [h]; exact k0, fun h => ?_⟩
  · by_cases hs : 4602678819172646912 ≤ rung x
    · obtain ⟨t, ht⟩ := big hs
      have ht2 : t < 4503599627370496 := by
        rw [ht] at h; exact Int.lt_of_mul_lt_mul_right h (by omega)
      have h3 : t * G ≤ 4503599627370495 * G := Int.mul_le_mul_of_nonneg_right (by omega) (by omega)
      have := K_mono (u := E) (v := 4503599627370496 * G - G / 2) (by omega)
      omega
    · have := small (by omega)
      have hE2 : E = v := by
        rcases (show v < 0 ∨ 0 ≤ v by omega) with h0 | h0
        · exfalso
          have : q = -1 := by
            have h5 : q < 0 := by
              rcases (show q < 0 ∨ 0 ≤ q by omega) with h6 | h6
              · exact h6
              · have := Int.mul_nonneg (show 0 ≤ (U : Int) by omega) h6; omega
            have h6 : -1 ≤ q := by
              rcases (show q < (-1) ∨ (-1) ≤ q by omega) with h7 | h7
              · have := Int.mul_le_mul_of_nonneg_left (show q ≤ -2 by omega) (show 0 ≤ (U : Int) by omega); omega
              · exact h7
            omega
          rw [this] at e2; omega
        · rw [← hE]; exact Int.emod_eq_of_lt h0 (by omega)
      have hk := K_val hx
      rw [hv, ← hE2] at hk
      rw [hk]
      unfold key
      split <;> omega
  · by_cases hs : 4602678819172646912 ≤ rung x
    · obtain ⟨t, ht⟩ := big hs
      have ht2 : 4503599627370496 < t := by
        rw [ht] at h; exact Int.lt_of_mul_lt_mul_right h (by omega)
      have h3 : 4503599627370497 * G ≤ t * G := Int.mul_le_mul_of_nonneg_right (by omega) (by omega)
      have := K_mono (v := E) (u := 4503599627370496 * G + G) (by omega)
      exact .inl (by omega)
    · have := small (by omega)
      have hlo := K_mono (v := E) (u := 4503599627370496 * G) (by omega)
      have hq : q = -1 := by
        rcases (show v < 0 ∨ 0 ≤ v by omega) with h0 | h0
        · have h5 : q < 0 := by
            rcases (show q < 0 ∨ 0 ≤ q by omega) with h6 | h6
            · exact h6
            · have := Int.mul_nonneg (show 0 ≤ (U : Int) by omega) h6; omega
          have h6 : -1 ≤ q := by
            rcases (show q < (-1) ∨ (-1) ≤ q by omega) with h7 | h7
            · have := Int.mul_le_mul_of_nonneg_left (show q ≤ -2 by omega) (show 0 ≤ (U : Int) by omega); omega
            · exact h7
          omega
        · have : E = v := by rw [← hE]; exact Int.emod_eq_of_lt h0 (by omega)
          omega
      rw [k0] at hlo
      rcases Int.lt_or_eq_of_le hlo with h8 | h8
      · exact .inl h8
      · exact .inr ⟨h8.symm, hq⟩
end F64
end Go.Proofs.YtigegicbfmjpbaaDoorW
