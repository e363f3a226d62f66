/- Binary floating point by rungs, further: products, quotients, whole numbers made floats. Conditions: none. -/
import Derived.Test.YtigegicbfmjpbaaDoorWF64
set_option maxRecDepth 100000
set_option exponentiation.threshold 2000
set_option linter.unusedVariables false
namespace Go.Proofs.YtigegicbfmjpbaaDoorW
namespace F64
open Ieee

theorem fofi_word (n : Int) : fofi n = double.word (decide (n < 0)) (rungOf (n.natAbs * 2 ^ 1074)) := by
  have h : fofi n = double.nearest (decide (n < 0)) n.natAbs 0 := rfl
  rw [h, nearest_place _ _ _ (by omega)]; rfl
theorem rung_fofi (n : Int) : rung (fofi n) = rungOf (n.natAbs * 2 ^ 1074) := by
  rw [fofi_word, rung_word _ (rungOf_le _)]
theorem mag_pos {r : Nat} (h : 0 < r) : 0 < mag r := Nat.lt_of_le_of_lt (Nat.zero_le _) (mag_lt h)
/-- 1 / x of a number is never no number. -/
theorem quo_one_ok {x : Nat} (hx : ¬ IsNaN x) : fok .quo 4607182418800017408 x = true := by
  have h1 : double.read 4607182418800017408 = .number false 4503599627370496 (-52) := by decide +kernel
  unfold fok fres
  show (double.div 4607182418800017408 x).isSome = true
  unfold Format.div
  rw [h1]
  rcases cases3 x with g | g | g
  · obtain ⟨n, f, g1, _, _⟩ := read_fin g
    rw [g1]
    show ((if n = 0 then if 4503599627370496 = 0 then none else _ else _ : Option Datum).map double.write).isSome = true
    by_cases hn : n = 0
    · rw [if_pos hn, if_neg (by omega)]; rfl
    · rw [if_neg hn]; rfl
  · rw [read_inf g]; rfl
  · exact absurd g hx
/-! Bounds by whole binades: rung x ≤ c * 2^52. -/
theorem mag_binade (c : Nat) (h : 1 ≤ c) : mag (c * 4503599627370496) = 4503599627370496 * 2 ^ (c - 1) := by
  unfold mag
  rw [if_neg (by omega), Nat.mul_mod_left, Nat.mul_div_cancel _ (by omega)]
theorem nearest_bound (s : Bool) (m : Nat) (e : Int) (B : Nat) (hB : B ≤ 900) (h : e + m.log2 ≤ B) : rung (double.nearest s m e) ≤ (1024 + B) * 4503599627370496 := by
  unfold Format.nearest
  by_cases h0 : m = 0
  · rw [if_pos h0]; rw [rung_word s (by unfold INF; omega)]; omega
  · rw [if_neg h0]
    simp only [binade_eq, least_eq, inf_eq, cut_even]
    have hfb : (double.fractionBits : Int) = 52 := rfl
    rw [hfb]
    generalize hL : max (e + (m.log2 : Int) - 52) (-1074) = L
    have hkept : rne (m <<< (e - L).toNat) (2 ^ (L - e).toNat) ≤ 9007199254740992 := by
      refine rne_hi (Nat.two_pow_pos _) ?_
      have hlt : m < 2 ^ (m.log2 + 1) := Nat.lt_log2_self
      rw [Nat.shiftLeft_eq, show (9007199254740992 : Nat) = 2 ^ 53 by decide, ← Nat.pow_add]
      refine Nat.le_trans (Nat.mul_le_mul_right _ (Nat.le_of_lt hlt)) ?_
      rw [← Nat.pow_add]
      exact Nat.pow_le_pow_right (by omega) (by omega)
    generalize rne (m <<< (e - L).toNat) (2 ^ (L - e).toNat) = kept at hkept ⊢
    have hle : (L - -1074).toNat ≤ 1022 + B := by omega
    generalize (L - -1074).toNat = q at hle ⊢
    rw [rung_word s (Nat.min_le_right _ 9218868437227405312)]
    omega
/-- A quotient by a number that is not smaller but for a factor 2 ^ s. -/
theorem quo_bound {x y : Nat} {s : Nat} (hs : s ≤ 800) (hx : Fin x) (hy : Fin y) (h0 : 0 < rung y) (hle : mag (rung x) ≤ mag (rung y) * 2 ^ s) : fok .quo x y = true ∧ rung (fop .quo x y) ≤ (1024 + s) * 4503599627370496 := by
  obtain ⟨m, e, h1, h2, h3⟩ := read_fin hx
  obtain ⟨n, f, g1, g2, g3⟩ := read_fin hy
  have hn : n ≠ 0 := by
    rintro rfl
    have := mag_pos h0
    omega
  have hm := hle
  rw [← h3, ← g3] at hm
  have h : double.div x y = some (double.nearest (sgn x ^^ sgn y) (2 * ((m <<< (54 + n.log2 - m.log2)) / n) + (((m <<< (54 + n.log2 - m.log2)) % n != 0).toNat)) (e - f - (54 + n.log2 - m.log2 : Nat) - 1)) := by
    unfold Format.div; rw [h1, g1]
    show ((if n = 0 then _ else _ : Option Datum).map double.write) = _
    rw [if_neg hn]; rfl
  unfold fok fop fres
  rw [show FloatKind.f64.format.div x y = _ from h]
  refine ⟨rfl, ?_⟩
  show rung (double.nearest _ _ _) ≤ _
  generalize hmore : 54 + n.log2 - m.log2 = more
  by_cases hm0 : m = 0
  · subst hm0
    rw [show 2 * (0 <<< more / n) + ((0 <<< more % n != 0).toNat) = 0 by simp]
    unfold Format.nearest
    rw [if_pos rfl]; rw [rung_word _ (by unfold INF; omega)]; omega
  · apply nearest_bound _ _ _ s (by omega)
    have hdm : m * 2 ^ more / n * n ≤ m * 2 ^ more := Nat.div_mul_le_self _ _
    have hge : n ≤ m * 2 ^ more := by
      have a1 := Nat.log2_self_le hm0
      have a2 : n < 2 ^ (n.log2 + 1) := Nat.lt_log2_self
      have a3 : 2 ^ (n.log2 + 1) ≤ 2 ^ m.log2 * 2 ^ more := by rw [← Nat.pow_add]; exact Nat.pow_le_pow_right (by omega) (by omega)
      have a4 := Nat.mul_le_mul_right (2 ^ more) a1
      omega
    have hq : 1 ≤ m * 2 ^ more / n := (Nat.le_div_iff_mul_le (by omega)).2 (by omega)
    rw [Nat.shiftLeft_eq]
    generalize m * 2 ^ more / n = q at hdm hq ⊢
    have hst : ((m * 2 ^ more % n != 0).toNat) ≤ 1 := by cases (m * 2 ^ more % n != 0) <;> decide
    generalize ((m * 2 ^ more % n != 0).toNat) = st at hst ⊢
    have hl : (2 * q + st).log2 ≤ q.log2 + 1 := by
      have := (Nat.log2_lt (n := 2 * q + st) (by omega) (k := q.log2 + 2)).2 (by
        have : q < 2 ^ (q.log2 + 1) := Nat.lt_log2_self
        have e2 : 2 ^ (q.log2 + 2) = 2 * 2 ^ (q.log2 + 1) := by rw [Nat.pow_succ]; omega
        omega)
      omega
    have hql := Nat.log2_self_le (show q ≠ 0 by omega)
    have hc : 2 ^ q.log2 * 2 ^ (e + 1074).toNat ≤ 2 ^ (f + 1074).toNat * 2 ^ s * 2 ^ more := by
      apply Nat.le_of_mul_le_mul_left (c := n) _ (by omega)
      calc n * (2 ^ q.log2 * 2 ^ (e + 1074).toNat) = (2 ^ q.log2 * n) * 2 ^ (e + 1074).toNat := by rw [← Nat.mul_assoc, Nat.mul_comm n]
        _ ≤ (q * n) * 2 ^ (e + 1074).toNat := Nat.mul_le_mul_right _ (Nat.mul_le_mul_right _ hql)
        _ ≤ (m * 2 ^ more) * 2 ^ (e + 1074).toNat := Nat.mul_le_mul_right _ hdm
        _ = (m * 2 ^ (e + 1074).toNat) * 2 ^ more := by rw [Nat.mul_right_comm]
        _ ≤ (n * 2 ^ (f + 1074).toNat * 2 ^ s) * 2 ^ more := Nat.mul_le_mul_right _ hm
        _ = n * (2 ^ (f + 1074).toNat * 2 ^ s * 2 ^ more) := by simp only [Nat.mul_assoc]
    rw [← Nat.pow_add, ← Nat.pow_add, ← Nat.pow_add] at hc
    have := (Nat.pow_le_pow_iff_right (show 1 < 2 by omega)).1 hc
    omega
theorem mag_fofi_le {n : Int} {c : Nat} (h1 : 1 ≤ c) (h2 : c ≤ 2047) (h : ∀ u, u = 2 ^ 1074 → n.natAbs * u ≤ 4503599627370496 * 2 ^ (c - 1)) : rung (fofi n) ≤ c * 4503599627370496 := by
  rw [rung_fofi]
  have := rungOf_mono (h _ rfl)
  rw [← mag_binade c h1, rungOf_mag (by unfold INF; omega)] at this
  exact this
theorem rung_fofi_le {n : Int} {b : Nat} (hb : b ≤ 900) (h : n.natAbs ≤ 2 ^ b) : rung (fofi n) ≤ (1023 + b) * 4503599627370496 := by
  refine mag_fofi_le (by omega) (by omega) fun u hu => ?_
  subst hu
  rw [show (4503599627370496 : Nat) = 2 ^ 52 by decide, ← Nat.pow_add]
  refine Nat.le_trans (Nat.mul_le_mul_right _ h) ?_
  rw [← Nat.pow_add]
  exact Nat.pow_le_pow_right (by omega) (by omega)
/-- n / y, where y is 1 or more in size. -/
theorem quo_ge_one {n : Int} {y b : Nat} (hb : b ≤ 800) (h : n.natAbs ≤ 2 ^ b) (hy : Fin y) (h1 : 1023 * 4503599627370496 ≤ rung y) :
    fok .quo (fofi n) y = true ∧ rung (fop .quo (fofi n) y) ≤ (1024 + b) * 4503599627370496 := by
  have hr := rung_fofi_le (by omega) h
  refine quo_bound hb (by unfold Fin INF; omega) hy (by omega) ?_
  have a := mag_le hr
  have c := mag_le h1
  rw [mag_binade _ (by omega)] at a c
  refine Nat.le_trans a ?_
  refine Nat.le_trans ?_ (Nat.mul_le_mul_right _ c)
  rw [Nat.mul_assoc, ← Nat.pow_add]
  exact Nat.mul_le_mul_left _ (Nat.pow_le_pow_right (by omega) (by omega))
end F64
end Go.Proofs.YtigegicbfmjpbaaDoorW
