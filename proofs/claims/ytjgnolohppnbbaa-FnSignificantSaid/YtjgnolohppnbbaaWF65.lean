/- Binary floating point by rungs, further: products, quotients, whole numbers made floats. Conditions: none. -/
import Derived.Test.YtjgnolohppnbbaaWF64
set_option maxRecDepth 100000
set_option exponentiation.threshold 2000
set_option linter.unusedVariables false
namespace Go.Proofs.YtjgnolohppnbbaaW
namespace F64
open Ieee

theorem nearest_word (s : Bool) (m : Nat) (e : Int) : ∃ r, r ≤ INF ∧ double.nearest s m e = double.word s r := by
  unfold Format.nearest
  by_cases h0 : m = 0
  · rw [if_pos h0]; exact ⟨0, by unfold INF; omega, rfl⟩
  · rw [if_neg h0]; exact ⟨_, by rw [inf_eq]; exact Nat.min_le_right _ _, rfl⟩
theorem nearest_notNaN (s : Bool) (m : Nat) (e : Int) : ¬ IsNaN (double.nearest s m e) := by
  obtain ⟨r, h, e⟩ := nearest_word s m e
  rw [e]; exact word_notNaN s h
theorem word_inf_notNaN (s : Bool) : ¬ IsNaN (double.word s double.infRung) := by
  rw [inf_eq]; exact word_notNaN s (Nat.le_refl INF)
/-- A number below 2^11 in size is finite. -/
theorem nearest_small (s : Bool) (m : Nat) (e : Int) (h : e + m.log2 ≤ 900) : Fin (double.nearest s m e) := by
  unfold Format.nearest
  by_cases h0 : m = 0
  · rw [if_pos h0]; unfold Fin; rw [rung_word s (by unfold INF; omega)]; unfold INF; omega
  · rw [if_neg h0]
    simp only [binade_eq, least_eq, inf_eq, cut_even]
    have hfb : (double.fractionBits : Int) = 52 := rfl
    rw [hfb]
    generalize hL : max (e + (m.log2 : Int) - 52) (-1074) = L
    have hkept : rne (m <<< (e - L).toNat) (2 ^ (L - e).toNat) ≤ 9007199254740992 := by
      refine rne_hi (Nat.two_pow_pos _) ?_
      have hlt : m < 2 ^ (m.log2 + 1) := Nat.lt_log2_self
      rw [Nat.shiftLeft_eq, show (9007199254740992 : Nat) = 2 ^ 53 by decide, ← Nat.pow_add]
      refine Nat.le_trans (Nat.mul_le_mul_right _ (Nat.le_of_lt hlt)) ?_
      rw [← Nat.pow_add]
      exact Nat.pow_le_pow_right (by omega) (by omega)
    generalize rne (m <<< (e - L).toNat) (2 ^ (L - e).toNat) = kept at hkept ⊢
    unfold Fin
    have hle : (L - -1074).toNat ≤ 1922 := by omega
    generalize (L - -1074).toNat = q at hle ⊢
    have hb : min (q * 4503599627370496 + kept) 9218868437227405312 < INF := by unfold INF; omega
    rw [rung_word s (Nat.le_of_lt hb)]
    exact hb

theorem mul_ok {x y : Nat} (hx : Fin x) (hy : Fin y) : fok .mul x y = true ∧ ¬ IsNaN (fop .mul x y) := by
  obtain ⟨m, e, h1, _, _⟩ := read_fin hx
  obtain ⟨n, f, g1, _, _⟩ := read_fin hy
  have h : double.mul x y = some (double.nearest (sgn x ^^ sgn y) (m * n) (e + f)) := by unfold Format.mul; rw [h1, g1]; rfl
  unfold fok fop fres
  rw [show FloatKind.f64.format.mul x y = _ from h]
  exact ⟨rfl, nearest_notNaN _ _ _⟩
theorem add_ok {x y : Nat} (hx : Fin x) (hy : ¬ IsNaN y) : fok .add x y = true ∧ ¬ IsNaN (fop .add x y) := by
  unfold fok fop fres
  show (double.add x y).isSome = true ∧ ¬ IsNaN ((double.add x y).getD 0)
  rcases cases3 y with g | g | g
  · obtain ⟨r, a, _, b⟩ := add_fin hx g
    rw [a]; exact ⟨rfl, b⟩
  · obtain ⟨m, e, h1, _, _⟩ := read_fin hx
    have h : double.add x y = some (double.word (sgn y) double.infRung) := by unfold Format.add; rw [h1, read_inf g]; rfl
    rw [h]; exact ⟨rfl, word_inf_notNaN _⟩
  · exact absurd g hy
theorem sub_ok {x y : Nat} (hx : Fin x) (hy : ¬ IsNaN y) : fok .sub x y = true ∧ ¬ IsNaN (fop .sub x y) := by
  unfold fok fop fres
  show (double.sub x y).isSome = true ∧ ¬ IsNaN ((double.sub x y).getD 0)
  rcases cases3 y with g | g | g
  · obtain ⟨r, a, _, b, _⟩ := sub_fin hx g
    rw [a]; exact ⟨rfl, b⟩
  · obtain ⟨m, e, h1, _, _⟩ := read_fin hx
    have h : double.sub x y = some (double.word (!sgn y) double.infRung) := by unfold Format.sub; rw [h1, read_inf g]; rfl
    rw [h]; exact ⟨rfl, word_inf_notNaN _⟩
  · exact absurd g hy
/-- A difference of two numbers whose difference is below a bound in size is finite. -/
theorem sub_small {x y : Nat} (hx : Fin x) (hy : Fin y) (h : rungOf (val x - val y).natAbs < INF) : fok .sub x y = true ∧ Fin (fop .sub x y) := by
  obtain ⟨r, a, b, c, g, d, _⟩ := sub_fin hx hy
  have e : fres .sub x y = some r := a
  unfold fok fop; rw [e]
  refine ⟨rfl, ?_⟩
  show Fin r
  unfold Fin; rw [d, rung_word _ (rungOf_le _)]; exact h

theorem fofi_word (n : Int) : fofi n = double.word (decide (n < 0)) (rungOf (n.natAbs * 2 ^ 1074)) := by
  have h : fofi n = double.nearest (decide (n < 0)) n.natAbs 0 := rfl
  rw [h, nearest_place _ _ _ (by omega)]; rfl
theorem rung_fofi (n : Int) : rung (fofi n) = rungOf (n.natAbs * 2 ^ 1074) := by
  rw [fofi_word, rung_word _ (rungOf_le _)]
theorem rung_fofi_mono {n m : Int} (h : n.natAbs ≤ m.natAbs) : rung (fofi n) ≤ rung (fofi m) := by
  rw [rung_fofi, rung_fofi]; exact rungOf_mono (Nat.mul_le_mul_right _ h)
theorem rungOf_million : rungOf (1000000 * 2 ^ 1074) < INF := by decide +kernel
theorem rungOf_unit : 0 < rungOf (1 * 2 ^ 1074) := by decide +kernel
theorem fofi_fin {n : Int} (h : n.natAbs ≤ 1000000) : Fin (fofi n) := by
  unfold Fin; rw [rung_fofi]
  exact Nat.lt_of_le_of_lt (rungOf_mono (Nat.mul_le_mul_right _ h)) rungOf_million
theorem fofi_pos {n : Int} (h : n ≠ 0) : 0 < rung (fofi n) := by
  rw [rung_fofi]
  exact Nat.lt_of_lt_of_le rungOf_unit (rungOf_mono (Nat.mul_le_mul_right _ (by omega)))

theorem mag_pos {r : Nat} (h : 0 < r) : 0 < mag r := Nat.lt_of_le_of_lt (Nat.zero_le _) (mag_lt h)
/-- A quotient by no smaller number is finite. -/
theorem quo_small {x y : Nat} (hx : Fin x) (hy : Fin y) (h0 : 0 < rung y) (hle : rung x ≤ rung y) : fok .quo x y = true ∧ Fin (fop .quo x y) := by
  obtain ⟨m, e, h1, h2, h3⟩ := read_fin hx
  obtain ⟨n, f, g1, g2, g3⟩ := read_fin hy
  have hn : n ≠ 0 := by
    rintro rfl
    have := mag_pos h0
    omega
  have hm := mag_le hle
  rw [← h3, ← g3] at hm
  have h : double.div x y = some (double.nearest (sgn x ^^ sgn y) (2 * ((m <<< (54 + n.log2 - m.log2)) / n) + (((m <<< (54 + n.log2 - m.log2)) % n != 0).toNat)) (e - f - (54 + n.log2 - m.log2 : Nat) - 1)) := by
    unfold Format.div; rw [h1, g1]
    show ((if n = 0 then _ else _ : Option Datum).map double.write) = _
    rw [if_neg hn]; rfl
  unfold fok fop fres
  rw [show FloatKind.f64.format.div x y = _ from h]
  refine ⟨rfl, ?_⟩
  show Fin (double.nearest _ _ _)
  generalize hmore : 54 + n.log2 - m.log2 = more
  by_cases hm0 : m = 0
  · subst hm0
    obtain ⟨r, hr⟩ : ∃ r, r = double.nearest (sgn x ^^ sgn y) 0 (e - f - (more : Nat) - 1) := ⟨_, rfl⟩
    rw [show 2 * (0 <<< more / n) + ((0 <<< more % n != 0).toNat) = 0 by simp]
    unfold Format.nearest
    rw [if_pos rfl]; unfold Fin; rw [rung_word _ (by unfold INF; omega)]; unfold INF; omega
  · apply nearest_small
    have hdm : m * 2 ^ more / n * n ≤ m * 2 ^ more := Nat.div_mul_le_self _ _
    have hge : n ≤ m * 2 ^ more := by
      have a1 := Nat.log2_self_le hm0
      have a2 : n < 2 ^ (n.log2 + 1) := Nat.lt_log2_self
      have a3 : 2 ^ (n.log2 + 1) ≤ 2 ^ m.log2 * 2 ^ more := by rw [← Nat.pow_add]; exact Nat.pow_le_pow_right (by omega) (by omega)
      have a4 := Nat.mul_le_mul_right (2 ^ more) a1
      omega
    have hq : 1 ≤ m * 2 ^ more / n := (Nat.le_div_iff_mul_le (by omega)).2 (by omega)
    rw [Nat.shiftLeft_eq]
    generalize m * 2 ^ more / n = q at hdm hq ⊢
    have hs : ((m * 2 ^ more % n != 0).toNat) ≤ 1 := by cases (m * 2 ^ more % n != 0) <;> decide
    generalize ((m * 2 ^ more % n != 0).toNat) = st at hs ⊢
    have hl : (2 * q + st).log2 ≤ q.log2 + 1 := by
      have := (Nat.log2_lt (n := 2 * q + st) (by omega) (k := q.log2 + 2)).2 (by
        have : q < 2 ^ (q.log2 + 1) := Nat.lt_log2_self
        have e2 : 2 ^ (q.log2 + 2) = 2 * 2 ^ (q.log2 + 1) := by rw [Nat.pow_succ]; omega
        omega)
      omega
    have hql := Nat.log2_self_le (show q ≠ 0 by omega)
    -- 2 ^ log2 q * n * 2 ^ (e + 1074) ≤ n * 2 ^ (f + 1074 + more)
    have hc : 2 ^ q.log2 * 2 ^ (e + 1074).toNat ≤ 2 ^ (f + 1074).toNat * 2 ^ more := by
      apply Nat.le_of_mul_le_mul_left (c := n) _ (by omega)
      calc n * (2 ^ q.log2 * 2 ^ (e + 1074).toNat) = (2 ^ q.log2 * n) * 2 ^ (e + 1074).toNat := by rw [← Nat.mul_assoc, Nat.mul_comm n]
        _ ≤ (q * n) * 2 ^ (e + 1074).toNat := Nat.mul_le_mul_right _ (Nat.mul_le_mul_right _ hql)
        _ ≤ (m * 2 ^ more) * 2 ^ (e + 1074).toNat := Nat.mul_le_mul_right _ hdm
        _ = (m * 2 ^ (e + 1074).toNat) * 2 ^ more := by rw [Nat.mul_right_comm]
        _ ≤ (n * 2 ^ (f + 1074).toNat) * 2 ^ more := Nat.mul_le_mul_right _ hm
        _ = n * (2 ^ (f + 1074).toNat * 2 ^ more) := by rw [Nat.mul_assoc]
    rw [← Nat.pow_add, ← Nat.pow_add] at hc
    have := (Nat.pow_le_pow_iff_right (show 1 < 2 by omega)).1 hc
    omega
/-- 'float64(n) / float64(m)' for n not above m. -/
theorem quo_ratio {n m : Int} (h0 : m ≠ 0) (h1 : n.natAbs ≤ m.natAbs) (h2 : m.natAbs ≤ 1000000) : fok .quo (fofi n) (fofi m) = true ∧ Fin (fop .quo (fofi n) (fofi m)) :=
  quo_small (fofi_fin (by omega)) (fofi_fin h2) (fofi_pos h0) (rung_fofi_mono h1)
theorem fneg_xor (x : Nat) : fneg x = x ^^^ 2 ^ 63 := rfl
theorem rung_fneg (x : Nat) : rung (fneg x) = rung x := by
  unfold rung
  rw [fneg_xor, show (9223372036854775808 : Nat) = 2 ^ 63 by decide, Nat.xor_mod_two_pow, Nat.mod_self, Nat.xor_zero]
theorem sgn_fneg (x : Nat) : sgn (fneg x) = !sgn x := by
  unfold sgn
  rw [fneg_xor, show (9223372036854775808 : Nat) = 2 ^ 63 by decide, Nat.xor_div_two_pow, Nat.div_self (by decide)]
  generalize x / 2 ^ 63 = y
  have h := Nat.xor_mod_two_pow (a := y) (b := 1) (n := 1)
  rw [Nat.pow_one] at h
  rw [h]
  rcases Nat.mod_two_eq_zero_or_one y with e | e <;> rw [e] <;> decide
theorem key_fneg (x : Nat) : key (fneg x) = - key x := by
  unfold key; rw [rung_fneg, sgn_fneg]
  cases sgn x <;> simp
theorem notNaN_fneg {x : Nat} (h : ¬ IsNaN x) : ¬ IsNaN (fneg x) := by unfold IsNaN at *; rwa [rung_fneg]
theorem notNaN_fabs {x : Nat} (h : ¬ IsNaN x) : ¬ IsNaN (fabs x) := by unfold IsNaN at *; rwa [rung_fabs]
/-- The absolute value by a comparison with 0. -/
theorem key_abs {x : Nat} (h : ¬ IsNaN x) : key (if flt x 0 = true then fneg x else x) = key (fabs x) ∧ ¬ IsNaN (if flt x 0 = true then fneg x else x) := by
  have h0 : ¬ IsNaN 0 := by decide
  have k0 : key 0 = 0 := by decide
  rw [flt_key h h0, k0]
  by_cases hk : key x < 0
  · rw [decide_eq_true hk, if_pos rfl]
    refine ⟨?_, notNaN_fneg h⟩
    rw [key_fneg, key_fabs]
    unfold key at *
    cases hs : sgn x <;> rw [hs] at hk <;> simp at hk ⊢ <;> omega
  · rw [decide_eq_false hk, if_neg (by decide)]
    refine ⟨?_, h⟩
    rw [key_fabs]
    unfold key at *
    cases hs : sgn x <;> rw [hs] at hk <;> simp at hk ⊢ <;> omega

/-! Bounds by whole binades: rung x ≤ c * 2^52. -/
theorem mag_binade (c : Nat) (h : 1 ≤ c) : mag (c * 4503599627370496) = 4503599627370496 * 2 ^ (c - 1) := by
  unfold mag
  rw [if_neg (by omega), Nat.mul_mod_left, Nat.mul_div_cancel _ (by omega)]
theorem le_binade {x c : Nat} (h1 : 1 ≤ c) (h : rung x ≤ c * 4503599627370496) : (val x).natAbs ≤ 4503599627370496 * 2 ^ (c - 1) := by
  have := mag_le h
  rw [mag_binade c h1] at this
  unfold val
  split <;> omega
theorem rung_of_val {v : Int} {c : Nat} (h1 : 1 ≤ c) (h2 : c ≤ 2047) (h : v.natAbs ≤ 4503599627370496 * 2 ^ (c - 1)) : rungOf v.natAbs ≤ c * 4503599627370496 := by
  have := rungOf_mono h
  rwa [← mag_binade c h1, rungOf_mag (by unfold INF; omega)] at this
theorem add_bound {x y c : Nat} (h1 : 1 ≤ c) (h2 : c ≤ 2000) (hx : rung x ≤ c * 4503599627370496) (hy : rung y ≤ c * 4503599627370496) : fok .add x y = true ∧ rung (fop .add x y) ≤ (c + 1) * 4503599627370496 := by
  have fx : Fin x := by unfold Fin INF; omega
  have fy : Fin y := by unfold Fin INF; omega
  obtain ⟨r, a, b, n⟩ := add_fin fx fy
  have e : fres .add x y = some r := a
  unfold fok fop; rw [e]
  refine ⟨rfl, ?_⟩
  show rung r ≤ _
  have bx := le_binade h1 hx
  have by_ := le_binade h1 hy
  have hv : (val x + val y).natAbs ≤ 4503599627370496 * 2 ^ (c + 1 - 1) := by
    have : 2 ^ (c + 1 - 1) = 2 * 2 ^ (c - 1) := by rw [show c + 1 - 1 = (c - 1) + 1 by omega, Nat.pow_succ]; omega
    omega
  have hr := rung_of_val (c := c + 1) (by omega) (by omega) hv
  have hk : rung r = (K (val x + val y)).natAbs := by
    rw [← b]; unfold key; split <;> omega
  rw [hk]
  have hK : (K (val x + val y)).natAbs = rungOf (val x + val y).natAbs := by
    unfold K; generalize rungOf (val x + val y).natAbs = z; split <;> omega
  rw [hK]; exact hr
theorem nearest_bound (s : Bool) (m : Nat) (e : Int) (B : Nat) (hB : B ≤ 900) (h : e + m.log2 ≤ B) : rung (double.nearest s m e) ≤ (1024 + B) * 4503599627370496 := by
  unfold Format.nearest
  by_cases h0 : m = 0
  · rw [if_pos h0]; rw [rung_word s (by unfold INF; omega)]; omega
  · rw [if_neg h0]
    simp only [binade_eq, least_eq, inf_eq, cut_even]
    have hfb : (double.fractionBits : Int) = 52 := rfl
    rw [hfb]
    generalize hL : max (e + (m.log2 : Int) - 52) (-1074) = L
    have hkept : rne (m <<< (e - L).toNat) (2 ^ (L - e).toNat) ≤ 9007199254740992 := by
      refine rne_hi (Nat.two_pow_pos _) ?_
      have hlt : m < 2 ^ (m.log2 + 1) := Nat.lt_log2_self
      rw [Nat.shiftLeft_eq, show (9007199254740992 : Nat) = 2 ^ 53 by decide, ← Nat.pow_add]
      refine Nat.le_trans (Nat.mul_le_mul_right _ (Nat.le_of_lt hlt)) ?_
      rw [← Nat.pow_add]
      exact Nat.pow_le_pow_right (by omega) (by omega)
    generalize rne (m <<< (e - L).toNat) (2 ^ (L - e).toNat) = kept at hkept ⊢
    have hle : (L - -1074).toNat ≤ 1022 + B := by omega
    generalize (L - -1074).toNat = q at hle ⊢
    rw [rung_word s (Nat.min_le_right _ 9218868437227405312)]
    omega
/-- A quotient by a number that is not smaller but for a factor 2 ^ s. -/
theorem quo_bound {x y : Nat} {s : Nat} (hs : s ≤ 800) (hx : Fin x) (hy : Fin y) (h0 : 0 < rung y) (hle : mag (rung x) ≤ mag (rung y) * 2 ^ s) : fok .quo x y = true ∧ rung (fop .quo x y) ≤ (1024 + s) * 4503599627370496 := by
  obtain ⟨m, e, h1, h2, h3⟩ := read_fin hx
  obtain ⟨n, f, g1, g2, g3⟩ := read_fin hy
  have hn : n ≠ 0 := by
    rintro rfl
    have := mag_pos h0
    omega
  have hm := hle
  rw [← h3, ← g3] at hm
  have h : double.div x y = some (double.nearest (sgn x ^^ sgn y) (2 * ((m <<< (54 + n.log2 - m.log2)) / n) + (((m <<< (54 + n.log2 - m.log2)) % n != 0).toNat)) (e - f - (54 + n.log2 - m.log2 : Nat) - 1)) := by
    unfold Format.div; rw [h1, g1]
    show ((if n = 0 then _ else _ : Option Datum).map double.write) = _
    rw [if_neg hn]; rfl
  unfold fok fop fres
  rw [show FloatKind.f64.format.div x y = _ from h]
  refine ⟨rfl, ?_⟩
  show rung (double.nearest _ _ _) ≤ _
  generalize hmore : 54 + n.log2 - m.log2 = more
  by_cases hm0 : m = 0
  · subst hm0
    rw [show 2 * (0 <<< more / n) + ((0 <<< more % n != 0).toNat) = 0 by simp]
    unfold Format.nearest
    rw [if_pos rfl]; rw [rung_word _ (by unfold INF; omega)]; omega
  · apply nearest_bound _ _ _ s (by omega)
    have hdm : m * 2 ^ more / n * n ≤ m * 2 ^ more := Nat.div_mul_le_self _ _
    have hge : n ≤ m * 2 ^ more := by
      have a1 := Nat.log2_self_le hm0
      have a2 : n < 2 ^ (n.log2 + 1) := Nat.lt_log2_self
      have a3 : 2 ^ (n.log2 + 1) ≤ 2 ^ m.log2 * 2 ^ more := by rw [← Nat.pow_add]; exact Nat.pow_le_pow_right (by omega) (by omega)
      have a4 := Nat.mul_le_mul_right (2 ^ more) a1
      omega
    have hq : 1 ≤ m * 2 ^ more / n := (Nat.le_div_iff_mul_le (by omega)).2 (by omega)
    rw [Nat.shiftLeft_eq]
    generalize m * 2 ^ more / n = q at hdm hq ⊢
    have hst : ((m * 2 ^ more % n != 0).toNat) ≤ 1 := by cases (m * 2 ^ more % n != 0) <;> decide
    generalize ((m * 2 ^ more % n != 0).toNat) = st at hst ⊢
    have hl : (2 * q + st).log2 ≤ q.log2 + 1 := by
      have := (Nat.log2_lt (n := 2 * q + st) (by omega) (k := q.log2 + 2)).2 (by
        have : q < 2 ^ (q.log2 + 1) := Nat.lt_log2_self
        have e2 : 2 ^ (q.log2 + 2) = 2 * 2 ^ (q.log2 + 1) := by rw [Nat.pow_succ]; omega
        omega)
      omega
    have hql := Nat.log2_self_le (show q ≠ 0 by omega)
    have hc : 2 ^ q.log2 * 2 ^ (e + 1074).toNat ≤ 2 ^ (f + 1074).toNat * 2 ^ s * 2 ^ more := by
      apply Nat.le_of_mul_le_mul_left (c := n) _ (by omega)
      calc n * (2 ^ q.log2 * 2 ^ (e + 1074).toNat) = (2 ^ q.log2 * n) * 2 ^ (e + 1074).toNat := by rw [← Nat.mul_assoc, Nat.mul_comm n]
        _ ≤ (q * n) * 2 ^ (e + 1074).toNat := Nat.mul_le_mul_right _ (Nat.mul_le_mul_right _ hql)
        _ ≤ (m * 2 ^ more) * 2 ^ (e + 1074).toNat := Nat.mul_le_mul_right _ hdm
        _ = (m * 2 ^ (e + 1074).toNat) * 2 ^ more := by rw [Nat.mul_right_comm]
        _ ≤ (n * 2 ^ (f + 1074).toNat * 2 ^ s) * 2 ^ more := Nat.mul_le_mul_right _ hm
        _ = n * (2 ^ (f + 1074).toNat * 2 ^ s * 2 ^ more) := by simp only [Nat.mul_assoc]
    rw [← Nat.pow_add, ← Nat.pow_add, ← Nat.pow_add] at hc
    have := (Nat.pow_le_pow_iff_right (show 1 < 2 by omega)).1 hc
    omega
theorem mag_fofi_le {n : Int} {c : Nat} (h1 : 1 ≤ c) (h2 : c ≤ 2047) (h : ∀ u, u = 2 ^ 1074 → n.natAbs * u ≤ 4503599627370496 * 2 ^ (c - 1)) : rung (fofi n) ≤ c * 4503599627370496 := by
  rw [rung_fofi]
  have := rungOf_mono (h _ rfl)
  rw [← mag_binade c h1, rungOf_mag (by unfold INF; omega)] at this
  exact this
theorem rung_fofi_le {n : Int} {b : Nat} (hb : b ≤ 900) (h : n.natAbs ≤ 2 ^ b) : rung (fofi n) ≤ (1023 + b) * 4503599627370496 := by
  refine mag_fofi_le (by omega) (by omega) fun u hu => ?_
  subst hu
  rw [show (4503599627370496 : Nat) = 2 ^ 52 by decide, ← Nat.pow_add]
  refine Nat.le_trans (Nat.mul_le_mul_right _ h) ?_
  rw [← Nat.pow_add]
  exact Nat.pow_le_pow_right (by omega) (by omega)
/-- n / y, where y is 1 or more in size. -/
theorem quo_ge_one {n : Int} {y b : Nat} (hb : b ≤ 800) (h : n.natAbs ≤ 2 ^ b) (hy : Fin y) (h1 : 1023 * 4503599627370496 ≤ rung y) :
    fok .quo (fofi n) y = true ∧ rung (fop .quo (fofi n) y) ≤ (1024 + b) * 4503599627370496 := by
  have hr := rung_fofi_le (by omega) h
  refine quo_bound hb (by unfold Fin INF; omega) hy (by omega) ?_
  have a := mag_le hr
  have c := mag_le h1
  rw [mag_binade _ (by omega)] at a c
  refine Nat.le_trans a ?_
  refine Nat.le_trans ?_ (Nat.mul_le_mul_right _ c)
  rw [Nat.mul_assoc, ← Nat.pow_add]
  exact Nat.mul_le_mul_left _ (Nat.pow_le_pow_right (by omega) (by omega))
theorem quo_ten {n : Int} {b : Nat} (hb : b ≤ 800) (h : n.natAbs ≤ 2 ^ b) : fok .quo (fofi n) 4621819117588971520 = true ∧ rung (fop .quo (fofi n) 4621819117588971520) ≤ (1024 + b) * 4503599627370496 :=
  quo_ge_one hb h (by decide) (by decide)
end F64
end Go.Proofs.YtjgnolohppnbbaaW
