/- Binary floating point by rungs: order, rounding, exactness, over the model's own words (Ieee). Conditions: none. -/
import Derived.Test.YtigegicbfmjpbaaDoorWFloat
set_option maxRecDepth 100000
set_option linter.unusedVariables false
namespace Go.Proofs.YtigegicbfmjpbaaDoorW
namespace F64
open Ieee

theorem binade_eq : double.binade = 4503599627370496 := by decide
theorem least_eq : double.leastPlace = -1074 := by decide
theorem inf_eq : double.infRung = 9218868437227405312 := by decide
theorem sw_eq : double.signWeight = 9223372036854775808 := by decide

/-- The rung of a word. -/
def rung (w : Nat) : Nat := w % 9223372036854775808
def sgn (w : Nat) : Bool := w / 9223372036854775808 % 2 == 1
def INF : Nat := 9218868437227405312
def IsNaN (w : Nat) : Prop := INF < rung w
def Fin (w : Nat) : Prop := rung w < INF
/-- The magnitude of a rung, in units of the least place. -/
def mag (r : Nat) : Nat := if r < 4503599627370496 then r else (4503599627370496 + r % 4503599627370496) * 2 ^ (r / 4503599627370496 - 1)
def key (w : Nat) : Int := if sgn w then -(rung w : Int) else rung w
def val (w : Nat) : Int := if sgn w then -(mag (rung w) : Int) else mag (rung w)

theorem dm1 {B q m : Nat} (h : m < B) : (q * B + m) / B = q := by
  rw [Nat.mul_comm, Nat.mul_add_div (by omega), Nat.div_eq_of_lt h]; rfl
theorem dm2 {B q m : Nat} (h : m < B) : (q * B + m) % B = m := by
  rw [Nat.mul_comm, Nat.mul_add_mod, Nat.mod_eq_of_lt h]
theorem mag_succ (r : Nat) : mag r < mag (r + 1) := by
  unfold mag
  by_cases h : r + 1 < 4503599627370496
  · rw [if_pos h, if_pos (by omega)]; omega
  · rw [if_neg h]
    by_cases h2 : r < 4503599627370496
    · have : r = 4503599627370495 := by omega
      subst this; simp
    · rw [if_neg h2]
      obtain ⟨q, m, hm, rfl⟩ : ∃ q m, m < 4503599627370496 ∧ r = (q + 1) * 4503599627370496 + m :=
        ⟨r / 4503599627370496 - 1, r % 4503599627370496, Nat.mod_lt _ (by omega), by omega⟩
      rw [dm1 hm, dm2 hm]
      by_cases h3 : m + 1 < 4503599627370496
      · rw [Nat.add_assoc _ m 1, dm1 h3, dm2 h3]
        exact Nat.mul_lt_mul_of_pos_right (by omega) (Nat.two_pow_pos _)
      · have e0 : (q + 1) * 4503599627370496 + m + 1 = (q + 2) * 4503599627370496 + 0 := by omega
        rw [e0, dm1 (show 0 < 4503599627370496 by omega), dm2 (show 0 < 4503599627370496 by omega)]
        simp only [Nat.add_sub_cancel, Nat.add_zero, show q + 2 - 1 = q + 1 by omega, Nat.pow_succ]
        have := Nat.two_pow_pos q
        rw [show 4503599627370496 * (2 ^ q * 2) = 9007199254740992 * 2 ^ q by omega]
        exact Nat.mul_lt_mul_of_pos_right (by omega) this

theorem mag_lt {r s : Nat} (h : r < s) : mag r < mag s := by
  induction s with
  | zero => omega
  | succ s ih =>
    rcases Nat.lt_succ_iff_lt_or_eq.1 h with h | rfl
    · exact Nat.lt_trans (ih h) (mag_succ s)
    · exact mag_succ r

theorem mag_le {r s : Nat} (h : r ≤ s) : mag r ≤ mag s := by
  rcases Nat.lt_or_eq_of_le h with h | rfl
  · exact Nat.le_of_lt (mag_lt h)
  · exact Nat.le_refl _

theorem read_fin {w : Nat} (h : Fin w) : ∃ m : Nat, ∃ e : Int, double.read w = .number (sgn w) m e ∧ -1074 ≤ e ∧ m * 2 ^ (e + 1074).toNat = mag (rung w) := by
  unfold Fin INF rung at h
  unfold Format.read
  simp only [binade_eq, least_eq, inf_eq, sw_eq]
  by_cases h2 : w % 9223372036854775808 < 4503599627370496
  · refine ⟨_, _, by rw [if_pos h2]; rfl, by omega, ?_⟩
    unfold mag rung; rw [if_pos h2]; simp
  · refine ⟨_, _, by rw [if_neg h2, if_pos h]; rfl, by omega, ?_⟩
    unfold mag rung; rw [if_neg h2]
    congr 2
    omega
theorem read_inf {w : Nat} (h : rung w = INF) : double.read w = .infinity (sgn w) := by
  unfold INF rung at h
  unfold Format.read
  simp only [binade_eq, inf_eq, sw_eq]
  rw [if_neg (by omega), if_neg (by omega), if_pos h]; rfl
theorem read_nan {w : Nat} (h : IsNaN w) : ∃ f, double.read w = .nan (sgn w) f := by
  unfold IsNaN INF rung at h
  unfold Format.read
  simp only [binade_eq, inf_eq, sw_eq]
  rw [if_neg (by omega), if_neg (by omega), if_neg (by omega)]; exact ⟨_, rfl⟩

theorem cases3 (w : Nat) : Fin w ∨ rung w = INF ∨ IsNaN w := by unfold Fin IsNaN; omega

theorem compare_scale (a b : Int) (k : Nat) : compare (a * 2 ^ k) (b * 2 ^ k) = compare a b := by
  have hp : (0 : Int) < 2 ^ k := Int.pow_pos (by omega)
  rcases Int.lt_trichotomy a b with h | rfl | h
  · have := Int.mul_lt_mul_of_pos_right h hp
    rw [Int.compare_eq_lt.2 h, Int.compare_eq_lt.2 this]
  · rw [Int.compare_eq_eq.2 rfl, Int.compare_eq_eq.2 rfl]
  · have := Int.mul_lt_mul_of_pos_right h hp
    rw [Int.compare_eq_gt.2 h, Int.compare_eq_gt.2 this]

theorem signed_eq (s : Bool) (m k : Nat) : signed s m k = if s then -((m * 2 ^ k : Nat) : Int) else ((m * 2 ^ k : Nat) : Int) := by
  unfold signed; simp only [Nat.shiftLeft_eq]

theorem signed_scale (s : Bool) (m k j : Nat) : signed s m k * 2 ^ j = signed s m (k + j) := by
  rw [signed_eq, signed_eq]
  have : ((m * 2 ^ (k + j) : Nat) : Int) = ((m * 2 ^ k : Nat) : Int) * 2 ^ j := by
    rw [Nat.pow_add, ← Nat.mul_assoc]; push_cast; rfl
  split <;> rw [this]
  rw [Int.neg_mul]

theorem val_of_read {w : Nat} {s : Bool} {m : Nat} {e : Int} (hs : s = sgn w) (he : m * 2 ^ (e + 1074).toNat = mag (rung w)) : signed s m (e + 1074).toNat = val w := by
  rw [signed_eq, he, hs]; rfl

theorem order_val {x y : Nat} (hx : Fin x) (hy : Fin y) : double.order x y = some (compare (val x) (val y)) := by
  obtain ⟨m, e, h1, h2, h3⟩ := read_fin hx
  obtain ⟨n, f, g1, g2, g3⟩ := read_fin hy
  unfold Format.order
  rw [h1, g1]
  simp only [Datum.order]
  rw [← val_of_read rfl h3, ← val_of_read rfl g3, ← compare_scale _ _ (min e f + 1074).toNat, signed_scale, signed_scale,
    show (e - min e f).toNat + (min e f + 1074).toNat = (e + 1074).toNat by omega, show (f - min e f).toNat + (min e f + 1074).toNat = (f + 1074).toNat by omega]

theorem key_lt_val {x y : Nat} : key x < key y ↔ val x < val y := by
  have z : mag 0 = 0 := by decide
  have a1 := @mag_lt (rung x) (rung y)
  have a2 := @mag_lt (rung y) (rung x)
  have a3 := @mag_le (rung x) (rung y)
  have a4 := @mag_le (rung y) (rung x)
  have b1 : 0 < rung x → 0 < mag (rung x) := fun h => by have := mag_lt h; omega
  have b2 : 0 < rung y → 0 < mag (rung y) := fun h => by have := mag_lt h; omega
  have c1 : rung x = 0 → mag (rung x) = 0 := fun h => by rw [h]; exact z
  have c2 : rung y = 0 → mag (rung y) = 0 := fun h => by rw [h]; exact z
  unfold key val
  generalize mag (rung x) = mx at *
  generalize mag (rung y) = my at *
  cases sgn x <;> cases sgn y <;> simp only [Bool.false_eq_true, if_false, if_true] <;> omega

theorem compare_iff {a b c d : Int} (h1 : a < b ↔ c < d) (h2 : b < a ↔ d < c) : compare a b = compare c d := by
  rcases Int.lt_trichotomy a b with h | h | h
  · rw [Int.compare_eq_lt.2 h, Int.compare_eq_lt.2 (h1.1 h)]
  · rw [Int.compare_eq_eq.2 h, Int.compare_eq_eq.2 (by omega)]
  · rw [Int.compare_eq_gt.2 h, Int.compare_eq_gt.2 (h2.1 h)]

theorem order_key {x y : Nat} (hx : ¬ IsNaN x) (hy : ¬ IsNaN y) : double.order x y = some (compare (key x) (key y)) := by
  rcases cases3 x with h | h | h
  · rcases cases3 y with g | g | g
    · rw [order_val h g]; exact congrArg some (compare_iff key_lt_val key_lt_val).symm
    · obtain ⟨m, e, h1, h2, h3⟩ := read_fin h
      unfold Format.order
      rw [h1, read_inf g]
      simp only [Datum.order]
      unfold key; rw [g]
      unfold Fin INF at *
      cases sgn x <;> cases sgn y <;> simp only [Bool.false_eq_true, if_false, if_true, Option.some.injEq] <;> first | exact (Int.compare_eq_lt.2 (by omega)).symm | exact (Int.compare_eq_gt.2 (by omega)).symm
    · exact absurd g hy
  · rcases cases3 y with g | g | g
    · obtain ⟨m, e, h1, h2, h3⟩ := read_fin g
      unfold Format.order
      rw [h1, read_inf h]
      simp only [Datum.order]
      unfold key; rw [h]
      unfold Fin INF at *
      cases sgn x <;> cases sgn y <;> simp only [Bool.false_eq_true, if_false, if_true, Option.some.injEq] <;> first | exact (Int.compare_eq_lt.2 (by omega)).symm | exact (Int.compare_eq_gt.2 (by omega)).symm
    · unfold Format.order
      rw [read_inf g, read_inf h]
      simp only [Datum.order]
      unfold key; rw [g, h]
      unfold INF at *
      cases sgn x <;> cases sgn y <;> simp only [Bool.false_eq_true, if_false, if_true, Option.some.injEq] <;> first | exact (Int.compare_eq_lt.2 (by omega)).symm | exact (Int.compare_eq_gt.2 (by omega)).symm | exact (Int.compare_eq_eq.2 (by omega)).symm
    · exact absurd g hy
  · exact absurd h hx

theorem order_nan {x y : Nat} (h : IsNaN x ∨ IsNaN y) : double.order x y = none := by
  unfold Format.order
  rcases h with h | h
  · obtain ⟨f, hf⟩ := read_nan h; rw [hf]; rfl
  · obtain ⟨f, hf⟩ := read_nan h; rw [hf]; cases double.read x <;> rfl
end F64
namespace F64
open Ieee

/-! Rounding to a rung: of a whole number u of least places. -/
/-- u / d to the nearest whole number, ties to even. -/
def rne (u d : Nat) : Nat := u / d + (if d < 2 * (u % d) ∨ (d = 2 * (u % d) ∧ u / d % 2 = 1) then 1 else 0)

theorem rne_scale (u d k : Nat) (hk : 0 < k) (hd : 0 < d) : rne (u * k) (d * k) = rne u d := by
  unfold rne
  rw [Nat.mul_div_mul_right _ _ hk, Nat.mul_mod_mul_right]
  have e1 : (d * k < 2 * (u % d * k)) ↔ d < 2 * (u % d) := by
    rw [← Nat.mul_assoc]; exact Nat.mul_lt_mul_right hk
  have e2 : (d * k = 2 * (u % d * k)) ↔ d = 2 * (u % d) := by
    rw [← Nat.mul_assoc]
    exact ⟨fun h => Nat.eq_of_mul_eq_mul_right hk h, fun h => by rw [← h]⟩
  simp only [e1, e2]

theorem rne_mono {u v d : Nat} (hd : 0 < d) (h : u ≤ v) : rne u d ≤ rne v d := by
  unfold rne
  have h1 : u / d ≤ v / d := Nat.div_le_div_right h
  have eu := Nat.div_add_mod u d
  have ev := Nat.div_add_mod v d
  have lu := Nat.mod_lt u hd
  have lv := Nat.mod_lt v hd
  rcases Nat.lt_or_eq_of_le h1 with h2 | h2
  · split <;> split <;> omega
  · rw [h2] at eu ⊢
    have : u % d ≤ v % d := by omega
    split <;> split <;> omega

theorem rne_exact (q d : Nat) (hd : 0 < d) : rne (q * d) d = q := by
  unfold rne
  rw [Nat.mul_div_cancel _ hd, Nat.mul_mod_left]
  rw [if_neg (by omega)]; rfl

/-- 'cut' is 'rne'. -/
theorem cut_even (s : Bool) (n drop : Nat) : Toward.even.cut s n drop = rne n (2 ^ drop) := by
  have key : ∀ g, g = 2 ^ drop → (n / g + (decide (g < 2 * (n % g)) || (g == 2 * (n % g) && n / g % 2 == 1)).toNat) = rne n (2 ^ drop) := by
    rintro g rfl
    unfold rne
    congr 1
    generalize 2 ^ drop = g
    by_cases h1 : g < 2 * (n % g)
    · rw [if_pos (.inl h1), decide_eq_true h1]; rfl
    · rw [decide_eq_false h1, Bool.false_or]
      by_cases h2 : g = 2 * (n % g)
      · by_cases h3 : n / g % 2 = 1
        · rw [if_pos (.inr ⟨h2, h3⟩), beq_iff_eq.2 h2, beq_iff_eq.2 h3]; rfl
        · rw [if_neg (fun h => h.elim h1 (fun h => h3 h.2)), beq_eq_false_iff_ne.2 h3, Bool.and_false]; rfl
      · rw [if_neg (fun h => h.elim h1 (fun h => h2 h.1)), beq_eq_false_iff_ne.2 h2]; rfl
  unfold Toward.cut
  simp only [Nat.shiftLeft_eq, Nat.one_mul]
  by_cases h : drop ≤ n.log2 + 2
  · rw [Nat.min_eq_left h]
    exact key _ rfl
  · rw [Nat.min_eq_right (by omega)]
    have hlt : n < 2 ^ (n.log2 + 1) := Nat.lt_log2_self
    have hp : 2 ^ (n.log2 + 2) = 2 * 2 ^ (n.log2 + 1) := by rw [Nat.pow_succ]; omega
    have hle : 2 ^ (n.log2 + 2) ≤ 2 ^ drop := Nat.pow_le_pow_right (by omega) (by omega)
    have e1 : n / 2 ^ (n.log2 + 2) = 0 := Nat.div_eq_of_lt (by omega)
    have e2 : n % 2 ^ (n.log2 + 2) = n := Nat.mod_eq_of_lt (by omega)
    have e3 : n / 2 ^ drop = 0 := Nat.div_eq_of_lt (by omega)
    have e4 : n % 2 ^ drop = n := Nat.mod_eq_of_lt (by omega)
    unfold rne
    rw [e1, e2, e3, e4]
    have a1 : ¬ 2 ^ (n.log2 + 2) < 2 * n := by omega
    have a2 : ¬ 2 ^ (n.log2 + 2) = 2 * n := by omega
    rw [if_neg (by omega)]
    simp [a1]

theorem cut_zero (s : Bool) (n drop : Nat) : Toward.zero.cut s n drop = n / 2 ^ drop := by
  unfold Toward.cut
  simp only [Nat.shiftLeft_eq, Nat.one_mul, Bool.toNat_false, Nat.add_zero]
  by_cases h : drop ≤ n.log2 + 2
  · rw [Nat.min_eq_left h]
  · rw [Nat.min_eq_right (by omega)]
    have hlt : n < 2 ^ (n.log2 + 1) := Nat.lt_log2_self
    have hp : 2 ^ (n.log2 + 2) = 2 * 2 ^ (n.log2 + 1) := by rw [Nat.pow_succ]; omega
    have hle : 2 ^ (n.log2 + 2) ≤ 2 ^ drop := Nat.pow_le_pow_right (by omega) (by omega)
    rw [Nat.div_eq_of_lt (by omega), Nat.div_eq_of_lt (by omega)]

/-- The rung of u least places, rounded. k: how many binary digits are dropped. -/
def dropOf (u : Nat) : Nat := u.log2 - 52
def rungOf (u : Nat) : Nat := min (dropOf u * 4503599627370496 + rne u (2 ^ dropOf u)) INF

theorem nearest_place (s : Bool) (m : Nat) (e : Int) (he : -1074 ≤ e) : double.nearest s m e = double.word s (rungOf (m * 2 ^ (e + 1074).toNat)) := by
  unfold Format.nearest
  by_cases h0 : m = 0
  · subst h0
    rw [if_pos rfl]; simp [rungOf, dropOf, rne, INF]
  · rw [if_neg h0]
    simp only [binade_eq, least_eq, inf_eq, cut_even]
    have hl : (m * 2 ^ (e + 1074).toNat).log2 = m.log2 + (e + 1074).toNat := by
      rw [Nat.log2_eq_iff (by have := Nat.two_pow_pos (e + 1074).toNat; exact Nat.ne_of_gt (Nat.mul_pos (by omega) this))]
      refine ⟨?_, ?_⟩
      · rw [Nat.pow_add]; exact Nat.mul_le_mul_right _ (Nat.log2_self_le h0)
      · rw [show m.log2 + (e + 1074).toNat + 1 = (m.log2 + 1) + (e + 1074).toNat by omega, Nat.pow_add]
        exact Nat.mul_lt_mul_of_pos_right Nat.lt_log2_self (Nat.two_pow_pos _)
    have hfb : (double.fractionBits : Int) = 52 := rfl
    rw [hfb]
    unfold rungOf dropOf INF
    rw [hl]
    have e1 : (max (e + (m.log2 : Int) - 52) (-1074) - -1074).toNat = m.log2 + (e + 1074).toNat - 52 := by omega
    rw [e1]
    congr 3
    rw [Nat.shiftLeft_eq]
    -- scale
    by_cases hc : e ≥ max (e + (m.log2 : Int) - 52) (-1074)
    · have a1 : (max (e + (m.log2 : Int) - 52) (-1074) - e).toNat = 0 := by omega
      have a2 : (e - max (e + (m.log2 : Int) - 52) (-1074)).toNat + (m.log2 + (e + 1074).toNat - 52) = (e + 1074).toNat := by omega
      rw [a1, ← a2, Nat.pow_add 2, ← Nat.mul_assoc]
      have hz : m.log2 + ((e - max (e + (m.log2 : Int) - 52) (-1074)).toNat + (m.log2 + (e + 1074).toNat - 52)) - 52 = m.log2 + (e + 1074).toNat - 52 := by omega
      rw [hz, rne_exact _ _ (Nat.two_pow_pos _)]
      have := rne_exact (m * 2 ^ (e - max (e + (m.log2 : Int) - 52) (-1074)).toNat) 1 (by omega)
      simpa using this
    · have a1 : (e - max (e + (m.log2 : Int) - 52) (-1074)).toNat = 0 := by omega
      have a2 : (max (e + (m.log2 : Int) - 52) (-1074) - e).toNat + (e + 1074).toNat = m.log2 + (e + 1074).toNat - 52 := by omega
      rw [a1, ← a2, Nat.pow_add 2, rne_scale _ _ _ (Nat.two_pow_pos _) (Nat.two_pow_pos _)]
      simp

theorem rungOf_small {u : Nat} (h : u < 9007199254740992) : rungOf u = u := by
  have hl : u.log2 ≤ 52 := by
    by_cases h0 : u = 0
    · subst h0; decide
    · have := (Nat.log2_lt h0 (k := 53)).2 h
      omega
  unfold rungOf dropOf
  rw [show u.log2 - 52 = 0 by omega]
  have := rne_exact u 1 (by omega)
  simp only [Nat.pow_zero, Nat.mul_one] at this ⊢
  rw [this]
  unfold INF; omega

theorem dropOf_spec {u : Nat} (h : 4503599627370496 ≤ u) : 4503599627370496 * 2 ^ dropOf u ≤ u ∧ u < 9007199254740992 * 2 ^ dropOf u := by
  have h0 : u ≠ 0 := by omega
  have hl : 52 ≤ u.log2 := (Nat.le_log2 h0).2 h
  unfold dropOf
  have a := Nat.log2_self_le h0
  have b : u < 2 ^ (u.log2 + 1) := Nat.lt_log2_self
  have e1 : 2 ^ u.log2 = 4503599627370496 * 2 ^ (u.log2 - 52) := by
    rw [show (4503599627370496 : Nat) = 2 ^ 52 from rfl, ← Nat.pow_add]; congr 1; omega
  have e2 : 2 ^ (u.log2 + 1) = 9007199254740992 * 2 ^ (u.log2 - 52) := by
    rw [show (9007199254740992 : Nat) = 2 ^ 53 from rfl, ← Nat.pow_add]; congr 1; omega
  omega

theorem rne_lo {a u d : Nat} (hd : 0 < d) (h : a * d ≤ u) : a ≤ rne u d := by
  have := rne_mono hd h
  rwa [rne_exact _ _ hd] at this
theorem rne_hi {a u d : Nat} (hd : 0 < d) (h : u ≤ a * d) : rne u d ≤ a := by
  have := rne_mono hd h
  rwa [rne_exact _ _ hd] at this

theorem dropOf_mono {u v : Nat} (h : u ≤ v) : dropOf u ≤ dropOf v := by
  unfold dropOf
  by_cases h0 : u = 0
  · subst h0; simp
  · have h1 : v ≠ 0 := by omega
    have := (Nat.le_log2 h1 (k := u.log2)).2 (Nat.le_trans (Nat.log2_self_le h0) h)
    omega

theorem rungOf_mono {u v : Nat} (h : u ≤ v) : rungOf u ≤ rungOf v := by
  have hd := dropOf_mono h
  have pu := Nat.two_pow_pos (dropOf u)
  have pv := Nat.two_pow_pos (dropOf v)
  suffices dropOf u * 4503599627370496 + rne u (2 ^ dropOf u) ≤ dropOf v * 4503599627370496 + rne v (2 ^ dropOf v) by
    unfold rungOf; omega
  rcases Nat.lt_or_eq_of_le hd with h1 | h1
  · have hv : 4503599627370496 ≤ v := by
      rcases Nat.lt_or_ge v 4503599627370496 with hv | hv
      · have : v.log2 ≤ 52 := by
          by_cases h0 : v = 0
          · subst h0; decide
          · have := (Nat.log2_lt h0 (k := 53)).2 (by omega)
            omega
        unfold dropOf at h1; omega
      · exact hv
    have sv := dropOf_spec hv
    have lo : 4503599627370496 ≤ rne v (2 ^ dropOf v) := rne_lo pv sv.1
    have hi : rne u (2 ^ dropOf u) ≤ 9007199254740992 := by
      rcases Nat.lt_or_ge u 4503599627370496 with hu | hu
      · have := rungOf_small (u := u) (by omega)
        have z : dropOf u = 0 := by
          unfold dropOf
          by_cases h0 : u = 0
          · subst h0; decide
          · have := (Nat.log2_lt h0 (k := 53)).2 (by omega)
            omega
        rw [z]
        refine rne_hi (by omega) ?_
        simp; omega
      · exact rne_hi pu (Nat.le_of_lt (dropOf_spec hu).2)
    omega
  · rw [h1] at *
    have := rne_mono pv h
    omega

/-- A magnitude of a rung is its own rounding. -/
theorem rungOf_mag {r : Nat} (h : r ≤ INF) : rungOf (mag r) = r := by
  unfold mag
  by_cases h1 : r < 4503599627370496
  · rw [if_pos h1]; exact rungOf_small (by omega)
  · rw [if_neg h1]
    obtain ⟨q, m, hm, rfl⟩ : ∃ q m, m < 4503599627370496 ∧ r = (q + 1) * 4503599627370496 + m :=
      ⟨r / 4503599627370496 - 1, r % 4503599627370496, Nat.mod_lt _ (by omega), by omega⟩
    rw [show ((q + 1) * 4503599627370496 + m) / 4503599627370496 - 1 = q by omega, show ((q + 1) * 4503599627370496 + m) % 4503599627370496 = m by omega]
    have hl : ((4503599627370496 + m) * 2 ^ q).log2 = 52 + q := by
      have p := Nat.two_pow_pos q
      rw [Nat.log2_eq_iff (Nat.ne_of_gt (Nat.mul_pos (by omega) p))]
      rw [Nat.add_assoc, Nat.add_comm q 1, ← Nat.add_assoc, Nat.pow_add, Nat.pow_add]
      exact ⟨Nat.mul_le_mul_right _ (by omega), Nat.mul_lt_mul_of_pos_right (by omega) p⟩
    unfold rungOf dropOf
    rw [hl, show 52 + q - 52 = q by omega, rne_exact _ _ (Nat.two_pow_pos _)]
    unfold INF at *; omega

theorem rungOf_le (u : Nat) : rungOf u ≤ INF := Nat.min_le_right _ _
end F64
namespace F64
open Ieee

/-- The key of the word nearest to v least places. -/
def K (v : Int) : Int := if v < 0 then -(rungOf v.natAbs : Int) else rungOf v.natAbs

theorem rung_word (s : Bool) {r : Nat} (h : r ≤ INF) : rung (double.word s r) = r := by
  unfold INF at h
  unfold rung Format.word
  rw [sw_eq]
  cases s
  · rw [if_neg (by decide)]; omega
  · rw [if_pos rfl]; omega
theorem sgn_word (s : Bool) {r : Nat} (h : r ≤ INF) : sgn (double.word s r) = s := by
  unfold INF at h
  unfold sgn Format.word
  rw [sw_eq]
  cases s
  · rw [if_neg (by decide)]
    have : r / 9223372036854775808 = 0 := by omega
    rw [this]; rfl
  · rw [if_pos rfl]
    have : (9223372036854775808 + r) / 9223372036854775808 = 1 := by omega
    rw [this]; rfl
theorem word_notNaN (s : Bool) {r : Nat} (h : r ≤ INF) : ¬ IsNaN (double.word s r) := by
  unfold IsNaN; rw [rung_word s h]; omega
theorem fin_notNaN {x : Nat} (h : Fin x) : ¬ IsNaN x := by unfold Fin at h; unfold IsNaN; omega

theorem K_mono {u v : Int} (h : u ≤ v) : K u ≤ K v := by
  unfold K
  by_cases hu : u < 0
  · by_cases hv : v < 0
    · rw [if_pos hu, if_pos hv]
      have := rungOf_mono (u := v.natAbs) (v := u.natAbs) (by omega)
      omega
    · rw [if_pos hu, if_neg hv]; omega
  · rw [if_neg hu, if_neg (by omega)]
    have := rungOf_mono (u := u.natAbs) (v := v.natAbs) (by omega)
    omega
theorem K_val {x : Nat} (h : Fin x) : K (val x) = key x := by
  have z : mag 0 = 0 := by decide
  have hr : rungOf (mag (rung x)) = rung x := rungOf_mag (by unfold Fin at h; omega)
  unfold K val key
  cases hs : sgn x
  · simp only [Bool.false_eq_true, if_false]
    rw [if_neg (by omega), Int.natAbs_natCast, hr]
  · simp only [if_true]
    by_cases h0 : mag (rung x) = 0
    · rw [h0] at hr ⊢
      have : rungOf 0 = 0 := by decide
      rw [this] at hr
      rw [← hr]; decide
    · rw [if_pos (by omega), Int.natAbs_neg, Int.natAbs_natCast, hr]
theorem key_word (s : Bool) (v : Int) (hs : v ≠ 0 → s = decide (v < 0)) : key (double.word s (rungOf v.natAbs)) = K v := by
  unfold key
  rw [rung_word _ (rungOf_le _), sgn_word _ (rungOf_le _)]
  unfold K
  by_cases h0 : v = 0
  · subst h0
    have : rungOf (Int.natAbs 0) = 0 := by decide
    rw [this]; cases s <;> decide
  · rw [hs h0]
    by_cases h : v < 0 <;> simp [h]

/-- The exact sum of two data, rounded once. -/
theorem sum_write {s t : Bool} {m n : Nat} {i j : Int} (hi : -1074 ≤ i) (hj : -1074 ≤ j) {v : Int} (hv : signed s m (i + 1074).toNat + signed t n (j + 1074).toNat = v) :
    ∃ r, (Datum.sum (.number s m i) (.number t n j)).map double.write = some r ∧ key r = K v ∧ ¬ IsNaN r ∧ ∃ g, r = double.word g (rungOf v.natAbs) ∧ (v ≠ 0 → g = decide (v < 0)) ∧ (v = 0 → g = (s && t)) := by
  simp only [Datum.sum, Option.map_some]
  have e1 := signed_scale s m (i - min i j).toNat (min i j + 1074).toNat
  have e2 := signed_scale t n (j - min i j).toNat (min i j + 1074).toNat
  rw [show (i - min i j).toNat + (min i j + 1074).toNat = (i + 1074).toNat by omega] at e1
  rw [show (j - min i j).toNat + (min i j + 1074).toNat = (j + 1074).toNat by omega] at e2
  rw [← e1, ← e2, ← Int.add_mul] at hv
  generalize signed s m (i - min i j).toNat + signed t n (j - min i j).toNat = total at hv ⊢
  have hp : (0 : Int) < 2 ^ (min i j + 1074).toNat := Int.pow_pos (by omega)
  have hnat : total.natAbs * 2 ^ (min i j + 1074).toNat = v.natAbs := by
    rw [← hv, Int.natAbs_mul]
    have : ((2 : Int) ^ (min i j + 1074).toNat) = ((2 ^ (min i j + 1074).toNat : Nat) : Int) := by push_cast; rfl
    rw [this, Int.natAbs_natCast]
  have hlt : (total < 0) ↔ v < 0 := by
    rw [← hv]
    exact ⟨fun h => Int.mul_neg_of_neg_of_pos h hp, fun h => by
      by_cases h2 : total < 0
      · exact h2
      · have := Int.mul_nonneg (Int.not_lt.1 h2) (Int.le_of_lt hp); omega⟩
  have h0 : (total = 0) ↔ v = 0 := by
    rw [← hv]
    exact ⟨fun h => by rw [h, Int.zero_mul], fun h => by
      rcases Int.mul_eq_zero.1 h with h | h
      · exact h
      · omega⟩
  have hw : double.write (.number (if total = 0 then s && t else decide (total < 0)) total.natAbs (min i j)) = double.word (if total = 0 then s && t else decide (total < 0)) (rungOf v.natAbs) := by
    simp only [Format.write]
    rw [nearest_place _ _ _ (by omega), hnat]
  refine ⟨_, rfl, ?_, ?_, _, hw, ?_, ?_⟩
  · rw [hw]
    refine key_word _ _ fun hv0 => ?_
    rw [if_neg (fun h => hv0 (h0.1 h))]
    exact decide_eq_decide.2 hlt
  · rw [hw]; exact word_notNaN _ (rungOf_le _)
  · intro hv0
    rw [if_neg (fun h => hv0 (h0.1 h))]
    exact decide_eq_decide.2 hlt
  · intro hv0
    rw [if_pos (h0.2 hv0)]

theorem signed_not (s : Bool) (m k : Nat) : signed (!s) m k = - signed s m k := by
  rw [signed_eq, signed_eq]; cases s <;> simp
theorem sub_fin {x y : Nat} (hx : Fin x) (hy : Fin y) : ∃ r, double.sub x y = some r ∧ key r = K (val x - val y) ∧ ¬ IsNaN r ∧ ∃ g, r = double.word g (rungOf (val x - val y).natAbs) ∧ (val x - val y ≠ 0 → g = decide (val x - val y < 0)) ∧ (val x - val y = 0 → g = (sgn x && !sgn y)) := by
  obtain ⟨m, e, h1, h2, h3⟩ := read_fin hx
  obtain ⟨n, f, g1, g2, g3⟩ := read_fin hy
  obtain ⟨r, a, b, c, d⟩ := sum_write (s := sgn x) (t := !sgn y) (m := m) (n := n) h2 g2 (v := val x - val y) (by rw [val_of_read rfl h3, signed_not, val_of_read rfl g3]; omega)
  exact ⟨r, by unfold Format.sub; rw [h1, g1]; exact a, b, c, d⟩
theorem sub_self_fin {x : Nat} (hx : Fin x) : double.sub x x = some 0 := by
  obtain ⟨r, a, _, _, g, hr, _, hg⟩ := sub_fin hx hx
  rw [a, hr]
  have h0 : val x - val x = 0 := by omega
  rw [hg h0, h0]
  cases sgn x <;> decide
theorem sub_self_inf {x : Nat} (hx : ¬ Fin x) : double.sub x x = none := by
  unfold Format.sub
  rcases cases3 x with h | h | h
  · exact absurd h hx
  · rw [read_inf h]; simp [Datum.opposite, Datum.sum]
  · obtain ⟨f, hf⟩ := read_nan h; rw [hf]; rfl
end F64
namespace F64
open Ieee Go
instance (x : Nat) : Decidable (Fin x) := by unfold Fin; exact inferInstance
instance (x : Nat) : Decidable (IsNaN x) := by unfold IsNaN; exact inferInstance
/-- Neither a NaN nor an infinity. -/
def ffin (x : Nat) : Bool := decide (Fin x)
theorem fok_sub_self (x : Nat) : fok .sub x x = ffin x := by
  unfold fok fres ffin
  show (double.sub x x).isSome = _
  by_cases h : Fin x
  · rw [sub_self_fin h, decide_eq_true h]; rfl
  · rw [sub_self_inf h, decide_eq_false h]; rfl
theorem fop_sub_self {x : Nat} (h : Fin x) : fop .sub x x = 0 := by
  unfold fop fres
  show (double.sub x x).getD 0 = _
  rw [sub_self_fin h]; rfl
theorem nan_of {b : Nat} (h : FloatKind.f64.format.infRung < b % FloatKind.f64.format.signWeight) : IsNaN b := by
  unfold IsNaN INF rung
  have e1 : FloatKind.f64.format.infRung = 9218868437227405312 := inf_eq
  have e2 : FloatKind.f64.format.signWeight = 9223372036854775808 := sw_eq
  rw [e1, e2] at h
  exact h
theorem feq_nan {x y : Nat} (h : IsNaN x ∨ IsNaN y) : feq x y = false := by
  unfold feq; rw [show FloatKind.f64.format.order x y = none from order_nan h]; rfl
theorem fne_nan {x y : Nat} (h : IsNaN x ∨ IsNaN y) : fne x y = true := by
  unfold fne; rw [show FloatKind.f64.format.order x y = none from order_nan h]; rfl
theorem cases_cmp (a b : Int) : (a < b ∧ compare a b = .lt) ∨ (a = b ∧ compare a b = .eq) ∨ (b < a ∧ compare a b = .gt) := by
  rcases Int.lt_trichotomy a b with h | h | h
  · exact .inl ⟨h, Int.compare_eq_lt.2 h⟩
  · exact .inr (.inl ⟨h, Int.compare_eq_eq.2 h⟩)
  · exact .inr (.inr ⟨h, Int.compare_eq_gt.2 h⟩)
section
variable {x y : Nat} (hx : ¬ IsNaN x) (hy : ¬ IsNaN y)
include hx hy
theorem ord : FloatKind.f64.format.order x y = some (compare (key x) (key y)) := order_key hx hy
theorem flt_key : flt x y = decide (key x < key y) := by
  unfold flt; rw [ord hx hy]
  rcases cases_cmp (key x) (key y) with ⟨h, e⟩ | ⟨h, e⟩ | ⟨h, e⟩ <;> rw [e] <;> symm <;> first | (rw [decide_eq_true (by omega)]; rfl) | (rw [decide_eq_false (by omega)]; rfl)
theorem fle_key : fle x y = decide (key x ≤ key y) := by
  unfold fle; rw [ord hx hy]
  rcases cases_cmp (key x) (key y) with ⟨h, e⟩ | ⟨h, e⟩ | ⟨h, e⟩ <;> rw [e] <;> symm <;> first | (rw [decide_eq_true (by omega)]; rfl) | (rw [decide_eq_false (by omega)]; rfl)
theorem fgt_key : fgt x y = decide (key y < key x) := by
  unfold fgt; rw [ord hx hy]
  rcases cases_cmp (key x) (key y) with ⟨h, e⟩ | ⟨h, e⟩ | ⟨h, e⟩ <;> rw [e] <;> symm <;> first | (rw [decide_eq_true (by omega)]; rfl) | (rw [decide_eq_false (by omega)]; rfl)
theorem fge_key : fge x y = decide (key y ≤ key x) := by
  unfold fge; rw [ord hx hy]
  rcases cases_cmp (key x) (key y) with ⟨h, e⟩ | ⟨h, e⟩ | ⟨h, e⟩ <;> rw [e] <;> symm <;> first | (rw [decide_eq_true (by omega)]; rfl) | (rw [decide_eq_false (by omega)]; rfl)
theorem feq_key : feq x y = decide (key x = key y) := by
  unfold feq; rw [ord hx hy]
  rcases cases_cmp (key x) (key y) with ⟨h, e⟩ | ⟨h, e⟩ | ⟨h, e⟩ <;> rw [e] <;> symm <;> first | (rw [decide_eq_true (by omega)]; rfl) | (rw [decide_eq_false (by omega)]; rfl)
theorem fne_key : fne x y = !decide (key x = key y) := by
  unfold fne; rw [ord hx hy]
  rcases cases_cmp (key x) (key y) with ⟨h, e⟩ | ⟨h, e⟩ | ⟨h, e⟩ <;> rw [e] <;> symm <;> first | (rw [decide_eq_true (by omega)]; rfl) | (rw [decide_eq_false (by omega)]; rfl)
end
/-- The absolute value: the sign bit away. -/
def fabs (x : Nat) : Nat := x % 9223372036854775808
theorem rung_fabs (x : Nat) : rung (fabs x) = rung x := by unfold rung fabs; omega
theorem sgn_fabs (x : Nat) : sgn (fabs x) = false := by
  unfold sgn fabs
  have : x % 9223372036854775808 / 9223372036854775808 = 0 := by omega
  rw [this]; rfl
theorem key_fabs (x : Nat) : key (fabs x) = rung x := by
  unfold key; rw [sgn_fabs, rung_fabs]; rfl

theorem bits_abs (x : Nat) : (Go.bits .andNot .u64 (x : Int) 9223372036854775808).toNat = fabs x := by
  unfold fabs
  have h : (BitVec.ofInt 64 (x : Int)) &&& ~~~(BitVec.ofInt 64 9223372036854775808) = ((BitVec.ofInt 64 (x : Int)).setWidth 63).setWidth 64 := by
    apply BitVec.eq_of_getLsbD_eq
    intro i hi
    have hb : (BitVec.ofInt 64 9223372036854775808).getLsbD i = decide (i = 63) := by
      have : ∀ i : _root_.Fin 64, (BitVec.ofInt 64 9223372036854775808).getLsbD i.val = decide (i.val = 63) := by decide
      exact this ⟨i, hi⟩
    simp only [BitVec.getLsbD_and, BitVec.getLsbD_not, BitVec.getLsbD_setWidth, hb]
    by_cases h63 : i = 63
    · subst h63; simp
    · simp [h63, hi, show i < 63 by omega]
  have e : Go.bits .andNot .u64 (x : Int) 9223372036854775808 = (((BitVec.ofInt 64 (x : Int)) &&& ~~~(BitVec.ofInt 64 9223372036854775808)).toNat : Int) := by
    have hlt := ((BitVec.ofInt 64 (x : Int)) &&& ~~~(BitVec.ofInt 64 9223372036854775808)).isLt
    show IntKind.u64.wrap _ = _
    have hw : ∀ n : Nat, n < 2 ^ 64 → IntKind.u64.wrap (n : Int) = n := by
      intro n hn
      unfold IntKind.wrap
      simp [IntKind.bits, IntKind.signed] at *
      omega
    exact hw _ hlt
  rw [e, h, Int.toNat_natCast, BitVec.toNat_setWidth, BitVec.toNat_setWidth, BitVec.toNat_ofInt]
  omega
end F64
end Go.Proofs.YtigegicbfmjpbaaDoorW
