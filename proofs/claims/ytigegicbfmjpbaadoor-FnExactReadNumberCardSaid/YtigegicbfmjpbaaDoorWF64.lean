/- Binary floating point by rungs: order, rounding, exactness, over the model's own words (Ieee). Conditions: none. -/
import Derived.Test.YtigegicbfmjpbaaDoorWFloat
set_option maxRecDepth 100000
set_option linter.unusedVariables false
namespace Go.Proofs.YtigegicbfmjpbaaDoorW
namespace F64
open Ieee

theorem binade_eq : double.binade = 4503599627370496 := by decide
theorem least_eq : double.leastPlace = -1074 := by decide
theorem inf_eq : double.infRung = 9218868437227405312 := by decide
theorem sw_eq : double.signWeight = 9223372036854775808 := by decide

/-- The rung of a word. -/
def rung (w : Nat) : Nat := w % 9223372036854775808
def sgn (w : Nat) : Bool := w / 9223372036854775808 % 2 == 1
def INF : Nat := 9218868437227405312
def IsNaN (w : Nat) : Prop := INF < rung w
def Fin (w : Nat) : Prop := rung w < INF
/-- The magnitude of a rung, in units of the least place. -/
def mag (r : Nat) : Nat := if r < 4503599627370496 then r else (4503599627370496 + r % 4503599627370496) * 2 ^ (r / 4503599627370496 - 1)
def key (w : Nat) : Int := if sgn w then -(rung w : Int) else rung w
def val (w : Nat) : Int := if sgn w then -(mag (rung w) : Int) else mag (rung w)

theorem dm1 {B q m : Nat} (h : m < B) : (q * B + m) / B = q := by
  rw [Nat.mul_comm, Nat.mul_add_div (by omega), Nat.div_eq_of_lt h]; rfl
theorem dm2 {B q m : Nat} (h : m < B) : (q * B + m) % B = m := by
  rw [Nat.mul_comm, Nat.mul_add_mod, Nat.mod_eq_of_lt h]
theorem mag_succ (r : Nat) : mag r < mag (r + 1) := by
  unfold mag
  by_cases h : r + 1 < 4503599627370496
  · rw [if_pos h, if_pos (by omega)]; omega
  · rw [if_neg h]
    by_cases h2 : r < 4503599627370496
    · have : r = 4503599627370495 := by omega
      subst this; simp
    · rw [if_neg h2]
      obtain ⟨q, m, hm, rfl⟩ : ∃ q m, m < 4503599627370496 ∧ r = (q + 1) * 4503599627370496 + m :=
        ⟨r / 4503599627370496 - 1, r % 4503599627370496, Nat.mod_lt _ (by omega), by omega⟩
      rw [dm1 hm, dm2 hm]
      by_cases h3 : m + 1 < 4503599627370496
      · rw [Nat.add_assoc _ m 1, dm1 h3, dm2 h3]
        exact Nat.mul_lt_mul_of_pos_right (by omega) (Nat.two_pow_pos _)
      · have e0 : (q + 1) * 4503599627370496 + m + 1 = (q + 2) * 4503599627370496 + 0 := by omega
        rw [e0, dm1 (show 0 < 4503599627370496 by omega), dm2 (show 0 < 4503599627370496 by omega)]
        simp only [Nat.add_sub_cancel, Nat.add_zero, show q + 2 - 1 = q + 1 by omega, Nat.pow_succ]
        have := Nat.two_pow_pos q
        rw [show 4503599627370496 * (2 ^ q * 2) = 9007199254740992 * 2 ^ q by omega]
        exact Nat.mul_lt_mul_of_pos_right (by omega) this

theorem mag_lt {r s : Nat} (h : r < s) : mag r < mag s := by
  induction s with
  | zero => omega
  | succ s ih =>
    rcases Nat.lt_succ_iff_lt_or_eq.1 h with h | rfl
    · exact Nat.lt_trans (ih h) (mag_succ s)
    · exact mag_succ r

theorem mag_le {r s : Nat} (h : r ≤ s) : mag r ≤ mag s := by
  rcases Nat.lt_or_eq_of_le h with h | rfl
  · exact Nat.le_of_lt (mag_lt h)
  · exact Nat.le_refl _

theorem read_fin {w : Nat} (h : Fin w) : ∃ m : Nat, ∃ e : Int, double.read w = .number (sgn w) m e ∧ -1074 ≤ e ∧ m * 2 ^ (e + 1074).toNat = mag (rung w) := by
  unfold Fin INF rung at h
  unfold Format.read
  simp only [binade_eq, least_eq, inf_eq, sw_eq]
  by_cases h2 : w % 9223372036854775808 < 4503599627370496
  · refine ⟨_, _, by rw [if_pos h2]; rfl, by omega, ?_⟩
    unfold mag rung; rw [if_pos h2]; simp
  · refine ⟨_, _, by rw [if_neg h2, if_pos h]; rfl, by omega, ?_⟩
    unfold mag rung; rw [if_neg h2]
    congr 2
    omega
theorem read_inf {w : Nat} (h : rung w = INF) : double.read w = .infinity (sgn w) := by
  unfold INF rung at h
  unfold Format.read
  simp only [binade_eq, inf_eq, sw_eq]
  rw [if_neg (by omega), if_neg (by omega), if_pos h]; rfl
theorem read_nan {w : Nat} (h : IsNaN w) : ∃ f, double.read w = .nan (sgn w) f := by
  unfold IsNaN INF rung at h
  unfold Format.read
  simp only [binade_eq, inf_eq, sw_eq]
  rw [if_neg (by omega), if_neg (by omega), if_neg (by omega)]; exact ⟨_, rfl⟩

theorem cases3 (w : Nat) : Fin w ∨ rung w = INF ∨ IsNaN w := by unfold Fin IsNaN; omega

theorem compare_scale (a b : Int) (k : Nat) : compare (a * 2 ^ k) (b * 2 ^ k) = compare a b := by
  have hp : (0 : Int) < 2 ^ k := Int.pow_pos (by omega)
  rcases Int.lt_trichotomy a b with h | rfl | h
  · have := Int.mul_lt_mul_of_pos_right h hp
    rw [Int.compare_eq_lt.2 h, Int.compare_eq_lt.2 this]
  · rw [Int.compare_eq_eq.2 rfl, Int.compare_eq_eq.2 rfl]
  · have := Int.mul_lt_mul_of_pos_right h hp
    rw [Int.compare_eq_gt.2 h, Int.compare_eq_gt.2 this]

theorem signed_eq (s : Bool) (m k : Nat) : signed s m k = if s then -((m * 2 ^ k : Nat) : Int) else ((m * 2 ^ k : Nat) : Int) := by
  unfold signed; simp only [Nat.shiftLeft_eq]

theorem signed_scale (s : Bool) (m k j : Nat) : signed s m k * 2 ^ j = signed s m (k + j) := by
  rw [signed_eq, signed_eq]
  have : ((m * 2 ^ (k + j) : Nat) : Int) = ((m * 2 ^ k : Nat) : Int) * 2 ^ j := by
    rw [Nat.pow_add, ← Nat.mul_assoc]; push_cast; rfl
  split <;> rw [this]
  rw [Int.neg_mul]

theorem val_of_read {w : Nat} {s : Bool} {m : Nat} {e : Int} (hs : s = sgn w) (he : m * 2 ^ (e + 1074).toNat = mag (rung w)) : signed s m (e + 1074).toNat = val w := by
  rw [signed_eq, he, hs]; rfl

theorem order_val {x y : Nat} (hx : Fin x) (hy : Fin y) : double.order x y = some (compare (val x) (val y)) := by
  obtain ⟨m, e, h1, h2, h3⟩ := read_fin hx
  obtain ⟨n, f, g1, g2, g3⟩ := read_fin hy
  unfold Format.order
  rw [h1, g1]
  simp only [Datum.order]
  rw [← val_of_read rfl h3, ← val_of_read rfl g3, ← compare_scale _ _ (min e f + 1074).toNat, signed_scale, signed_scale,
    show (e - min e f).toNat + (min e f + 1074).toNat = (e + 1074).toNat by omega, show (f - min e f).toNat + (min e f + 1074).toNat = (f + 1074).toNat by omega]

theorem key_lt_val {x y : Nat} : key x < key y ↔ val x < val y := by
  have z : mag 0 = 0 := by decide
  have a1 := @mag_lt (rung x) (rung y)
  have a2 := @mag_lt (rung y) (rung x)
  have a3 := @mag_le (rung x) (rung y)
  have a4 := @mag_le (rung y) (rung x)
  have b1 : 0 < rung x → 0 < mag (rung x) := fun h => by have := mag_lt h; omega
  have b2 : 0 < rung y → 0 < mag (rung y) := fun h => by have := mag_lt h; omega
  have c1 : rung x = 0 → mag (rung x) = 0 := fun h => by rw [h]; exact z
  have c2 : rung y = 0 → mag (rung y) = 0 := fun h => by rw [h]; exact z
  unfold key val
  generalize mag (rung x) = mx at *
  generalize mag (rung y) = my at *
  cases sgn x <;> cases sgn y <;> simp only [Bool.false_eq_true, if_false, if_true] <;> omega

theorem compare_iff {a b c d : Int} (h1 : a < b ↔ c < d) (h2 : b < a ↔ d < c) : compare a b = compare c d := by
  rcases Int.lt_trichotomy a b with h | h | h
  · rw [Int.compare_eq_lt.2 h, Int.compare_eq_lt.2 (h1.1 h)]
  · rw [Int.compare_eq_eq.2 h, Int.compare_eq_eq.2 (by omega)]
  · rw [Int.compare_eq_gt.2 h, Int.compare_eq_gt.2 (h2.1 h)]

theorem order_key {x y : Nat} (hx : ¬ IsNaN x) (hy : ¬ IsNaN y) : double.order x y = some (compare (key x) (key y)) := by
  rcases cases3 x with h | h | h
  · rcases cases3 y with g | g | g
    · rw [order_val h g]; exact congrArg some (compare_iff key_lt_val key_lt_val).symm
    · obtain ⟨m, e, h1, h2, h3⟩ := read_fin h
      unfold Format.order
      rw [h1, read_inf g]
      simp only [Datum.order]
      unfold key; rw [g]
      unfold Fin INF at *
      cases sgn x <;> cases sgn y <;> simp only [Bool.false_eq_true, if_false, if_true, Option.some.injEq] <;> first | exact (Int.compare_eq_lt.2 (by omega)).symm | exact (Int.compare_eq_gt.2 (by omega)).symm
    · exact absurd g hy
  · rcases cases3 y with g | g | g
    · obtain ⟨m, e, h1, h2, h3⟩ := read_fin g
      unfold Format.order
      rw [h1, read_inf h]
      simp only [Datum.order]
      unfold key; rw [h]
      unfold Fin INF at *
      cases sgn x <;> cases sgn y <;> simp only [Bool.false_eq_true, if_false, if_true, Option.some.injEq] <;> first | exact (Int.compare_eq_lt.2 (by omega)).symm | exact (Int.compare_eq_gt.2 (by omega)).symm
    · unfold Format.order
      rw [read_inf g, read_inf h]
      simp only [Datum.order]
      unfold key; rw [g, h]
      unfold INF at *
      cases sgn x <;> cases sgn y <;> simp only [Bool.false_eq_true, if_false, if_true, Option.some.injEq] <;> first | exact (Int.compare_eq_lt.2 (by omega)).symm | exact (Int.compare_eq_gt.2 (by omega)).symm | exact (Int.compare_eq_eq.2 (by omega)).symm
    · exact absurd g hy
  · exact absurd h hx

theorem order_nan {x y : Nat} (h : IsNaN x ∨ IsNaN y) : double.order x y = none := by
  unfold Format.order
  rcases h with h | h
  · obtain ⟨f, hf⟩ := read_nan h; rw [hf]; rfl
  · obtain ⟨f, hf⟩ := read_nan h; rw [hf]; cases double.read x <;> rfl
end F64
namespace F64
open Ieee

/-! Rounding to a rung: of a whole number u of least places. -/
/-- u / d to the nearest whole number, ties to even. -/
def rne (u d : Nat) : Nat := u / d + (if d < 2 * (u % d) ∨ (d = 2 * (u % d) ∧ u / d % 2 = 1) then 1 else 0)

theorem rne_scale (u d k : Nat) (hk : 0 < k) (hd : 0 < d) : rne (u * k) (d * k) = rne u d := by
  unfold rne
  rw [Nat.mul_div_mul_right _ _ hk, Nat.mul_mod_mul_right]
  have e1 : (d * k < 2 * (u % d * k)) ↔ d < 2 * (u % d) := by
    rw [← Nat.mul_assoc]; exact Nat.mul_lt_mul_right hk
  have e2 : (d * k = 2 * (u % d * k)) ↔ d = 2 * (u % d) := by
    rw [← Nat.mul_assoc]
    exact ⟨fun h => Nat.eq_of_mul_eq_mul_right hk h, fun h => by rw [← h]⟩
  simp only [e1, e2]

theorem rne_mono {u v d : Nat} (hd : 0 < d) (h : u ≤ v) : rne u d ≤ rne v d := by
  unfold rne
  have h1 : u / d ≤ v / d := Nat.div_le_div_right h
  have eu := Nat.div_add_mod u d
  have ev := Nat.div_add_mod v d
  have lu := Nat.mod_lt u hd
  have lv := Nat.mod_lt v hd
  rcases Nat.lt_or_eq_of_le h1 with h2 | h2
  · split <;> split <;> omega
  · rw [h2] at eu ⊢
    have : u % d ≤ v % d := by omega
    split <;> split <;> omega

theorem rne_exact (q d : Nat) (hd : 0 < d) : rne (q * d) d = q := by
  unfold rne
  rw [Nat.mul_div_cancel _ hd, Nat.mul_mod_left]
  rw [if_neg (by omega)]; rfl

/-- 'cut' is 'rne'. -/
theorem cut_even (s : Bool) (n drop : Nat) : Toward.even.cut s n drop = rne n (2 ^ drop) := by
  have key : ∀ g, g = 2 ^ drop → (n / g + (decide (g < 2 * (n % g)) || (g == 2 * (n % g) && n / g % 2 == 1)).toNat) = rne n (2 ^ drop) := by
    rintro g rfl
    unfold rne
    congr 1
    generalize 2 ^ drop = g
    by_cases h1 : g < 2 * (n % g)
    · rw [if_pos (.inl h1), decide_eq_true h1]; rfl
    · rw [decide_eq_false h1, Bool.false_or]
      by_cases h2 : g = 2 * (n % g)
      · by_cases h3 : n / g % 2 = 1
        · rw [if_pos (.inr ⟨h2, h3⟩), beq_iff_eq.2 h2, beq_iff_eq.2 h3]; rfl
        · rw [if_neg (fun h => h.elim h1 (fun h => h3 h.2)), beq_eq_false_iff_ne.2 h3, Bool.and_false]; rfl
      · rw [if_neg (fun h => h.elim h1 (fun h => h2 h.1)), beq_eq_false_iff_ne.2 h2]; rfl
  unfold Toward.cut
  simp only [Nat.shiftLeft_eq, Nat.one_mul]
  by_cases h : drop ≤ n.log2 + 2
  · rw [Nat.min_eq_left h]
    exact key _ rfl
  · rw [Nat.min_eq_right (by omega)]
    have hlt : n < 2 ^ (n.log2 + 1) := Nat.lt_log2_self
    have hp : 2 ^ (n.log2 + 2) = 2 * 2 ^ (n.log2 + 1) := by rw [Nat.pow_succ]; omega
    have hle : 2 ^ (n.log2 + 2) ≤ 2 ^ drop := Nat.pow_le_pow_right (by omega) (by omega)
    have e1 : n / 2 ^ (n.log2 + 2) = 0 := Nat.div_eq_of_lt (by omega)
    have e2 : n % 2 ^ (n.log2 + 2) = n := Nat.mod_eq_of_lt (by omega)
    have e3 : n / 2 ^ drop = 0 := Nat.div_eq_of_lt (by omega)
    have e4 : n % 2 ^ drop = n := Nat.mod_eq_of_lt (by omega)
    unfold rne
    rw [e1, e2, e3, e4]
    have a1 : ¬ 2 ^ (n.log2 + 2) < 2 * n := by omega
    have a2 : ¬ 2 ^ (n.log2 + 2) = 2 * n := by omega
    rw [if_neg (by omega)]
    simp [a1]

/-- The rung of u least places, rounded. k: how many binary digits are dropped. -/
def dropOf (u : Nat) : Nat := u.log2 - 52
def rungOf (u : Nat) : Nat := min (dropOf u * 4503599627370496 + rne u (2 ^ dropOf u)) INF

theorem nearest_place (s : Bool) (m : Nat) (e : Int) (he : -1074 ≤ e) : double.nearest s m e = double.word s (rungOf (m * 2 ^ (e + 1074).toNat)) := by
  unfold Format.nearest
  by_cases h0 : m = 0
  · subst h0
    rw [if_pos rfl]; simp [rungOf, dropOf, rne, INF]
  · rw [if_neg h0]
    simp only [binade_eq, least_eq, inf_eq, cut_even]
    have hl : (m * 2 ^ (e + 1074).toNat).log2 = m.log2 + (e + 1074).toNat := by
      rw [Nat.log2_eq_iff (by have := Nat.two_pow_pos (e + 1074).toNat; exact Nat.ne_of_gt (Nat.mul_pos (by omega) this))]
      refine ⟨?_, ?_⟩
      · rw [Nat.pow_add]; exact Nat.mul_le_mul_right _ (Nat.log2_self_le h0)
      · rw [show m.log2 + (e + 1074).toNat + 1 = (m.log2 + 1) + (e + 1074).toNat by omega, Nat.pow_add]
        exact Nat.mul_lt_mul_of_pos_right Nat.lt_log2_self (Nat.two_pow_pos _)
    have hfb : (double.fractionBits : Int) = 52 := rfl
    rw [hfb]
    unfold rungOf dropOf INF
    rw [hl]
    have e1 : (max (e + (m.log2 : Int) - 52) (-1074) - -1074).toNat = m.log2 + (e + 1074).toNat - 52 := by omega
    rw [e1]
    congr 3
    rw [Nat.shiftLeft_eq]
    -- scale
    by_cases hc : e ≥ max (e + (m.log2 : Int) - 52) (-1074)
    · have a1 : (max (e + (m.log2 : Int) - 52) (-1074) - e).toNat = 0 := by omega
      have a2 : (e - max (e + (m.log2 : Int) - 52) (-1074)).toNat + (m.log2 + (e + 1074).toNat - 52) = (e + 1074).toNat := by omega
      rw [a1, ← a2, Nat.pow_add 2, ← Nat.mul_assoc]
      have hz : m.log2 + ((e - max (e + (m.log2 : Int) - 52) (-1074)).toNat + (m.log2 + (e + 1074).toNat - 52)) - 52 = m.log2 + (e + 1074).toNat - 52 := by omega
      rw [hz, rne_exact _ _ (Nat.two_pow_pos _)]
      have := rne_exact (m * 2 ^ (e - max (e + (m.log2 : Int) - 52) (-1074)).toNat) 1 (by omega)
      simpa using this
    · have a1 : (e - max (e + (m.log2 : Int) - 52) (-1074)).toNat = 0 := by omega
      have a2 : (max (e + (m.log2 : Int) - 52) (-1074) - e).toNat + (e + 1074).toNat = m.log2 + (e + 1074).toNat - 52 := by omega
      rw [a1, ← a2, Nat.pow_add 2, rne_scale _ _ _ (Nat.two_pow_pos _) (Nat.two_pow_pos _)]
      simp

theorem rungOf_small {u : Nat} (h : u < 9007199254740992) : rungOf u = u := by
  have hl : u.log2 ≤ 52 := by
    by_cases h0 : u = 0
    · subst h0; decide
    · have := (Nat.log2_lt h0 (k := 53)).2 h
      omega
  unfold rungOf dropOf
  rw [show u.log2 - 52 = 0 by omega]
  have := rne_exact u 1 (by omega)
  simp only [Nat.pow_zero, Nat.mul_one] at this ⊢
  rw [this]
  unfold INF; omega

theorem dropOf_spec {u : Nat} (h : 4503599627370496 ≤ u) : 4503599627370496 * 2 ^ dropOf u ≤ u ∧ u < 9007199254740992 * 2 ^ dropOf u := by
  have h0 : u ≠ 0 := by omega
  have hl : 52 ≤ u.log2 := (Nat.le_log2 h0).2 h
  unfold dropOf
  have a := Nat.log2_self_le h0
  have b : u < 2 ^ (u.log2 + 1) := Nat.lt_log2_self
  have e1 : 2 ^ u.log2 = 4503599627370496 * 2 ^ (u.log2 - 52) := by
    rw [show (4503599627370496 : Nat) = 2 ^ 52 from rfl, ← Nat.pow_add]; congr 1; omega
  have e2 : 2 ^ (u.log2 + 1) = 9007199254740992 * 2 ^ (u.log2 - 52) := by
    rw [show (9007199254740992 : Nat) = 2 ^ 53 from rfl, ← Nat.pow_add]; congr 1; omega
  omega

theorem rne_lo {a u d : Nat} (hd : 0 < d) (h : a * d ≤ u) : a ≤ rne u d := by
  have := rne_mono hd h
  rwa [rne_exact _ _ hd] at this
theorem rne_hi {a u d : Nat} (hd : 0 < d) (h : u ≤ a * d) : rne u d ≤ a := by
  have := rne_mono hd h
  rwa [rne_exact _ _ hd] at this

theorem dropOf_mono {u v : Nat} (h : u ≤ v) : dropOf u ≤ dropOf v := by
  unfold dropOf
  by_cases h0 : u = 0
  · subst h0; simp
  · have h1 : v ≠ 0 := by omega
    have := (Nat.le_log2 h1 (k := u.log2)).2 (Nat.le_trans (Nat.log2_self_le h0) h)
    omega

theorem rungOf_mono {u v : Nat} (h : u ≤ v) : rungOf u ≤ rungOf v := by
  have hd := dropOf_mono h
  have pu := Nat.two_pow_pos (dropOf u)
  have pv := Nat.two_pow_pos (dropOf v)
  suffices dropOf u * 4503599627370496 + rne u (2 ^ dropOf u) ≤ dropOf v * 4503599627370496 + rne v (2 ^ dropOf v) by
    unfold rungOf; omega
  rcases Nat.lt_or_eq_of_le hd with h1 | h1
  · have hv : 4503599627370496 ≤ v := by
      rcases Nat.lt_or_ge v 4503599627370496 with hv | hv
      · have : v.log2 ≤ 52 := by
          by_cases h0 : v = 0
          · subst h0; decide
          · have := (Nat.log2_lt h0 (k := 53)).2 (by omega)
            omega
        unfold dropOf at h1; omega
      · exact hv
    have sv := dropOf_spec hv
    have lo : 4503599627370496 ≤ rne v (2 ^ dropOf v) := rne_lo pv sv.1
    have hi : rne u (2 ^ dropOf u) ≤ 9007199254740992 := by
      rcases Nat.lt_or_ge u 4503599627370496 with hu | hu
      · have := rungOf_small (u := u) (by omega)
        have z : dropOf u = 0 := by
          unfold dropOf
          by_cases h0 : u = 0
          · subst h0; decide
          · have := (Nat.log2_lt h0 (k := 53)).2 (by omega)
            omega
        rw [z]
        refine rne_hi (by omega) ?_
        simp; omega
      · exact rne_hi pu (Nat.le_of_lt (dropOf_spec hu).2)
    omega
  · rw [h1] at *
    have := rne_mono pv h
    omega

/-- A magnitude of a rung is its own rounding. -/
theorem rungOf_mag {r : Nat} (h : r ≤ INF) : rungOf (mag r) = r := by
  unfold mag
  by_cases h1 : r < 4503599627370496
  · rw [if_pos h1]; exact rungOf_small (by omega)
  · rw [if_neg h1]
    obtain ⟨q, m, hm, rfl⟩ : ∃ q m, m < 4503599627370496 ∧ r = (q + 1) * 4503599627370496 + m :=
      ⟨r / 4503599627370496 - 1, r % 4503599627370496, Nat.mod_lt _ (by omega), by omega⟩
    rw [show ((q + 1) * 4503599627370496 + m) / 4503599627370496 - 1 = q by omega, show ((q + 1) * 4503599627370496 + m) % 4503599627370496 = m by omega]
    have hl : ((4503599627370496 + m) * 2 ^ q).log2 = 52 + q := by
      have p := Nat.two_pow_pos q
      rw [Nat.log2_eq_iff (Nat.ne_of_gt (Nat.mul_pos (by omega) p))]
      rw [Nat.add_assoc, Nat.add_comm q 1, ← Nat.add_assoc, Nat.pow_add, Nat.pow_add]
      exact ⟨Nat.mul_le_mul_right _ (by omega), Nat.mul_lt_mul_of_pos_right (by omega) p⟩
    unfold rungOf dropOf
    rw [hl, show 52 + q - 52 = q by omega, rne_exact _ _ (Nat.two_pow_pos _)]
    unfold INF at *; omega

theorem rungOf_le (u : Nat) : rungOf u ≤ INF := Nat.min_le_right _ _
end F64
namespace F64
open Ieee

/-- The key of the word nearest to v least places. -/
def K (v : Int) : Int := if v < 0 then -(rungOf v.natAbs : Int) else rungOf v.natAbs

theorem rung_word (s : Bool) {r : Nat} (h : r ≤ INF) : rung (double.word s r) = r := by
  unfold INF at h
  unfold rung Format.word
  rw [sw_eq]
  cases s
  · rw [if_neg (by decide)]; omega
  · rw [if_pos rfl]; omega
end F64
namespace F64
open Ieee Go
instance (x : Nat) : Decidable (Fin x) := by unfold Fin; exact inferInstance
instance (x : Nat) : Decidable (IsNaN x) := by unfold IsNaN; exact inferInstance
theorem nan_of {b : Nat} (h : FloatKind.f64.format.infRung < b % FloatKind.f64.format.signWeight) : IsNaN b := by
  unfold IsNaN INF rung
  have e1 : FloatKind.f64.format.infRung = 9218868437227405312 := inf_eq
  have e2 : FloatKind.f64.format.signWeight = 9223372036854775808 := sw_eq
  rw [e1, e2] at h
  exact h
theorem fne_nan {x y : Nat} (h : IsNaN x ∨ IsNaN y) : fne x y = true := by
  unfold fne; rw [show FloatKind.f64.format.order x y = none from order_nan h]; rfl
theorem cases_cmp (a b : Int) : (a < b ∧ compare a b = .lt) ∨ (a = b ∧ compare a b = .eq) ∨ (b < a ∧ compare a b = .gt) := by
  rcases Int.lt_trichotomy a b with h | h | h
  · exact .inl ⟨h, Int.compare_eq_lt.2 h⟩
  · exact .inr (.inl ⟨h, Int.compare_eq_eq.2 h⟩)
  · exact .inr (.inr ⟨h, Int.compare_eq_gt.2 h⟩)
section
variable {x y : Nat} (hx : ¬ IsNaN x) (hy : ¬ IsNaN y)
include hx hy
theorem ord : FloatKind.f64.format.order x y = some (compare (key x) (key y)) := order_key hx hy
theorem feq_key : feq x y = decide (key x = key y) := by
  unfold feq; rw [ord hx hy]
  rcases cases_cmp (key x) (key y) with ⟨h, e⟩ | ⟨h, e⟩ | ⟨h, e⟩ <;> rw [e] <;> symm <;> first | (rw [decide_eq_true (by omega)]; rfl) | (rw [decide_eq_false (by omega)]; rfl)
theorem fne_key : fne x y = !decide (key x = key y) := by
  unfold fne; rw [ord hx hy]
  rcases cases_cmp (key x) (key y) with ⟨h, e⟩ | ⟨h, e⟩ | ⟨h, e⟩ <;> rw [e] <;> symm <;> first | (rw [decide_eq_true (by omega)]; rfl) | (rw [decide_eq_false (by omega)]; rfl)
end
end F64
end Go.Proofs.YtigegicbfmjpbaaDoorW
