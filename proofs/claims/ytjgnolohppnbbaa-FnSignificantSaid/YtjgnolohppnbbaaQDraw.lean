/- The draws of seat d end with a value, whatever the bytes: in plain words. Conditions: none. -/
import Derived.Test.YtjgnolohppnbbaaPSgx8
import Derived.Test.YtjgnolohppnbbaaWF65
import Derived.Outline
set_option linter.unusedVariables false
namespace Go.Proofs.Ytjgnolohppnbbaa.PSg
open Go.Proofs.YtjgnolohppnbbaaW Go.RowKit Go.Proofs.YtjgnolohppnbbaaW.PrintWords Go.Proofs.YtjgnolohppnbbaaW.PrintLast Go.Proofs.YtjgnolohppnbbaaW.PrintMore
open F64

theorem wrap_id {i : Int} (h0 : -9000000000000000000 ≤ i) (h1 : i ≤ 9000000000000000000) : wrap64 i = i := by
  unfold wrap64; omega
/-- Bytes, and where one reads. -/
def Byt (l : List Int) : Prop := ∀ i, 0 ≤ rd l i ∧ rd l i < 256
def Pos (l : List Int) (p : Int) : Prop := 0 ≤ p ∧ p ≤ l.length ∧ l.length ≤ 1048576

theorem d_next {l : List Int} {p : Int} (hl : Byt l) (hp : Pos l p) : ∃ v p', spec_l1Rd_next.f l p = some (v, p') ∧ 0 ≤ v ∧ v < 256 ∧ Pos l p' := by
  obtain ⟨h0, h1, h2⟩ := hp
  unfold spec_l1Rd_next.f
  by_cases h : p ≥ (l.length : Int)
  · rw [if_pos h]; exact ⟨0, p, rfl, by omega, by omega, h0, h1, h2⟩
  · rw [if_neg h, wrap_id (i := p + 1) (by omega) (by omega), wrap_id (i := p + 1 - 1) (by omega) (by omega), if_pos (by omega), if_pos (by omega)]
    have hb := hl (p + 1 - 1)
    rw [wrap_id (by omega) (by omega)]
    exact ⟨_, _, rfl, hb.1, hb.2, by omega, by omega, h2⟩
theorem d_below {l : List Int} {p n : Int} (hl : Byt l) (hp : Pos l p) (hn : n ≤ 65536) : ∃ v p', spec_l1Rd_below.f l p n = some (v, p') ∧ 0 ≤ v ∧ (1 ≤ n → v < n) ∧ (n ≤ 1 → v = 0) ∧ Pos l p' := by
  unfold spec_l1Rd_below.f
  by_cases h1 : n ≤ 1
  · rw [if_pos h1]; exact ⟨0, p, rfl, by omega, fun h => by omega, fun _ => rfl, hp⟩
  rw [if_neg h1]
  obtain ⟨v, p', e, v0, v1, hp'⟩ := d_next hl hp
  by_cases h2 : n ≤ 256
  · rw [if_pos h2, e]
    simp only [Option.bind_some]
    rw [if_neg (by omega)]
    refine ⟨_, _, rfl, ?_, fun _ => ?_, fun h => by omega, hp'⟩
    · rw [Int.tmod_eq_emod_of_nonneg v0]; exact Int.emod_nonneg _ (by omega)
    · rw [Int.tmod_eq_emod_of_nonneg v0]; exact Int.emod_lt_of_pos _ (by omega)
  · rw [if_neg h2, e]
    obtain ⟨u, q, e', u0, u1, hq⟩ := d_next hl hp'
    simp only [Option.bind_some, e']
    rw [if_neg (by omega), wrap_id (i := v * 256) (by omega) (by omega), wrap_id (i := v * 256 + u) (by omega) (by omega)]
    refine ⟨_, _, rfl, ?_, fun _ => ?_, fun h => by omega, hq⟩
    · rw [Int.tmod_eq_emod_of_nonneg (by omega)]; exact Int.emod_nonneg _ (by omega)
    · rw [Int.tmod_eq_emod_of_nonneg (by omega)]; exact Int.emod_lt_of_pos _ (by omega)
theorem d_once {l : List Int} {p n : Int} (hl : Byt l) (hp : Pos l p) (hn : n ≤ 65536) : ∃ b p', spec_l1Rd_once.f l p n = some (b, p') ∧ Pos l p' := by
  unfold spec_l1Rd_once.f
  obtain ⟨v, p', e, _, _, _, hp'⟩ := d_below hl hp hn
  rw [e]; exact ⟨_, _, rfl, hp'⟩
theorem d_size {l : List Int} {p c n : Int} (hl : Byt l) (hp : Pos l p) (hc : 0 < c) (h1 : 1 ≤ n) (hn : n ≤ 65536) : ∃ v p', spec_l1Rd_size.f l p c n = some (v, p') ∧ 1 ≤ v ∧ v ≤ n ∧ Pos l p' := by
  unfold spec_l1Rd_size.f
  have hd : 0 ≤ (l.length : Int) / c ∧ (l.length : Int) / c ≤ l.length := ⟨Int.ediv_nonneg (by omega) (by omega), Int.ediv_le_self _ (by omega)⟩
  have hlen := hp.2.2
  rw [if_neg (by omega)]
  generalize (l.length : Int) / c = d at hd ⊢
  rw [wrap_id (i := d) (by omega) (by omega), wrap_id (i := 1 + d) (by omega) (by omega)]
  by_cases h : 1 + d > n
  · rw [if_pos h]
    obtain ⟨v, p', e, v0, v1, _, hp'⟩ := d_below hl hp hn
    have := v1 h1
    rw [e]
    simp only [Option.bind_some]
    rw [wrap_id (i := 1 + v) (by omega) (by omega)]
    exact ⟨_, _, rfl, by omega, by omega, hp'⟩
  · rw [if_neg h]
    obtain ⟨v, p', e, v0, v1, _, hp'⟩ := d_below (n := 1 + d) hl hp (by omega)
    have := v1 (by omega)
    rw [e]
    simp only [Option.bind_some]
    rw [wrap_id (i := 1 + v) (by omega) (by omega)]
    exact ⟨_, _, rfl, by omega, by omega, hp'⟩
/-- Whole binades: rung x ≤ c * 2 ^ 52. -/
def Small (c x : Nat) : Prop := rung x ≤ c * 4503599627370496
theorem Small.mono {c d x : Nat} (h : Small c x) (hd : c ≤ d) : Small d x := Nat.le_trans h (Nat.mul_le_mul_right _ hd)
theorem d_tenth {l : List Int} {p a b : Int} (hl : Byt l) (hp : Pos l p) (h0 : -1000 ≤ a) (h1 : a ≤ b) (h2 : b ≤ 1000) : ∃ v p', spec_l1Rd_tenth.f l p a b = some (v, p') ∧ Small 1040 v ∧ Pos l p' := by
  unfold spec_l1Rd_tenth.f
  rw [wrap_id (i := b - a) (by omega) (by omega), wrap_id (i := b - a + 1) (by omega) (by omega)]
  obtain ⟨v, p', e, v0, v1, _, hp'⟩ := d_below (n := b - a + 1) hl hp (by omega)
  have := v1 (by omega)
  rw [e]
  simp only [Option.bind_some]
  rw [wrap_id (i := a + v) (by omega) (by omega)]
  obtain ⟨q1, q2⟩ := quo_ten (n := a + v) (b := 10) (by omega) (by omega)
  rw [if_pos q1]
  exact ⟨_, _, rfl, Nat.le_trans q2 (by omega), hp'⟩

theorem d_ascent1 {l : List Int} (hl : Byt l) : ∀ (n : Nat) (x6 : List S41) (x8 : Nat) (p : Int), x6.length + n = 2 → 1 ≤ x6.length → Pos l p → ∃ r, spec_l1Rd_ascent.l1 (n + 1) x6 x8 l p = some (r, p) ∧ 2 ≤ r.length ∧ r.length ≤ 2 := by
  intro n
  induction n with
  | zero => intro x6 x8 p h h0 hp; rw [spec_l1Rd_ascent.l1, if_neg (by omega)]; exact ⟨_, rfl, by omega, by omega⟩
  | succ n ih =>
    intro x6 x8 p h h0 hp
    rw [spec_l1Rd_ascent.l1, if_pos (by omega), wrap_id (i := (x6.length : Int) - 1) (by omega) (by omega), if_pos (by omega), if_pos (by omega), if_pos (by omega)]
    exact ih _ _ _ (by simp only [List.length_append, List.length_cons, List.length_nil]; omega) (by simp only [List.length_append, List.length_cons, List.length_nil]; omega) hp
theorem d_ascent1' {l : List Int} (hl : Byt l) (x6 : List S41) (x8 : Nat) (p : Int) (h0 : 1 ≤ x6.length) (hp : Pos l p) (k : Nat) (hk : 2 ≤ k) : ∃ r, spec_l1Rd_ascent.l1 k x6 x8 l p = some (r, p) ∧ 2 ≤ r.length ∧ r.length ≤ max 2 x6.length := by
  by_cases h : 2 ≤ x6.length
  · obtain ⟨k', rfl⟩ : ∃ k', k = k' + 1 := ⟨k - 1, by omega⟩
    rw [spec_l1Rd_ascent.l1, if_neg (by omega)]; exact ⟨_, rfl, by omega, by omega⟩
  · obtain ⟨r, e, r1, r2⟩ := d_ascent1 hl 1 x6 x8 p (by omega) h0 hp
    refine ⟨r, ?_, r1, by omega⟩
    exact at_rounds (fun k => (spec_l1Rd_ascent.mono_l k).2.2 _ _ _ _) hk e
theorem d_ascent0 {l : List Int} (hl : Byt l) {x5 : Int} (h5 : 1 ≤ x5) (h5' : x5 ≤ 200) : ∀ (n : Nat) (x6 : List S41) (x7 : Int) (x8 : Nat) (x9 : Int) (p : Int) (k : Nat), x9 + n = x5 → (x6.length : Int) = x9 → 0 ≤ x9 → (x9 = 0 → 0 < x7) → x7 ≤ 20000 → -2000000000 + 12000000 * x9 ≤ x7 + 2000000000 → Small (1040 + x9.toNat) x8 → Pos l p → 2 * n + 4 ≤ k →
    ∃ r p', spec_l1Rd_ascent.l0 k x5 x6 x7 x8 x9 l p = some (r, p') ∧ 2 ≤ r.length ∧ (r.length : Int) ≤ max 2 x5 ∧ Pos l p' := by
  intro n
  induction n with
  | zero =>
    intro x6 x7 x8 x9 p k h1 h2 h3 h4 h6 h7 h8 hp hk
    obtain ⟨k, rfl⟩ : ∃ m, k = m + 2 := ⟨k - 2, by omega⟩
    rw [spec_l1Rd_ascent.l0, if_neg (by omega), spec_l1Rd_ascent.j1, if_neg (by decide)]
    obtain ⟨r, e, r1, r2⟩ := d_ascent1' hl x6 x8 p (by omega) hp k (by omega)
    exact ⟨r, p, e, r1, by omega, hp⟩
  | succ n ih =>
    intro x6 x7 x8 x9 p k h1 h2 h3 h4 h6 h7 h8 hp hk
    obtain ⟨k, rfl⟩ : ∃ m, k = m + 2 := ⟨k - 2, by omega⟩
    rw [spec_l1Rd_ascent.l0, if_pos (by omega), spec_l1Rd_ascent.j1]
    by_cases hx : x7 > 0
    case neg =>
      rw [decide_eq_false hx, if_neg (by decide)]
      obtain ⟨r, e, r1, r2⟩ := d_ascent1' hl x6 x8 p (by omega) hp k (by omega)
      exact ⟨r, p, e, r1, by omega, hp⟩
    rw [decide_eq_true hx, if_pos rfl, if_pos (by omega)]
    simp only [Option.bind_some]
    rw [if_neg (by omega)]
    have hd : 0 ≤ Int.tdiv (12000 : Int) x5 ∧ Int.tdiv (12000 : Int) x5 ≤ 12000 := by
      rw [Int.tdiv_eq_ediv_of_nonneg (by omega)]
      exact ⟨Int.ediv_nonneg (by omega) (by omega), Int.ediv_le_self _ (by omega)⟩
    generalize Int.tdiv (12000 : Int) x5 = d at hd ⊢
    rw [wrap_id (i := d) (by omega) (by omega), Int.tdiv_eq_ediv_of_nonneg hd.1, wrap_id (i := d / 2) (by omega) (by omega)]
    obtain ⟨v, p1, e1, v0, v1, v2, hp1⟩ := d_below (n := d / 2) hl hp (by omega)
    obtain ⟨u, p2, e2, u0, u1, u2, hp2⟩ := d_below (n := 60) hl hp1 (by omega)
    have u3 := u1 (by omega)
    obtain ⟨b, p3, e3, hp3⟩ := d_once (n := 6) hl hp2 (by omega)
    have hv : v ≤ 6000 := by
      by_cases hh : 1 ≤ d / 2
      · have := v1 hh; omega
      · have := v2 (by omega); omega
    rw [e1]
    simp only [Option.bind_some, e2]
    rw [wrap_id (i := u - 38) (by omega) (by omega)]
    obtain ⟨q1, q2⟩ := quo_ten (n := u - 38) (b := 6) (by omega) (by omega)
    obtain ⟨a1, a2⟩ := add_bound (c := 1040 + x9.toNat) (by omega) (by omega) h8 (Nat.le_trans q2 (Nat.mul_le_mul_right _ (by omega)))
    rw [if_pos q1, if_pos a1, e3]
    simp only [Option.bind_some]
    rw [wrap_id (i := x7 - 1) (by omega) (by omega), wrap_id (i := x7 - 1 - v) (by omega) (by omega), wrap_id (i := x9 + 1) (by omega) (by omega)]
    have hlen : (x6 ++ [(⟨x7, x8⟩ : S41)]).length = x6.length + 1 := by simp
    cases b with
    | false =>
      rw [if_neg (by decide)]
      exact ih _ _ _ _ _ k (by omega) (by rw [hlen]; omega) (by omega) (fun h => by omega) (by omega) (by omega) (by rw [show (x9 + 1).toNat = x9.toNat + 1 by omega]; exact a2) hp3 (by omega)
    | true =>
      rw [if_pos rfl]
      obtain ⟨t, p4, e4, t1, hp4⟩ := d_tenth (a := -600) (b := 200) hl hp3 (by omega) (by omega) (by omega)
      rw [e4]
      simp only [Option.bind_some]
      exact ih _ _ _ _ _ k (by omega) (by rw [hlen]; omega) (by omega) (fun h => by omega) (by omega) (by omega) (t1.mono (by omega)) hp4 (by omega)
theorem d_ascent {l : List Int} {p n : Int} (hl : Byt l) (hp : Pos l p) (h1 : 1 ≤ n) (hn : n ≤ 100) (k : Nat) (hk : 300 ≤ k) : ∃ r p', spec_l1Rd_ascent.f k l p n = some (r, p') ∧ 2 ≤ r.length ∧ r.length ≤ 200 ∧ Pos l p' := by
  unfold spec_l1Rd_ascent.f
  obtain ⟨v, p1, e1, v0, v1, hp1⟩ := d_size (c := 6) hl hp (by omega) h1 (by omega)
  obtain ⟨u, p2, e2, u0, u1, u2, hp2⟩ := d_below (n := 300) hl hp1 (by omega)
  have u3 := u1 (by omega)
  obtain ⟨t, p3, e3, t1, hp3⟩ := d_tenth (a := -100) (b := 300) hl hp2 (by omega) (by omega) (by omega)
  rw [e1]
  simp only [Option.bind_some, e2, e3]
  rw [wrap_id (i := 1 + v) (by omega) (by omega), wrap_id (i := 10000 + u) (by omega) (by omega)]
  obtain ⟨r, p', e, r1, r2, hp'⟩ := d_ascent0 hl (x5 := 1 + v) (by omega) (by omega) (1 + v).toNat [] (10000 + u) t 0 p3 k (by omega) rfl (by omega) (fun _ => by omega) (by omega) (by omega) t1 hp3 (by omega)
  exact ⟨r, p', e, r1, by omega, hp'⟩

theorem d_word0 {l : List Int} (hl : Byt l) : ∀ (n : Nat) (x x4 : Int) (p : Int) (k : Nat), x4 + n = 8 → 0 ≤ x4 → Pos l p → n + 1 ≤ k → ∃ v p', spec_l1Rd_word.l0 k x x4 l p = some (v, p') ∧ Pos l p' := by
  intro n
  induction n with
  | zero =>
    intro x x4 p k h1 h0 hp hk
    obtain ⟨k, rfl⟩ : ∃ m, k = m + 1 := ⟨k - 1, by omega⟩
    rw [spec_l1Rd_word.l0, if_neg (by omega)]; exact ⟨_, _, rfl, hp⟩
  | succ n ih =>
    intro x x4 p k h1 h0 hp hk
    obtain ⟨k, rfl⟩ : ∃ m, k = m + 1 := ⟨k - 1, by omega⟩
    obtain ⟨v, p', e, _, _, hp'⟩ := d_next hl hp
    rw [spec_l1Rd_word.l0, if_pos (by omega), e]
    simp only [Option.bind_some]
    rw [wrap_id (i := x4 + 1) (by omega) (by omega)]
    exact ih _ _ _ k (by omega) (by omega) hp' (by omega)
theorem d_word {l : List Int} {p : Int} (hl : Byt l) (hp : Pos l p) (k : Nat) (hk : 9 ≤ k) : ∃ v p', spec_l1Rd_word.f k l p = some (v, p') ∧ Pos l p' := d_word0 hl 8 0 0 p k (by omega) (by omega) hp hk
theorem wrap_lim (i : Int) : (wrap64 i).natAbs ≤ 2 ^ 63 := by unfold wrap64; omega
theorem d_number {l : List Int} {p : Int} (hl : Byt l) (hp : Pos l p) (k : Nat) (hk : 9 ≤ k) : ∃ v p', spec_l1Rd_number.f k l p = some (v, p') ∧ v.natAbs ≤ 2 ^ 63 ∧ Pos l p' := by
  unfold spec_l1Rd_number.f
  obtain ⟨t, p1, e1, t0, t1, t2, hp1⟩ := d_below (n := 5) hl hp (by omega)
  rw [e1]
  simp only [Option.bind_some]
  by_cases h0 : t = 0
  · rw [if_pos h0]
    obtain ⟨u, p2, e2, u0, u1, u2, hp2⟩ := d_below (n := 300) hl hp1 (by omega)
    rw [e2]; exact ⟨_, _, rfl, wrap_lim _, hp2⟩
  rw [if_neg h0]
  by_cases h1 : t = 1
  · rw [if_pos h1]
    obtain ⟨u, p2, e2, u0, u1, u2, hp2⟩ := d_below (n := 12) hl hp1 (by omega)
    have u3 := u1 (by omega)
    rw [e2]
    simp only [Option.bind_some]
    rw [if_pos u0, if_pos (by simp only [List.length_cons, List.length_nil]; omega)]
    refine ⟨_, _, rfl, ?_, hp2⟩
    have : ∀ i : Int, 0 ≤ i → i < 12 → (rd ([0, 1, (-1), 127, 128, 2147483648, 1000000000000000, 1000000000000001, (-1000000000000000), 9007199254740993, 9223372036854775807, (-9223372036854775808)] : List Int) i).natAbs ≤ 2 ^ 63 := by
      intro i h0 h1
      obtain ⟨n, rfl⟩ := Int.eq_ofNat_of_zero_le h0
      have hn : n < 12 := by omega
      have : ∀ n : Nat, n < 12 → (rd ([0, 1, (-1), 127, 128, 2147483648, 1000000000000000, 1000000000000001, (-1000000000000000), 9007199254740993, 9223372036854775807, (-9223372036854775808)] : List Int) (n : Int)).natAbs ≤ 2 ^ 63 := by decide
      exact this n hn
    exact this u u0 u3
  rw [if_neg h1]
  by_cases h2 : t = 2
  · rw [if_pos h2]
    obtain ⟨v, p2, e2, hp2⟩ := d_word hl hp1 k hk
    obtain ⟨u, p3, e3, u0, u1, u2, hp3⟩ := d_below (n := 60) hl hp2 (by omega)
    have u3 := u1 (by omega)
    rw [e2]
    simp only [Option.bind_some, e3]
    rw [if_pos (by rw [wrap_id (by omega) (by omega)]; unfold IntKind.wrap; simp [IntKind.bits, IntKind.signed]; omega)]
    exact ⟨_, _, rfl, wrap_lim _, hp3⟩
  · rw [if_neg h2]
    obtain ⟨u, p2, e2, u0, u1, u2, hp2⟩ := d_below (n := 20) hl hp1 (by omega)
    have u3 := u1 (by omega)
    rw [e2]; exact ⟨_, _, rfl, by omega, hp2⟩
end Go.Proofs.Ytjgnolohppnbbaa.PSg
