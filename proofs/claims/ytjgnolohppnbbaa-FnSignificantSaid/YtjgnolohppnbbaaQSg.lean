/- The significant levels: the two speak alike, and what is chosen. Conditions: none. -/
import Derived.Test.YtjgnolohppnbbaaQDraw
set_option linter.unusedVariables false
namespace Go.Proofs.Ytjgnolohppnbbaa.PSg
open Go.Proofs.YtjgnolohppnbbaaW Go.RowKit Go.Proofs.YtjgnolohppnbbaaW.PrintWords Go.Proofs.YtjgnolohppnbbaaW.PrintLast Go.Proofs.YtjgnolohppnbbaaW.PrintMore
open F64

theorem q_known (x : Nat) : impl_Known.f x = some (ffin x) := by
  have hmax : ¬ IsNaN 9218868437227405311 := by decide
  have kmax : key 9218868437227405311 = 9218868437227405311 := by decide
  unfold impl_Known.f impl_missing.f math_IsInf.f math_Abs.f
  simp only [Option.bind_some, if_true]
  by_cases h : IsNaN x
  · rw [fne_nan (.inl h), if_pos rfl]
    unfold ffin
    rw [decide_eq_false (fun hf => fin_notNaN hf h)]
  · rw [fne_key h h, decide_eq_true rfl, if_neg (by decide), fgt_key (notNaN_fabs h) hmax, kmax, key_fabs]
    have e : ffin x = decide (rung x < 9218868437227405312) := decide_eq_decide.2 Iff.rfl
    rw [e]
    congr 1
    by_cases hr : rung x < 9218868437227405312
    · rw [decide_eq_true hr, decide_eq_false (by omega)]; rfl
    · rw [decide_eq_false hr, decide_eq_true (by omega)]; rfl
theorem q_l2In (a b c : Int) : spec_l2In.f a b c = some (decide (b ≤ a ∧ a ≤ c)) := by
  unfold spec_l2In.f
  by_cases h : a ≥ b
  · rw [if_pos h]; congr 1; exact decide_eq_decide.2 ⟨fun g => ⟨h, g⟩, fun g => g.2⟩
  · rw [if_neg h]; congr 1; exact (decide_eq_false (fun g => h g.1)).symm
theorem q_in (a b c : Int) : impl_in.f a b c = some (decide (b ≤ a ∧ a ≤ c)) := by
  unfold impl_in.f
  by_cases h : a ≥ b
  · rw [if_pos h]; congr 1; exact decide_eq_decide.2 ⟨fun g => ⟨h, g⟩, fun g => g.2⟩
  · rw [if_neg h]; congr 1; exact (decide_eq_false (fun g => h g.1)).symm

/-- The i-th level stands well. -/
def OkAt (l : List S41) (j : Int) : Prop :=
  1 ≤ (rd_T41 l j).f0 ∧ (rd_T41 l j).f0 ≤ 12000 ∧ (0 < j → (rd_T41 l j).f0 < (rd_T41 l (j - 1)).f0) ∧ F64.Fin (rd_T41 l j).f1 ∧ flt (rd_T41 l j).f1 13864612927836782592 = false ∧ fgt (rd_T41 l j).f1 4641240890982006784 = false
theorem q_ascent_l (l : List S41) (hl : (l.length : Int) ≤ 1000000) : ∀ (n : Nat) (i : Int), 0 ≤ i → i + n = l.length →
    ∃ b, spec_AscentOk.l0 (n + 1) l i = some b ∧ impl_AscentOk.l0 (n + 1) l l l.length i = some b ∧ (b = true → ∀ j, i ≤ j → j < l.length → OkAt l j) := by
  intro n
  induction n with
  | zero =>
    intro i h0 hi
    refine ⟨true, ?_, ?_, fun _ j _ _ => by omega⟩
    · simp only [spec_AscentOk.l0]; rw [if_neg (by omega)]
    · simp only [impl_AscentOk.l0]; rw [if_neg (by omega)]
  | succ n ih =>
    intro i h0 hi
    obtain ⟨b, e1, e2, e3⟩ := ih (i + 1) (by omega) (by omega)
    rw [spec_AscentOk.l0, impl_AscentOk.l0]
    simp only [q_l2In, q_in, q_known, spec_Known.f, Option.bind_some]
    rw [if_pos (show i < (l.length : Int) by omega), if_pos h0, if_pos (show i < (l.length : Int) by omega), if_pos h0, if_pos (show i < (l.length : Int) by omega)]
    rw [wrap_id (i := i - 1) (by omega) (by omega), wrap_id (i := i + 1) (by omega) (by omega), e1, e2]
    by_cases h1 : 1 ≤ (rd_T41 l i).f0 ∧ (rd_T41 l i).f0 ≤ 12000
    case neg => rw [decide_eq_false h1]; exact ⟨false, rfl, rfl, fun h => by cases h⟩
    rw [decide_eq_true h1, if_pos rfl]
    have tail : (0 < i → (rd_T41 l i).f0 < (rd_T41 l (i - 1)).f0) → ∃ b', (if ffin (rd_T41 l i).f1 = true then (if flt (rd_T41 l i).f1 13864612927836782592 = true then some false else if fgt (rd_T41 l i).f1 4641240890982006784 = true then some false else some b) else some false) = some b' ∧ (b' = true → ∀ j, i ≤ j → j < l.length → OkAt l j) := by
      intro hd
      by_cases h2 : F64.Fin (rd_T41 l i).f1
      case neg => unfold ffin; rw [decide_eq_false h2]; exact ⟨false, rfl, fun h => by cases h⟩
      rw [show ffin (rd_T41 l i).f1 = true from decide_eq_true h2, if_pos rfl]
      cases h3 : flt (rd_T41 l i).f1 13864612927836782592
      case true => exact ⟨false, rfl, fun h => by cases h⟩
      cases h4 : fgt (rd_T41 l i).f1 4641240890982006784
      case true => exact ⟨false, rfl, fun h => by cases h⟩
      refine ⟨b, rfl, fun hb j hj hj2 => ?_⟩
      by_cases hji : j = i
      · subst hji; exact ⟨h1.1, h1.2, hd, h2, h3, h4⟩
      · exact e3 hb j (by omega) hj2
    by_cases hpos : i > 0
    · rw [if_pos hpos, if_pos (show 0 ≤ i - 1 by omega), if_pos (show i - 1 < (l.length : Int) by omega)]
      by_cases hd : (rd_T41 l i).f0 ≥ (rd_T41 l (i - 1)).f0
      · rw [if_pos hd]; exact ⟨false, rfl, rfl, fun h => by cases h⟩
      · rw [if_neg hd]
        obtain ⟨b', g1, g2⟩ := tail (fun _ => by omega)
        exact ⟨b', g1, g1, g2⟩
    · rw [if_neg hpos]
      obtain ⟨b', g1, g2⟩ := tail (fun h => absurd h hpos)
      exact ⟨b', g1, g1, g2⟩

def Good (l : List S41) : Prop := 2 ≤ l.length ∧ l.length ≤ 400 ∧ ∀ j : Int, 0 ≤ j → j < l.length → OkAt l j
theorem q_ascent (l : List S41) : ∃ b, (∀ k, 402 ≤ k → spec_AscentOk.f k l = some b) ∧ (∀ k, 402 ≤ k → impl_AscentOk.f k l = some b) ∧ (b = true → Good l) := by
  unfold spec_AscentOk.f impl_AscentOk.f
  simp only [q_in, Option.bind_some]
  by_cases h : 2 ≤ l.length ∧ l.length ≤ 400
  · obtain ⟨b, e1, e2, e3⟩ := q_ascent_l l (by omega) l.length 0 (by omega) (by omega)
    have m1 := fun k (hk : l.length + 1 ≤ k) => at_rounds (fun k => (spec_AscentOk.mono_l k).2 l 0) hk e1
    have m2 := fun k (hk : l.length + 1 ≤ k) => at_rounds (fun k => impl_AscentOk.mono_l k l l l.length 0) hk e2
    refine ⟨b, fun k hk => ?_, fun k hk => ?_, fun hb => ⟨h.1, h.2, fun j h0 h1 => e3 hb j h0 h1⟩⟩
    · obtain ⟨k, rfl⟩ : ∃ m, k = m + 1 := ⟨k - 1, by omega⟩
      rw [if_neg (by omega), decide_eq_false (by omega)]; simp only [spec_AscentOk.j0]; exact m1 k (by omega)
    · rw [decide_eq_true (by omega), if_pos rfl]; exact m2 k (by omega)
  · refine ⟨false, fun k hk => ?_, fun k hk => ?_, fun h => by cases h⟩
    · obtain ⟨k, rfl⟩ : ∃ m, k = m + 1 := ⟨k - 1, by omega⟩
      by_cases h2 : (l.length : Int) < 2
      · rw [if_pos h2]; rfl
      · rw [if_neg h2, decide_eq_true (by omega)]; rfl
    · rw [decide_eq_false (by omega), if_neg (by decide)]

theorem q_desc {l : List S41} (h : Good l) : ∀ (n : Nat) (i : Int), 0 ≤ i → i + (n + 1) < l.length → (rd_T41 l (i + (n + 1))).f0 < (rd_T41 l i).f0 := by
  intro n
  induction n with
  | zero =>
    intro i h0 h1
    have := (h.2.2 (i + 1) (by omega) (by omega)).2.2.1 (by omega)
    rw [show i + 1 - 1 = i by omega] at this
    simpa using this
  | succ n ih =>
    intro i h0 h1
    have a := ih i h0 (by omega)
    have := (h.2.2 (i + (n + 1) + 1) (by omega) (by omega)).2.2.1 (by omega)
    rw [show i + ((n : Int) + 1) + 1 - 1 = i + (n + 1) by omega] at this
    rw [show i + (((n + 1 : Nat) : Int) + 1) = i + ((n : Int) + 1) + 1 by omega]
    omega
theorem q_desc' {l : List S41} (h : Good l) {i j : Int} (h0 : 0 ≤ i) (h1 : i < j) (h2 : j < l.length) : (rd_T41 l j).f0 < (rd_T41 l i).f0 := by
  have := q_desc h (j - i - 1).toNat i h0 (by omega)
  rwa [show i + (((j - i - 1).toNat : Int) + 1) = j by omega] at this

theorem q_warm {x y : Nat} (hx : F64.Fin x) (hy : F64.Fin y) (h1 : flt x 13864612927836782592 = false) (h2 : fgt x 4641240890982006784 = false) (h3 : flt y 13864612927836782592 = false) (h4 : fgt y 4641240890982006784 = false) :
    fok .sub x y = true ∧ F64.Fin (fop .sub x y) := by
  have n1 : ¬ IsNaN 13864612927836782592 := by decide
  have n2 : ¬ IsNaN 4641240890982006784 := by decide
  have f1 : F64.Fin 13864612927836782592 := by decide
  have f2 : F64.Fin 4641240890982006784 := by decide
  rw [flt_key (fin_notNaN hx) n1, decide_eq_false_iff_not] at h1
  rw [flt_key (fin_notNaN hy) n1, decide_eq_false_iff_not] at h3
  rw [fgt_key (fin_notNaN hx) n2, decide_eq_false_iff_not] at h2
  rw [fgt_key (fin_notNaN hy) n2, decide_eq_false_iff_not] at h4
  rw [key_lt_val] at h1 h2 h3 h4
  refine sub_small hx hy ?_
  have e : (val x - val y).natAbs ≤ 2 * mag 4641240890982006784 := by
    have v1 : val 13864612927836782592 = -(mag 4641240890982006784 : Int) := by unfold val; rfl
    have v2 : val 4641240890982006784 = (mag 4641240890982006784 : Int) := by unfold val; rfl
    rw [v1] at h1 h3
    rw [v2] at h2 h4
    generalize mag 4641240890982006784 = M at *
    omega
  have := rungOf_mono e
  have c : rungOf (2 * mag 4641240890982006784) < INF := by decide +kernel
  omega

/-- The value between two levels. -/
theorem q_between {l : List S41} (h : Good l) {a b i : Int} (h0 : 0 ≤ a) (h1 : a < i) (h2 : i < b) (h3 : b < l.length) :
    ∃ r, spec_Between.f (rd_T41 l a).f0 (rd_T41 l a).f1 (rd_T41 l b).f0 (rd_T41 l b).f1 (rd_T41 l i).f0 = some r ∧ impl_Between.f (rd_T41 l a).f0 (rd_T41 l a).f1 (rd_T41 l b).f0 (rd_T41 l b).f1 (rd_T41 l i).f0 = some r ∧ ¬ IsNaN r := by
  have d1 := q_desc' h h0 h1 (by omega)
  have d2 := q_desc' h (show 0 ≤ i by omega) h2 h3
  obtain ⟨a1, a2, _, a3, a4, a5⟩ := h.2.2 a h0 (by omega)
  obtain ⟨b1, b2, _, b3, b4, b5⟩ := h.2.2 b (by omega) (by omega)
  obtain ⟨i1, i2, _, i3, i4, i5⟩ := h.2.2 i (by omega) (by omega)
  generalize (rd_T41 l a).f0 = pa at *
  generalize (rd_T41 l b).f0 = pb at *
  generalize (rd_T41 l i).f0 = pi at *
  generalize (rd_T41 l a).f1 = ta at *
  generalize (rd_T41 l b).f1 = tb at *
  obtain ⟨s1, s2⟩ := q_warm b3 a3 b4 b5 a4 a5
  obtain ⟨r1, r2⟩ := quo_ratio (n := pa - pi) (m := pa - pb) (by omega) (by omega) (by omega)
  obtain ⟨m1, m2⟩ := mul_ok s2 r2
  obtain ⟨u1, u2⟩ := add_ok a3 m2
  refine ⟨_, ?_, ?_, u2⟩
  · unfold spec_Between.f
    rw [if_neg (by omega), if_neg (by omega)]
    simp only [q_l2In, Option.bind_some]
    rw [wrap_id (i := pa - pb) (by omega) (by omega), wrap_id (i := pa - pi) (by omega) (by omega)]
    rw [decide_eq_true (show -12000 ≤ pa ∧ pa ≤ 12000 by omega), if_pos rfl, decide_eq_true (show -12000 ≤ pb ∧ pb ≤ 12000 by omega), if_pos rfl, decide_eq_true (show -12000 ≤ pi ∧ pi ≤ 12000 by omega), if_pos rfl, decide_eq_true (show -12000 ≤ pa - pb ∧ pa - pb ≤ 12000 by omega), if_pos rfl]
    rw [decide_eq_false (show ¬ pa < pi by omega), decide_eq_false (show ¬ pi < pb by omega), if_neg (by decide), if_pos r1, if_pos s1, if_pos m1, if_pos u1]
  · unfold impl_Between.f
    rw [if_neg (by omega), if_neg (by omega), if_pos (by omega), if_pos r1, if_pos s1, if_pos m1, if_pos u1]

/-- How far a level lies off. -/
theorem q_off {l : List S41} (h : Good l) {a b i : Int} (h0 : 0 ≤ a) (h1 : a < i) (h2 : i < b) (h3 : b < l.length) :
    ∃ d d', spec_l6Off.f l a b i = some d ∧ impl_Signif.dAt l a b i = some d' ∧ key d = key d' ∧ ¬ IsNaN d ∧ ¬ IsNaN d' := by
  obtain ⟨r, e1, e2, e3⟩ := q_between h h0 h1 h2 h3
  obtain ⟨i1, i2, _, i3, i4, i5⟩ := h.2.2 i (by omega) (by omega)
  obtain ⟨s1, s2⟩ := sub_ok i3 e3
  obtain ⟨k1, k2⟩ := key_abs s2
  refine ⟨if flt (fop .sub (rd_T41 l i).f1 r) 0 = true then fneg (fop .sub (rd_T41 l i).f1 r) else fop .sub (rd_T41 l i).f1 r, fabs (fop .sub (rd_T41 l i).f1 r), ?_, ?_, k1, k2, notNaN_fabs s2⟩
  · unfold spec_l6Off.f
    rw [if_pos (by omega), if_pos (by omega), if_pos (by omega), if_pos (by omega), if_pos (by omega), if_pos (by omega), e1]
    simp only [Option.bind_some]
    rw [if_pos s1]
    split <;> rfl
  · unfold impl_Signif.dAt
    rw [e2]
    simp only [Option.bind_some]
    rw [if_pos s1]

/-- Where the greatest lies, so far. -/
def Most (tol : Nat) (mS mI : Nat) (at_ : Int) : Prop := (at_ = -1 ∧ mS = tol) ∨ (0 ≤ at_ ∧ key mS = key mI ∧ ¬ IsNaN mS ∧ ¬ IsNaN mI ∧ key tol < key mS)
/-- What follows the scan. -/
def after (k : Nat) (l : List S41) (a b : Int) (tol : Nat) (t : Int) : Option (List Int) :=
  if t < 0 then (some (([] : List Int))) else ((spec_l6Split.f k l a t tol).bind fun t127 => (if t127.length < 17592186044416 then ((some (t127 ++ [t] : List Int)).bind fun y130 => ((spec_l6Split.f k l t b tol).bind fun t133 => (if y130.length + t133.length < 17592186044416 then (some (y130 ++ t133)) else (none)))) else (none)))
theorem q_scan {l : List S41} (h : Good l) {tol : Nat} (htol : F64.Fin tol) {a b : Int} (h0 : 0 ≤ a) (h3 : b < l.length) : ∀ (n : Nat) (i : Int) (mS mI : Nat) (at_ : Int), a < i → i + n = b → Most tol mS mI at_ →
    ∃ t, (∀ fuel, n < fuel → impl_Signif.scan fuel l tol a b i mI at_ = some t) ∧ (∀ k, spec_l6Split.l0 (k + n + 1) l a b tol at_ mS i = after k l a b tol t) := by
  intro n
  induction n with
  | zero =>
    intro i mS mI at_ h1 h2 hm
    refine ⟨at_, ?_, ?_⟩
    · intro fuel hf
      obtain ⟨f, rfl⟩ : ∃ f, fuel = f + 1 := ⟨fuel - 1, by omega⟩
      rw [impl_Signif.scan, if_neg (by omega)]
    · intro k
      rw [show k + 0 + 1 = k + 1 by omega, spec_l6Split.l0, if_neg (by omega)]; rfl
  | succ n ih =>
    intro i mS mI at_ h1 h2 hm
    obtain ⟨d, d', e1, e2, e3, e4, e5⟩ := q_off h h0 h1 (show i < b by omega) h3
    have hk : ∀ k, spec_l6Split.l0 (k + (n + 1) + 1) l a b tol at_ mS i = if fgt d mS = true then spec_l6Split.l0 (k + n + 1) l a b tol i d (i + 1) else spec_l6Split.l0 (k + n + 1) l a b tol at_ mS (i + 1) := by
      intro k
      rw [show k + (n + 1) + 1 = (k + n + 1) + 1 by omega, spec_l6Split.l0, if_pos (by omega), e1, wrap_id (i := i + 1) (by have := h.2.1; omega) (by have := h.2.1; omega)]
      rfl
    have hf : ∀ fuel, n + 1 < fuel → ∃ f, n < f ∧ impl_Signif.scan fuel l tol a b i mI at_ = if fgt d' tol = true then (if at_ < 0 then impl_Signif.scan f l tol a b (i + 1) d' i else if fgt d' mI = true then impl_Signif.scan f l tol a b (i + 1) d' i else impl_Signif.scan f l tol a b (i + 1) mI at_) else impl_Signif.scan f l tol a b (i + 1) mI at_ := by
      intro fuel hf
      obtain ⟨f, rfl⟩ : ∃ f, fuel = f + 1 := ⟨fuel - 1, by omega⟩
      refine ⟨f, by omega, ?_⟩
      rw [impl_Signif.scan, if_pos (by omega), e2]
      rfl
    have ht := fin_notNaN htol
    rw [fgt_key e5 ht] at hf
    rcases hm with ⟨ha, hs⟩ | ⟨ha, g1, g2, g3, g4⟩
    · subst ha hs
      rw [fgt_key e4 ht] at hk
      by_cases hc : key mS < key d
      · obtain ⟨t, u1, u2⟩ := ih (i + 1) d d' i (by omega) (by omega) (.inr ⟨by omega, e3, e4, e5, hc⟩)
        refine ⟨t, ?_, ?_⟩
        · intro fuel hfu
          obtain ⟨f, f1, f2⟩ := hf fuel hfu
          rw [f2, ← e3, decide_eq_true hc, if_pos rfl, if_pos (by omega)]; exact u1 f f1
        · intro k
          rw [hk, decide_eq_true hc, if_pos rfl]; exact u2 k
      · obtain ⟨t, u1, u2⟩ := ih (i + 1) mS mI (-1) (by omega) (by omega) (.inl ⟨rfl, rfl⟩)
        refine ⟨t, ?_, ?_⟩
        · intro fuel hfu
          obtain ⟨f, f1, f2⟩ := hf fuel hfu
          rw [f2, ← e3, decide_eq_false hc, if_neg (by decide)]; exact u1 f f1
        · intro k
          rw [hk, decide_eq_false hc, if_neg (by decide)]; exact u2 k
    · rw [fgt_key e4 g2] at hk
      rw [fgt_key e5 g3] at hf
      by_cases hc : key mS < key d
      · obtain ⟨t, u1, u2⟩ := ih (i + 1) d d' i (by omega) (by omega) (.inr ⟨by omega, e3, e4, e5, by omega⟩)
        refine ⟨t, ?_, ?_⟩
        · intro fuel hfu
          obtain ⟨f, f1, f2⟩ := hf fuel hfu
          rw [f2, decide_eq_true (by omega), if_pos rfl, if_neg (by omega), decide_eq_true (by omega), if_pos rfl]; exact u1 f f1
        · intro k
          rw [hk, decide_eq_true hc, if_pos rfl]; exact u2 k
      · obtain ⟨t, u1, u2⟩ := ih (i + 1) mS mI at_ (by omega) (by omega) (.inr ⟨ha, g1, g2, g3, g4⟩)
        refine ⟨t, ?_, ?_⟩
        · intro fuel hfu
          obtain ⟨f, f1, f2⟩ := hf fuel hfu
          rw [f2, if_neg (show ¬ at_ < 0 by omega), decide_eq_false (show ¬ key mI < key d' by omega), if_neg (show ¬ (false = true) by decide), ite_self]; exact u1 f f1
        · intro k
          rw [hk, decide_eq_false hc, if_neg (by decide)]; exact u2 k

/-- No level between a and b lies off by more than the tolerance. -/
def Leaf (l : List S41) (tol : Nat) (a b : Int) : Prop := ∀ i, a < i → i < b → ∃ d, impl_Signif.dAt l a b i = some d ∧ ¬ IsNaN d ∧ ¬ key tol < key d
theorem q_leaf {l : List S41} (h : Good l) {tol : Nat} (htol : F64.Fin tol) {a b : Int} (h0 : 0 ≤ a) (h3 : b < l.length) : ∀ (n : Nat) (i : Int) (mI : Nat) (fuel : Nat) (t : Int), a < i → i + n = b →
    impl_Signif.scan fuel l tol a b i mI (-1) = some t → t < 0 → ∀ j, i ≤ j → j < b → ∃ d, impl_Signif.dAt l a b j = some d ∧ ¬ IsNaN d ∧ ¬ key tol < key d := by
  intro n
  induction n with
  | zero => intro i mI fuel t h1 h2 h4 h5 j h6 h7; omega
  | succ n ih =>
    intro i mI fuel t h1 h2 h4 h5 j h6 h7
    cases fuel with
    | zero => cases h4
    | succ fuel =>
      obtain ⟨d, d', e1, e2, e3, e4, e5⟩ := q_off h h0 h1 (show i < b by omega) h3
      rw [impl_Signif.scan, if_pos (by omega), e2] at h4
      simp only [Option.bind_some] at h4
      rw [fgt_key e5 (fin_notNaN htol)] at h4
      by_cases hc : key tol < key d'
      · rw [decide_eq_true hc, if_pos rfl, if_pos (by omega)] at h4
        have := impl_Signif.scan_range _ _ _ _ _ _ _ _ _ h4
        omega
      · rw [decide_eq_false hc, if_neg (by decide)] at h4
        by_cases hj : j = i
        · subst hj; exact ⟨d', e2, e5, hc⟩
        · exact ih (i + 1) mI fuel t (by omega) (by omega) h4 h5 j (by omega) h7
/-- Each with the next. -/
def Chn (P : Int → Int → Prop) : Int → List Int → Prop
  | _, [] => True
  | a, b :: r => P a b ∧ Chn P b r
theorem Chn.glue {P : Int → Int → Prop} {t : Int} {ys : List Int} : ∀ (xs : List Int) (a : Int), Chn P a (xs ++ [t]) → Chn P t ys → Chn P a (xs ++ [t] ++ ys)
  | [], a, h1, h2 => ⟨h1.1, h2⟩
  | x :: xs, a, h1, h2 => ⟨h1.1, Chn.glue xs x h1.2 h2⟩
def fuelOf : Nat → Nat
  | 0 => 2
  | n + 1 => fuelOf n + n + 4
theorem fuelOf_ge (n : Nat) : n + 2 ≤ fuelOf n := by
  induction n with
  | zero => decide
  | succ n ih => unfold fuelOf; omega
theorem fuelOf_le {n m : Nat} (h : n ≤ m) : fuelOf n ≤ fuelOf m := by
  induction m with
  | zero => obtain rfl : n = 0 := by omega
            exact Nat.le_refl _
  | succ m ih =>
    by_cases e : n = m + 1
    · subst e; exact Nat.le_refl _
    · have := ih (by omega)
      show fuelOf n ≤ fuelOf m + m + 4
      omega
theorem q_split {l : List S41} (h : Good l) {tol : Nat} (htol : F64.Fin tol) : ∀ (n : Nat) (a b : Int), 0 ≤ a → a < b → b < l.length → b - a ≤ n →
    ∃ xs ys, (∀ k, fuelOf n ≤ k → spec_l6Split.f k l a b tol = some xs) ∧ (∀ f, n < f → impl_Signif.part f l tol a b = some ys) ∧ xs.Pairwise (· < ·) ∧ (∀ x ∈ xs, a < x ∧ x < b) ∧ xs.Perm ys ∧ (xs.length : Int) < b - a ∧ Chn (Leaf l tol) a (xs ++ [b]) := by
  intro n
  induction n with
  | zero => intro a b h0 h1 h2 h3; omega
  | succ n ih =>
    intro a b h0 h1 h2 h3
    obtain ⟨t, u1, u2⟩ := q_scan h htol h0 h2 (b - a - 1).toNat (a + 1) tol 0 (-1) (by omega) (by omega) (.inl ⟨rfl, rfl⟩)
    have us : ∀ k, spec_l6Split.f (k + (b - a - 1).toNat + 1 + 1) l a b tol = after k l a b tol t := by
      intro k
      rw [spec_l6Split.f, wrap_id (i := a + 1) (by have := h.2.1; omega) (by have := h.2.1; omega)]
      exact u2 k
    have hsc : impl_Signif.scan (l.length + 1) l tol a b (a + 1) 0 (-1) = some t := u1 _ (by omega)
    have hpart : ∀ f, n < f → impl_Signif.part (f + 1) l tol a b = if t < 0 then some [] else (impl_Signif.part f l tol a t).bind fun x => (impl_Signif.part f l tol t b).bind fun y => some (t :: (x ++ y)) := by
      intro f _
      rw [impl_Signif.part, hsc]; rfl
    have hr := impl_Signif.scan_range _ _ _ _ _ _ _ _ _ hsc
    have hfu := fuelOf_ge n
    by_cases ht : t < 0
    · refine ⟨[], [], ?_, ?_, List.Pairwise.nil, by simp, List.Perm.refl _, by simp; omega, ⟨?_, trivial⟩⟩
      · intro k hk
        unfold fuelOf at hk
        obtain ⟨m, rfl⟩ : ∃ m, k = m + (b - a - 1).toNat + 1 + 1 := ⟨k - ((b - a - 1).toNat + 1 + 1), by omega⟩
        rw [us]; unfold after; rw [if_pos ht]
      · intro f hf
        obtain ⟨m, rfl⟩ : ∃ m, f = m + 1 := ⟨f - 1, by omega⟩
        rw [hpart m (by omega), if_pos ht]
      · intro i hi hi2
        exact q_leaf h htol h0 h2 (b - a - 1).toNat (a + 1) 0 _ t (by omega) (by omega) hsc ht i (by omega) hi2
    · obtain ⟨hr1, hr2⟩ : a + 1 ≤ t ∧ t < b := by omega
      obtain ⟨xs, ys, a1, a2, a3, a4, a5, a6, a7⟩ := ih a t h0 (by omega) (by omega) (by omega)
      obtain ⟨xs', ys', b1, b2, b3, b4, b5, b6, b7⟩ := ih t b (by omega) (by omega) (by omega) (by omega)
      have hlen := h.2.1
      refine ⟨xs ++ [t] ++ xs', t :: (ys ++ ys'), ?_, ?_, ?_, ?_, ?_, ?_, ?_⟩
      · intro k hk
        unfold fuelOf at hk
        obtain ⟨m, rfl⟩ : ∃ m, k = m + (b - a - 1).toNat + 1 + 1 := ⟨k - ((b - a - 1).toNat + 1 + 1), by omega⟩
        have d1 := a1 m (by omega)
        have d2 := b1 m (by omega)
        rw [us]; unfold after; rw [if_neg ht, d1]
        simp only [Option.bind_some]
        rw [if_pos (by omega), d2]
        simp only [Option.bind_some]
        rw [if_pos (by simp only [List.length_append, List.length_cons, List.length_nil]; omega)]
      · intro f hf
        obtain ⟨m, rfl⟩ : ∃ m, f = m + 1 := ⟨f - 1, by omega⟩
        rw [hpart m (by omega), if_neg ht, a2 m (by omega), b2 m (by omega)]; rfl
      · rw [List.pairwise_append, List.pairwise_append]
        refine ⟨⟨a3, List.pairwise_singleton _ _, ?_⟩, b3, ?_⟩
        · intro x hx y hy
          have := (a4 x hx).2
          simp only [List.mem_singleton] at hy; omega
        · intro x hx y hy
          have hy' := (b4 y hy).1
          rcases List.mem_append.1 hx with hx | hx
          · have := (a4 x hx).2; omega
          · simp only [List.mem_singleton] at hx; omega
      · intro x hx
        rcases List.mem_append.1 hx with hx | hx
        · rcases List.mem_append.1 hx with hx | hx
          · have := a4 x hx; omega
          · simp only [List.mem_singleton] at hx; omega
        · have := b4 x hx; omega
      · rw [List.append_assoc, List.singleton_append]
        exact List.perm_middle.trans (List.Perm.cons _ (a5.append b5))
      · simp only [List.length_append, List.length_cons, List.length_nil]; omega
      · rw [List.append_assoc]; exact Chn.glue xs a a7 b7

/-- What is chosen. -/
def Chosen (l : List S41) (tol : Nat) (r : List Int) : Prop :=
  Good l ∧ F64.Fin tol ∧ flt tol 0 = false ∧ ∃ xs ys, r = [0] ++ xs ++ [(l.length : Int) - 1] ∧ impl_Signif.part (l.length + 1) l tol 0 ((l.length : Int) - 1) = some ys ∧ xs.Pairwise (· < ·) ∧ (∀ x ∈ xs, 0 < x ∧ x < (l.length : Int) - 1) ∧ xs.Perm ys ∧ Chn (Leaf l tol) 0 (xs ++ [(l.length : Int) - 1])
/-- The two speak alike. -/
theorem q_signif (l : List S41) (tol : Nat) : ∃ r, (∀ k, 200000 ≤ k → spec_Signif.f k l tol = some r) ∧ (∀ k, 402 ≤ k → impl_Signif.f k l tol = some r) ∧ r.length ≤ 1000 ∧ (r = [] ∨ Chosen l tol r) := by
  obtain ⟨b, v1, v2, e3⟩ := q_ascent l
  unfold spec_Signif.f impl_Signif.f
  simp only [Option.bind_some, spec_Known.f, q_known]
  cases b with
  | false => exact ⟨[], fun k hk => by rw [v1 k (by omega)]; rfl, fun k hk => by rw [v2 k hk]; rfl, by simp, .inl rfl⟩
  | true =>
    have hg := e3 rfl
    by_cases hf : F64.Fin tol
    case neg =>
      unfold ffin
      rw [decide_eq_false hf]
      exact ⟨[], fun k hk => by rw [v1 k (by omega)]; rfl, fun k hk => by rw [v2 k hk]; rfl, by simp, .inl rfl⟩
    rw [show ffin tol = true from decide_eq_true hf]
    cases hn : flt tol 0 with
    | true => exact ⟨[], fun k hk => by rw [v1 k (by omega)]; rfl, fun k hk => by rw [v2 k hk]; rfl, by simp, .inl rfl⟩
    | false =>
      obtain ⟨g1, g2, g3⟩ := id hg
      obtain ⟨xs, ys, a1, a2, a3, a4, a5, a6, a7⟩ := q_split hg hf l.length 0 ((l.length : Int) - 1) (by omega) (by omega) (by omega) (by omega)
      have hw : wrap64 ((l.length : Int) - 1) = (l.length : Int) - 1 := wrap_id (by omega) (by omega)
      have hfu : fuelOf l.length ≤ 200000 := Nat.le_trans (fuelOf_le g2) (by decide +kernel)
      refine ⟨[0] ++ xs ++ [(l.length : Int) - 1], fun k hk => ?_, fun k hk => ?_, ?_, .inr ⟨hg, hf, hn, xs, ys, rfl, a2 _ (by omega), a3, a4, a5, a7⟩⟩
      · rw [v1 k (by omega)]
        simp only [Option.bind_some, if_true, Bool.false_eq_true, if_false, hw]
        simp only [List.length_nil, show (0 : Nat) < 17592186044416 by omega, if_true, List.nil_append]
        rw [a1 k (by omega)]
        simp only [Option.bind_some]
        rw [if_pos (by simp only [List.length_cons, List.length_nil]; omega)]
        rw [if_pos (by simp only [List.length_append, List.length_cons, List.length_nil]; omega)]
      · rw [v2 k hk]
        simp only [Option.bind_some, if_true, Bool.false_eq_true, if_false]
        rw [if_pos (by omega), if_pos g1, a2 _ (by omega)]
        have hs : (([0, (l.length : Int) - 1] ++ ys).mergeSort fun x y => decide (x ≤ y)) = [0] ++ xs ++ [(l.length : Int) - 1] := by
          refine List.Perm.eq_of_pairwise (le := fun a b : Int => a ≤ b) (fun a b _ _ h1 h2 => by omega) ?_ ?_ ?_
          · have := List.pairwise_mergeSort (le := fun x y : Int => decide (x ≤ y)) (fun a b c h1 h2 => by simp only [decide_eq_true_eq] at *; omega) (fun a b => by simp only [Bool.or_eq_true, decide_eq_true_eq]; omega) ([0, (l.length : Int) - 1] ++ ys)
            exact this.imp (fun h => of_decide_eq_true h)
          · rw [List.pairwise_append, List.pairwise_append]
            refine ⟨⟨List.pairwise_singleton _ _, a3.imp (fun h => by omega), ?_⟩, List.pairwise_singleton _ _, ?_⟩
            · intro x hx y hy
              have := a4 y hy
              simp only [List.mem_singleton] at hx; omega
            · intro x hx y hy
              simp only [List.mem_singleton] at hy
              rcases List.mem_append.1 hx with hx | hx
              · simp only [List.mem_singleton] at hx; omega
              · have := a4 x hx; omega
          · refine (List.mergeSort_perm _ _).trans ?_
            show (0 :: ((l.length : Int) - 1) :: ys).Perm (0 :: (xs ++ [(l.length : Int) - 1]))
            refine List.Perm.cons _ ?_
            exact (List.Perm.cons _ a5.symm).trans (List.perm_append_singleton _ _).symm
        rw [Option.bind_some, hs]
      · simp only [List.length_append, List.length_cons, List.length_nil]; omega
end Go.Proofs.Ytjgnolohppnbbaa.PSg
