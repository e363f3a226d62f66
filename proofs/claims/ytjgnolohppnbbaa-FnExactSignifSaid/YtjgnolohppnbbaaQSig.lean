/- FnExactSignif: the plain law. Conditions: none. -/
import Derived.Test.YtjgnolohppnbbaaPSigx8
import Derived.Test.YtjgnolohppnbbaaWF65
import Derived.Outline
set_option linter.unusedVariables false
namespace Go.Proofs.Ytjgnolohppnbbaa.PSig
open Go.Proofs.YtjgnolohppnbbaaW Go.RowKit Go.Proofs.YtjgnolohppnbbaaW.PrintWords Go.Proofs.YtjgnolohppnbbaaW.PrintLast Go.Proofs.YtjgnolohppnbbaaW.PrintMore
open F64

theorem wrap_id {i : Int} (h0 : -9000000000000000000 ≤ i) (h1 : i ≤ 9000000000000000000) : wrap64 i = i := by
  unfold wrap64; omega

theorem q_known (x : Nat) : impl_Known.f x = some (ffin x) := by
  have hmax : ¬ IsNaN 9218868437227405311 := by decide
  have kmax : key 9218868437227405311 = 9218868437227405311 := by decide
  unfold impl_Known.f impl_missing.f math_IsInf.f math_Abs.f
  simp only [Option.bind_some, if_true]
  by_cases h : IsNaN x
  · rw [fne_nan (.inl h), if_pos rfl]
    unfold ffin
    rw [decide_eq_false (fun hf => fin_notNaN hf h)]
  · rw [fne_key h h, decide_eq_true rfl, if_neg (by decide), fgt_key (notNaN_fabs h) hmax, kmax, key_fabs]
    have e : ffin x = decide (rung x < 9218868437227405312) := decide_eq_decide.2 Iff.rfl
    rw [e]
    congr 1
    by_cases hr : rung x < 9218868437227405312
    · rw [decide_eq_true hr, decide_eq_false (by omega)]; rfl
    · rw [decide_eq_false hr, decide_eq_true (by omega)]; rfl
theorem q_l2In (a b c : Int) : spec_l2In.f a b c = some (decide (b ≤ a ∧ a ≤ c)) := by
  unfold spec_l2In.f
  by_cases h : a ≥ b
  · rw [if_pos h]; congr 1; exact decide_eq_decide.2 ⟨fun g => ⟨h, g⟩, fun g => g.2⟩
  · rw [if_neg h]; congr 1; exact (decide_eq_false (fun g => h g.1)).symm
theorem q_in (a b c : Int) : impl_in.f a b c = some (decide (b ≤ a ∧ a ≤ c)) := by
  unfold impl_in.f
  by_cases h : a ≥ b
  · rw [if_pos h]; congr 1; exact decide_eq_decide.2 ⟨fun g => ⟨h, g⟩, fun g => g.2⟩
  · rw [if_neg h]; congr 1; exact (decide_eq_false (fun g => h g.1)).symm

/-- The i-th level stands well. -/
def OkAt (l : List S41) (j : Int) : Prop :=
  1 ≤ (rd_T41 l j).f0 ∧ (rd_T41 l j).f0 ≤ 12000 ∧ (0 < j → (rd_T41 l j).f0 < (rd_T41 l (j - 1)).f0) ∧ F64.Fin (rd_T41 l j).f1 ∧ flt (rd_T41 l j).f1 13864612927836782592 = false ∧ fgt (rd_T41 l j).f1 4641240890982006784 = false
theorem q_ascent_l (l : List S41) (hl : (l.length : Int) ≤ 1000000) : ∀ (n : Nat) (i : Int), 0 ≤ i → i + n = l.length →
    ∃ b, spec_AscentOk.l0 (n + 1) l i = some b ∧ impl_AscentOk.l0 (n + 1) l l l.length i = some b ∧ (b = true → ∀ j, i ≤ j → j < l.length → OkAt l j) := by
  intro n
  induction n with
  | zero =>
    intro i h0 hi
    refine ⟨true, ?_, ?_, fun _ j _ _ => by omega⟩
    · simp only [spec_AscentOk.l0]; rw [if_neg (by omega)]
    · simp only [impl_AscentOk.l0]; rw [if_neg (by omega)]
  | succ n ih =>
    intro i h0 hi
    obtain ⟨b, e1, e2, e3⟩ := ih (i + 1) (by omega) (by omega)
    rw [spec_AscentOk.l0, impl_AscentOk.l0]
    simp only [q_l2In, q_in, q_known, spec_Known.f, Option.bind_some]
    rw [if_pos (show i < (l.length : Int) by omega), if_pos h0, if_pos (show i < (l.length : Int) by omega), if_pos h0, if_pos (show i < (l.length : Int) by omega)]
    rw [wrap_id (i := i - 1) (by omega) (by omega), wrap_id (i := i + 1) (by omega) (by omega), e1, e2]
    by_cases h1 : 1 ≤ (rd_T41 l i).f0 ∧ (rd_T41 l i).f0 ≤ 12000
    case neg => rw [decide_eq_false h1]; exact ⟨false, rfl, rfl, fun h => by cases h⟩
    rw [decide_eq_true h1, if_pos rfl]
    have tail : (0 < i → (rd_T41 l i).f0 < (rd_T41 l (i - 1)).f0) → ∃ b', (if ffin (rd_T41 l i).f1 = true then (if flt (rd_T41 l i).f1 13864612927836782592 = true then some false else if fgt (rd_T41 l i).f1 4641240890982006784 = true then some false else some b) else some false) = some b' ∧ (b' = true → ∀ j, i ≤ j → j < l.length → OkAt l j) := by
      intro hd
      by_cases h2 : F64.Fin (rd_T41 l i).f1
      case neg => unfold ffin; rw [decide_eq_false h2]; exact ⟨false, rfl, fun h => by cases h⟩
      rw [show ffin (rd_T41 l i).f1 = true from decide_eq_true h2, if_pos rfl]
      cases h3 : flt (rd_T41 l i).f1 13864612927836782592
      case true => exact ⟨false, rfl, fun h => by cases h⟩
      cases h4 : fgt (rd_T41 l i).f1 4641240890982006784
      case true => exact ⟨false, rfl, fun h => by cases h⟩
      refine ⟨b, rfl, fun hb j hj hj2 => ?_⟩
      by_cases hji : j = i
      · subst hji; exact ⟨h1.1, h1.2, hd, h2, h3, h4⟩
      · exact e3 hb j (by omega) hj2
    by_cases hpos : i > 0
    · rw [if_pos hpos, if_pos (show 0 ≤ i - 1 by omega), if_pos (show i - 1 < (l.length : Int) by omega)]
      by_cases hd : (rd_T41 l i).f0 ≥ (rd_T41 l (i - 1)).f0
      · rw [if_pos hd]; exact ⟨false, rfl, rfl, fun h => by cases h⟩
      · rw [if_neg hd]
        obtain ⟨b', g1, g2⟩ := tail (fun _ => by omega)
        exact ⟨b', g1, g1, g2⟩
    · rw [if_neg hpos]
      obtain ⟨b', g1, g2⟩ := tail (fun h => absurd h hpos)
      exact ⟨b', g1, g1, g2⟩

def Good (l : List S41) : Prop := 2 ≤ l.length ∧ l.length ≤ 400 ∧ ∀ j : Int, 0 ≤ j → j < l.length → OkAt l j
theorem q_ascent (l : List S41) : ∃ b, (∃ k, spec_AscentOk.f k l = some b) ∧ (∃ k, impl_AscentOk.f k l = some b) ∧ (b = true → Good l) := by
  unfold spec_AscentOk.f impl_AscentOk.f
  simp only [q_in, Option.bind_some]
  by_cases h : 2 ≤ l.length ∧ l.length ≤ 400
  · obtain ⟨b, e1, e2, e3⟩ := q_ascent_l l (by omega) l.length 0 (by omega) (by omega)
    refine ⟨b, ⟨l.length + 1 + 1, ?_⟩, ⟨l.length + 1, ?_⟩, fun hb => ⟨h.1, h.2, fun j h0 h1 => e3 hb j h0 h1⟩⟩
    · rw [if_neg (by omega), decide_eq_false (by omega)]; simp only [spec_AscentOk.j0]; exact e1
    · rw [decide_eq_true (by omega), if_pos rfl]; exact e2
  · refine ⟨false, ⟨1, ?_⟩, ⟨0, ?_⟩, fun h => by cases h⟩
    · by_cases h2 : (l.length : Int) < 2
      · rw [if_pos h2]; rfl
      · rw [if_neg h2, decide_eq_true (by omega)]; rfl
    · rw [decide_eq_false (by omega), if_neg (by decide)]

theorem q_desc {l : List S41} (h : Good l) : ∀ (n : Nat) (i : Int), 0 ≤ i → i + (n + 1) < l.length → (rd_T41 l (i + (n + 1))).f0 < (rd_T41 l i).f0 := by
  intro n
  induction n with
  | zero =>
    intro i h0 h1
    have := (h.2.2 (i + 1) (by omega) (by omega)).2.2.1 (by omega)
    rw [show i + 1 - 1 = i by omega] at this
    simpa using this
  | succ n ih =>
    intro i h0 h1
    have a := ih i h0 (by omega)
    have := (h.2.2 (i + (n + 1) + 1) (by omega) (by omega)).2.2.1 (by omega)
    rw [show i + ((n : Int) + 1) + 1 - 1 = i + (n + 1) by omega] at this
    rw [show i + (((n + 1 : Nat) : Int) + 1) = i + ((n : Int) + 1) + 1 by omega]
    omega
theorem q_desc' {l : List S41} (h : Good l) {i j : Int} (h0 : 0 ≤ i) (h1 : i < j) (h2 : j < l.length) : (rd_T41 l j).f0 < (rd_T41 l i).f0 := by
  have := q_desc h (j - i - 1).toNat i h0 (by omega)
  rwa [show i + (((j - i - 1).toNat : Int) + 1) = j by omega] at this

theorem q_warm {x y : Nat} (hx : F64.Fin x) (hy : F64.Fin y) (h1 : flt x 13864612927836782592 = false) (h2 : fgt x 4641240890982006784 = false) (h3 : flt y 13864612927836782592 = false) (h4 : fgt y 4641240890982006784 = false) :
    fok .sub x y = true ∧ F64.Fin (fop .sub x y) := by
  have n1 : ¬ IsNaN 13864612927836782592 := by decide
  have n2 : ¬ IsNaN 4641240890982006784 := by decide
  have f1 : F64.Fin 13864612927836782592 := by decide
  have f2 : F64.Fin 4641240890982006784 := by decide
  rw [flt_key (fin_notNaN hx) n1, decide_eq_false_iff_not] at h1
  rw [flt_key (fin_notNaN hy) n1, decide_eq_false_iff_not] at h3
  rw [fgt_key (fin_notNaN hx) n2, decide_eq_false_iff_not] at h2
  rw [fgt_key (fin_notNaN hy) n2, decide_eq_false_iff_not] at h4
  rw [key_lt_val] at h1 h2 h3 h4
  refine sub_small hx hy ?_
  have e : (val x - val y).natAbs ≤ 2 * mag 4641240890982006784 := by
    have v1 : val 13864612927836782592 = -(mag 4641240890982006784 : Int) := by unfold val; rfl
    have v2 : val 4641240890982006784 = (mag 4641240890982006784 : Int) := by unfold val; rfl
    rw [v1] at h1 h3
    rw [v2] at h2 h4
    generalize mag 4641240890982006784 = M at *
    omega
  have := rungOf_mono e
  have c : rungOf (2 * mag 4641240890982006784) < INF := by decide +kernel
  omega

/-- The value between two levels. -/
theorem q_between {l : List S41} (h : Good l) {a b i : Int} (h0 : 0 ≤ a) (h1 : a < i) (h2 : i < b) (h3 : b < l.length) :
    ∃ r, spec_Between.f (rd_T41 l a).f0 (rd_T41 l a).f1 (rd_T41 l b).f0 (rd_T41 l b).f1 (rd_T41 l i).f0 = some r ∧ impl_Between.f (rd_T41 l a).f0 (rd_T41 l a).f1 (rd_T41 l b).f0 (rd_T41 l b).f1 (rd_T41 l i).f0 = some r ∧ ¬ IsNaN r := by
  have d1 := q_desc' h h0 h1 (by omega)
  have d2 := q_desc' h (show 0 ≤ i by omega) h2 h3
  obtain ⟨a1, a2, _, a3, a4, a5⟩ := h.2.2 a h0 (by omega)
  obtain ⟨b1, b2, _, b3, b4, b5⟩ := h.2.2 b (by omega) (by omega)
  obtain ⟨i1, i2, _, i3, i4, i5⟩ := h.2.2 i (by omega) (by omega)
  generalize (rd_T41 l a).f0 = pa at *
  generalize (rd_T41 l b).f0 = pb at *
  generalize (rd_T41 l i).f0 = pi at *
  generalize (rd_T41 l a).f1 = ta at *
  generalize (rd_T41 l b).f1 = tb at *
  obtain ⟨s1, s2⟩ := q_warm b3 a3 b4 b5 a4 a5
  obtain ⟨r1, r2⟩ := quo_ratio (n := pa - pi) (m := pa - pb) (by omega) (by omega) (by omega)
  obtain ⟨m1, m2⟩ := mul_ok s2 r2
  obtain ⟨u1, u2⟩ := add_ok a3 m2
  refine ⟨_, ?_, ?_, u2⟩
  · unfold spec_Between.f
    rw [if_neg (by omega), if_neg (by omega)]
    simp only [q_l2In, Option.bind_some]
    rw [wrap_id (i := pa - pb) (by omega) (by omega), wrap_id (i := pa - pi) (by omega) (by omega)]
    rw [decide_eq_true (show -12000 ≤ pa ∧ pa ≤ 12000 by omega), if_pos rfl, decide_eq_true (show -12000 ≤ pb ∧ pb ≤ 12000 by omega), if_pos rfl, decide_eq_true (show -12000 ≤ pi ∧ pi ≤ 12000 by omega), if_pos rfl, decide_eq_true (show -12000 ≤ pa - pb ∧ pa - pb ≤ 12000 by omega), if_pos rfl]
    rw [decide_eq_false (show ¬ pa < pi by omega), decide_eq_false (show ¬ pi < pb by omega), if_neg (by decide), if_pos r1, if_pos s1, if_pos m1, if_pos u1]
  · unfold impl_Between.f
    rw [if_neg (by omega), if_neg (by omega), if_pos (by omega), if_pos r1, if_pos s1, if_pos m1, if_pos u1]

/-- How far a level lies off. -/
theorem q_off {l : List S41} (h : Good l) {a b i : Int} (h0 : 0 ≤ a) (h1 : a < i) (h2 : i < b) (h3 : b < l.length) :
    ∃ d d', spec_l6Off.f l a b i = some d ∧ impl_Signif.dAt l a b i = some d' ∧ key d = key d' ∧ ¬ IsNaN d ∧ ¬ IsNaN d' := by
  obtain ⟨r, e1, e2, e3⟩ := q_between h h0 h1 h2 h3
  obtain ⟨i1, i2, _, i3, i4, i5⟩ := h.2.2 i (by omega) (by omega)
  obtain ⟨s1, s2⟩ := sub_ok i3 e3
  obtain ⟨k1, k2⟩ := key_abs s2
  refine ⟨if flt (fop .sub (rd_T41 l i).f1 r) 0 = true then fneg (fop .sub (rd_T41 l i).f1 r) else fop .sub (rd_T41 l i).f1 r, fabs (fop .sub (rd_T41 l i).f1 r), ?_, ?_, k1, k2, notNaN_fabs s2⟩
  · unfold spec_l6Off.f
    rw [if_pos (by omega), if_pos (by omega), if_pos (by omega), if_pos (by omega), if_pos (by omega), if_pos (by omega), e1]
    simp only [Option.bind_some]
    rw [if_pos s1]
    split <;> rfl
  · unfold impl_Signif.dAt
    rw [e2]
    simp only [Option.bind_some]
    rw [if_pos s1]

/-- Where the greatest lies, so far. -/
def Most (tol : Nat) (mS mI : Nat) (at_ : Int) : Prop := (at_ = -1 ∧ mS = tol) ∨ (0 ≤ at_ ∧ key mS = key mI ∧ ¬ IsNaN mS ∧ ¬ IsNaN mI ∧ key tol < key mS)
/-- What follows the scan. -/
def after (k : Nat) (l : List S41) (a b : Int) (tol : Nat) (t : Int) : Option (List Int) :=
  if t < 0 then (some (([] : List Int))) else ((spec_l6Split.f k l a t tol).bind fun t127 => (if t127.length < 17592186044416 then ((some (t127 ++ [t] : List Int)).bind fun y130 => ((spec_l6Split.f k l t b tol).bind fun t133 => (if y130.length + t133.length < 17592186044416 then (some (y130 ++ t133)) else (none)))) else (none)))
theorem q_scan {l : List S41} (h : Good l) {tol : Nat} (htol : F64.Fin tol) {a b : Int} (h0 : 0 ≤ a) (h3 : b < l.length) : ∀ (n : Nat) (i : Int) (mS mI : Nat) (at_ : Int), a < i → i + n = b → Most tol mS mI at_ →
    ∃ t, (∀ fuel, n < fuel → impl_Signif.scan fuel l tol a b i mI at_ = some t) ∧ (∀ k, spec_l6Split.l0 (k + n + 1) l a b tol at_ mS i = after k l a b tol t) := by
  intro n
  induction n with
  | zero =>
    intro i mS mI at_ h1 h2 hm
    refine ⟨at_, ?_, ?_⟩
    · intro fuel hf
      obtain ⟨f, rfl⟩ : ∃ f, fuel = f + 1 := ⟨fuel - 1, by omega⟩
      rw [impl_Signif.scan, if_neg (by omega)]
    · intro k
      rw [show k + 0 + 1 = k + 1 by omega, spec_l6Split.l0, if_neg (by omega)]; rfl
  | succ n ih =>
    intro i mS mI at_ h1 h2 hm
    obtain ⟨d, d', e1, e2, e3, e4, e5⟩ := q_off h h0 h1 (show i < b by omega) h3
    have hk : ∀ k, spec_l6Split.l0 (k + (n + 1) + 1) l a b tol at_ mS i = if fgt d mS = true then spec_l6Split.l0 (k + n + 1) l a b tol i d (i + 1) else spec_l6Split.l0 (k + n + 1) l a b tol at_ mS (i + 1) := by
      intro k
      rw [show k + (n + 1) + 1 = (k + n + 1) + 1 by omega, spec_l6Split.l0, if_pos (by omega), e1, wrap_id (i := i + 1) (by have := h.2.1; omega) (by have := h.2.1; omega)]
      rfl
    have hf : ∀ fuel, n + 1 < fuel → ∃ f, n < f ∧ impl_Signif.scan fuel l tol a b i mI at_ = if fgt d' tol = true then (if at_ < 0 then impl_Signif.scan f l tol a b (i + 1) d' i else if fgt d' mI = true then impl_Signif.scan f l tol a b (i + 1) d' i else impl_Signif.scan f l tol a b (i + 1) mI at_) else impl_Signif.scan f l tol a b (i + 1) mI at_ := by
      intro fuel hf
      obtain ⟨f, rfl⟩ : ∃ f, fuel = f + 1 := ⟨fuel - 1, by omega⟩
      refine ⟨f, by omega, ?_⟩
      rw [impl_Signif.scan, if_pos (by omega), e2]
      rfl
    have ht := fin_notNaN htol
    rw [fgt_key e5 ht] at hf
    rcases hm with ⟨ha, hs⟩ | ⟨ha, g1, g2, g3, g4⟩
    · subst ha hs
      rw [fgt_key e4 ht] at hk
      by_cases hc : key mS < key d
      · obtain ⟨t, u1, u2⟩ := ih (i + 1) d d' i (by omega) (by omega) (.inr ⟨by omega, e3, e4, e5, hc⟩)
        refine ⟨t, ?_, ?_⟩
        · intro fuel hfu
          obtain ⟨f, f1, f2⟩ := hf fuel hfu
          rw [f2, ← e3, decide_eq_true hc, if_pos rfl, if_pos (by omega)]; exact u1 f f1
        · intro k
          rw [hk, decide_eq_true hc, if_pos rfl]; exact u2 k
      · obtain ⟨t, u1, u2⟩ := ih (i + 1) mS mI (-1) (by omega) (by omega) (.inl ⟨rfl, rfl⟩)
        refine ⟨t, ?_, ?_⟩
        · intro fuel hfu
          obtain ⟨f, f1, f2⟩ := hf fuel hfu
          rw [f2, ← e3, decide_eq_false hc, if_neg (by decide)]; exact u1 f f1
        · intro k
          rw [hk, decide_eq_false hc, if_neg (by decide)]; exact u2 k
    · rw [fgt_key e4 g2] at hk
      rw [fgt_key e5 g3] at hf
      by_cases hc : key mS < key d
      · obtain ⟨t, u1, u2⟩ := ih (i + 1) d d' i (by omega) (by omega) (.inr ⟨by omega, e3, e4, e5, by omega⟩)
        refine ⟨t, ?_, ?_⟩
        · intro fuel hfu
          obtain ⟨f, f1, f2⟩ := hf fuel hfu
          rw [f2, decide_eq_true (by omega), if_pos rfl, if_neg (by omega), decide_eq_true (by omega), if_pos rfl]; exact u1 f f1
        · intro k
          rw [hk, decide_eq_true hc, if_pos rfl]; exact u2 k
      · obtain ⟨t, u1, u2⟩ := ih (i + 1) mS mI at_ (by omega) (by omega) (.inr ⟨ha, g1, g2, g3, g4⟩)
        refine ⟨t, ?_, ?_⟩
        · intro fuel hfu
          obtain ⟨f, f1, f2⟩ := hf fuel hfu
          rw [f2, if_neg (show ¬ at_ < 0 by omega), decide_eq_false (show ¬ key mI < key d' by omega), if_neg (show ¬ (false = true) by decide), ite_self]; exact u1 f f1
        · intro k
          rw [hk, decide_eq_false hc, if_neg (by decide)]; exact u2 k

theorem q_split {l : List S41} (h : Good l) {tol : Nat} (htol : F64.Fin tol) : ∀ (n : Nat) (a b : Int), 0 ≤ a → a < b → b < l.length → b - a ≤ n →
    ∃ xs ys, Ev (fun k => spec_l6Split.f k l a b tol) xs ∧ (∀ f, n < f → impl_Signif.part f l tol a b = some ys) ∧ xs.Pairwise (· < ·) ∧ (∀ x ∈ xs, a < x ∧ x < b) ∧ xs.Perm ys ∧ (xs.length : Int) < b - a := by
  intro n
  induction n with
  | zero => intro a b h0 h1 h2 h3; omega
  | succ n ih =>
    intro a b h0 h1 h2 h3
    obtain ⟨t, u1, u2⟩ := q_scan h htol h0 h2 (b - a - 1).toNat (a + 1) tol 0 (-1) (by omega) (by omega) (.inl ⟨rfl, rfl⟩)
    have us : ∀ k, spec_l6Split.f (k + (b - a - 1).toNat + 1 + 1) l a b tol = after k l a b tol t := by
      intro k
      rw [spec_l6Split.f, wrap_id (i := a + 1) (by have := h.2.1; omega) (by have := h.2.1; omega)]
      exact u2 k
    have hsc : impl_Signif.scan (l.length + 1) l tol a b (a + 1) 0 (-1) = some t := u1 _ (by omega)
    have hpart : ∀ f, n < f → impl_Signif.part (f + 1) l tol a b = if t < 0 then some [] else (impl_Signif.part f l tol a t).bind fun x => (impl_Signif.part f l tol t b).bind fun y => some (t :: (x ++ y)) := by
      intro f _
      rw [impl_Signif.part, hsc]; rfl
    have hr := impl_Signif.scan_range _ _ _ _ _ _ _ _ _ hsc
    by_cases ht : t < 0
    · refine ⟨[], [], ⟨(b - a - 1).toNat + 1 + 1, ?_⟩, ?_, List.Pairwise.nil, by simp, List.Perm.refl _, by simp; omega⟩
      · intro k hk
        obtain ⟨m, rfl⟩ : ∃ m, k = m + (b - a - 1).toNat + 1 + 1 := ⟨k - ((b - a - 1).toNat + 1 + 1), by omega⟩
        show spec_l6Split.f _ l a b tol = _
        rw [us]; unfold after; rw [if_pos ht]
      · intro f hf
        obtain ⟨m, rfl⟩ : ∃ m, f = m + 1 := ⟨f - 1, by omega⟩
        rw [hpart m (by omega), if_pos ht]
    · obtain ⟨hr1, hr2⟩ : a + 1 ≤ t ∧ t < b := by omega
      obtain ⟨xs, ys, a1, a2, a3, a4, a5, a6⟩ := ih a t h0 (by omega) (by omega) (by omega)
      obtain ⟨xs', ys', b1, b2, b3, b4, b5, b6⟩ := ih t b (by omega) (by omega) (by omega) (by omega)
      have hlen := h.2.1
      refine ⟨xs ++ [t] ++ xs', t :: (ys ++ ys'), ?_, ?_, ?_, ?_, ?_, ?_⟩
      · obtain ⟨K1, c1⟩ := a1
        obtain ⟨K2, c2⟩ := b1
        refine ⟨max K1 K2 + (b - a - 1).toNat + 1 + 1, ?_⟩
        intro k hk
        obtain ⟨m, rfl⟩ : ∃ m, k = m + (b - a - 1).toNat + 1 + 1 := ⟨k - ((b - a - 1).toNat + 1 + 1), by omega⟩
        show spec_l6Split.f _ l a b tol = _
        have d1 := c1 m (by omega)
        have d2 := c2 m (by omega)
        simp only at d1 d2
        rw [us]; unfold after; rw [if_neg ht, d1]
        simp only [Option.bind_some]
        rw [if_pos (by omega), d2]
        simp only [Option.bind_some]
        rw [if_pos (by simp only [List.length_append, List.length_cons, List.length_nil]; omega)]
      · intro f hf
        obtain ⟨m, rfl⟩ : ∃ m, f = m + 1 := ⟨f - 1, by omega⟩
        rw [hpart m (by omega), if_neg ht, a2 m (by omega), b2 m (by omega)]; rfl
      · rw [List.pairwise_append, List.pairwise_append]
        refine ⟨⟨a3, List.pairwise_singleton _ _, ?_⟩, b3, ?_⟩
        · intro x hx y hy
          have := (a4 x hx).2
          simp only [List.mem_singleton] at hy; omega
        · intro x hx y hy
          have hy' := (b4 y hy).1
          rcases List.mem_append.1 hx with hx | hx
          · have := (a4 x hx).2; omega
          · simp only [List.mem_singleton] at hx; omega
      · intro x hx
        rcases List.mem_append.1 hx with hx | hx
        · rcases List.mem_append.1 hx with hx | hx
          · have := a4 x hx; omega
          · simp only [List.mem_singleton] at hx; omega
        · have := b4 x hx; omega
      · rw [List.append_assoc, List.singleton_append]
        exact List.perm_middle.trans (List.Perm.cons _ (a5.append b5))
      · simp only [List.length_append, List.length_cons, List.length_nil]; omega

/-- The two speak alike. -/
theorem q_signif (l : List S41) (tol : Nat) : ∃ r, Ev (fun k => spec_Signif.f k l tol) r ∧ Ev (fun k => impl_Signif.f k l tol) r ∧ r.length ≤ 1000 := by
  obtain ⟨b, ⟨k1, e1⟩, ⟨k2, e2⟩, e3⟩ := q_ascent l
  have v1 : Ev (fun k => spec_AscentOk.f k l) b := Ev.of (fun k => spec_AscentOk.mono l k) e1
  have v2 : Ev (fun k => impl_AscentOk.f k l) b := Ev.of (fun k => impl_AscentOk.mono l k) e2
  unfold spec_Signif.f impl_Signif.f
  simp only [Option.bind_some, spec_Known.f, q_known]
  cases b with
  | false => exact ⟨[], Ev.bind v1 (Ev.now _), Ev.bind v2 (Ev.now _), by simp⟩
  | true =>
    have hg := e3 rfl
    by_cases hf : F64.Fin tol
    case neg =>
      unfold ffin
      rw [decide_eq_false hf]
      exact ⟨[], Ev.bind v1 (Ev.now _), Ev.bind v2 (Ev.now _), by simp⟩
    rw [show ffin tol = true from decide_eq_true hf]
    cases hn : flt tol 0 with
    | true => exact ⟨[], Ev.bind v1 (Ev.now _), Ev.bind v2 (Ev.now _), by simp⟩
    | false =>
      obtain ⟨g1, g2, g3⟩ := id hg
      obtain ⟨xs, ys, a1, a2, a3, a4, a5, a6⟩ := q_split hg hf l.length 0 ((l.length : Int) - 1) (by omega) (by omega) (by omega) (by omega)
      have hw : wrap64 ((l.length : Int) - 1) = (l.length : Int) - 1 := wrap_id (by omega) (by omega)
      refine ⟨[0] ++ xs ++ [(l.length : Int) - 1], Ev.bind v1 ?_, Ev.bind v2 ?_, ?_⟩
      · simp only [if_true, Bool.false_eq_true, if_false, hw]
        simp only [List.length_nil, show (0 : Nat) < 17592186044416 by omega, if_true, List.nil_append]
        refine Ev.bind a1 ?_
        refine Ev.congr (f := fun _ => some ([0] ++ xs ++ [(l.length : Int) - 1])) (fun k => ?_) (Ev.now _)
        rw [if_pos (by simp only [List.length_cons, List.length_nil]; omega)]
        rw [if_pos (by simp only [List.length_append, List.length_cons, List.length_nil]; omega)]
      · simp only [if_true, Bool.false_eq_true, if_false]
        rw [if_pos (by omega), if_pos g1, a2 _ (by omega)]
        have hs : (([0, (l.length : Int) - 1] ++ ys).mergeSort fun x y => decide (x ≤ y)) = [0] ++ xs ++ [(l.length : Int) - 1] := by
          refine List.Perm.eq_of_pairwise (le := fun a b : Int => a ≤ b) (fun a b _ _ h1 h2 => by omega) ?_ ?_ ?_
          · have := List.pairwise_mergeSort (le := fun x y : Int => decide (x ≤ y)) (fun a b c h1 h2 => by simp only [decide_eq_true_eq] at *; omega) (fun a b => by simp only [Bool.or_eq_true, decide_eq_true_eq]; omega) ([0, (l.length : Int) - 1] ++ ys)
            exact this.imp (fun h => of_decide_eq_true h)
          · rw [List.pairwise_append, List.pairwise_append]
            refine ⟨⟨List.pairwise_singleton _ _, a3.imp (fun h => by omega), ?_⟩, List.pairwise_singleton _ _, ?_⟩
            · intro x hx y hy
              have := a4 y hy
              simp only [List.mem_singleton] at hx; omega
            · intro x hx y hy
              simp only [List.mem_singleton] at hy
              rcases List.mem_append.1 hx with hx | hx
              · simp only [List.mem_singleton] at hx; omega
              · have := a4 x hx; omega
          · refine (List.mergeSort_perm _ _).trans ?_
            show (0 :: ((l.length : Int) - 1) :: ys).Perm (0 :: (xs ++ [(l.length : Int) - 1]))
            refine List.Perm.cons _ ?_
            exact (List.Perm.cons _ a5.symm).trans (List.perm_append_singleton _ _).symm
        rw [Option.bind_some, hs]
        exact Ev.now _
      · simp only [List.length_append, List.length_cons, List.length_nil]; omega

/-! What the law itself does with them. -/
def conv (s : S47) : S41 := ⟨s.f0, s.f1⟩
theorem q_toLevelS_l (l : List S47) (hl : l.length ≤ 1048576) : ∀ (n i : Nat) (x3 : List S41), i + n = l.length → x3.length = l.length → (∀ j, j < i → x3[j]? = (l.map conv)[j]?) → laws_toLevelS.l0 (n + 1) l x3 i = some (l.map conv) := by
  intro n
  induction n with
  | zero =>
    intro i x3 h1 h2 h3
    rw [laws_toLevelS.l0, if_neg (by omega)]
    congr 1
    apply List.ext_getElem?
    intro j
    by_cases hj : j < i
    · exact h3 j hj
    · rw [List.getElem?_eq_none (by omega), List.getElem?_eq_none (by rw [List.length_map]; omega)]
  | succ n ih =>
    intro i x3 h1 h2 h3
    rw [laws_toLevelS.l0, if_pos (by omega), if_pos (by omega)]
    simp only [laws_toLevel.f, Option.bind_some]
    rw [if_pos (by omega), wrap_id (by omega) (by omega), Int.toNat_natCast]
    have hi : i < l.length := by omega
    have := ih (i + 1) (x3.set i ⟨(rd_T47 l i).f0, (rd_T47 l i).f1⟩) (by omega) (by rw [List.length_set]; exact h2) ?_
    · rw [show ((i + 1 : Nat) : Int) = (i : Int) + 1 by omega] at this
      exact this
    · intro j hj
      by_cases hji : j = i
      · subst hji
        rw [List.getElem?_set_self (by omega), List.getElem?_map]
        unfold rd_T47
        rw [Int.toNat_natCast, List.getD_eq_getElem?_getD, List.getElem?_eq_getElem hi]; rfl
      · rw [List.getElem?_set_ne (by omega)]; exact h3 j (by omega)
theorem q_toLevelS (l : List S47) (hl : l.length ≤ 1048576) : Ev (fun k => laws_toLevelS.f k l) (l.map conv) := by
  refine Ev.of (fun k => laws_toLevelS.mono l k) (k := l.length + 1) ?_
  unfold laws_toLevelS.f
  rw [if_pos (by omega), if_pos (by omega)]
  exact q_toLevelS_l l hl l.length 0 _ (by omega) (by rw [List.length_replicate, Int.toNat_natCast]) (fun j hj => by omega)

theorem q_eqInt_l (xs : List Int) (hl : xs.length ≤ 1048576) : ∀ (n : Nat) (i : Int), 0 ≤ i → i + n = xs.length → laws_eqInt64S.l0 (n + 1) xs xs i = some true := by
  intro n
  induction n with
  | zero => intro i h0 h1; rw [laws_eqInt64S.l0, if_neg (by omega)]
  | succ n ih =>
    intro i h0 h1
    rw [laws_eqInt64S.l0, if_pos (by omega), if_pos h0, if_pos (by omega), if_pos rfl, wrap_id (by omega) (by omega)]
    exact ih (i + 1) (by omega) (by omega)
theorem q_eqInt (xs : List Int) (hl : xs.length ≤ 1048576) : Ev (fun k => laws_eqInt64S.f k xs xs) true := by
  refine Ev.of (fun k => laws_eqInt64S.mono xs xs k) (k := xs.length + 1) ?_
  unfold laws_eqInt64S.f
  rw [if_pos rfl]
  exact q_eqInt_l xs hl _ 0 (by omega) (by omega)

theorem q_sameFloat (k x : Nat) : laws_sameFloat.f (k + 1) x x = some true := by
  unfold laws_sameFloat.f
  by_cases h : IsNaN x
  · rw [fne_nan (.inl h), if_pos rfl, laws_sameFloat.j0, if_pos rfl, fne_nan (.inl h), if_pos rfl]
  · have hn : fne x x = false := by rw [fne_key h h, decide_eq_true rfl]; rfl
    have he : feq x x = true := by rw [feq_key h h, decide_eq_true rfl]
    rw [hn, if_neg (by decide), laws_sameFloat.j0, if_neg (by decide)]
    by_cases h0 : feq x 0 = true
    · rw [if_pos h0, if_pos h0, if_pos (quo_one_ok h), if_pos (quo_one_ok h)]
      simp
    · rw [if_neg h0, he]
theorem q_eqLevel (k : Nat) (a : Int) (x : Nat) : laws_eqLevel.f (k + 1) a x a x = some true := by
  unfold laws_eqLevel.f
  rw [if_pos rfl, q_sameFloat]; rfl
theorem q_eqLevelS_l (xs : List S41) (hl : xs.length ≤ 1048576) : ∀ (n : Nat) (i : Int), 0 ≤ i → i + n = xs.length → laws_eqLevelS.l0 (n + 2) xs xs i = some true := by
  intro n
  induction n with
  | zero => intro i h0 h1; rw [laws_eqLevelS.l0, if_neg (by omega)]
  | succ n ih =>
    intro i h0 h1
    rw [laws_eqLevelS.l0, if_pos (by omega), if_pos h0, if_pos (by omega), q_eqLevel, wrap_id (by omega) (by omega)]
    exact ih (i + 1) (by omega) (by omega)
theorem q_eqLevelS (xs : List S41) (hl : xs.length ≤ 1048576) : Ev (fun k => laws_eqLevelS.f k xs xs) true := by
  refine Ev.of (fun k => laws_eqLevelS.mono xs xs k) (k := xs.length + 2) ?_
  unfold laws_eqLevelS.f
  rw [if_pos rfl]
  exact q_eqLevelS_l xs hl _ 0 (by omega) (by omega)

theorem q_markLevelS_l : ∀ (n : Nat) (i c : Int) (xs : List S41), 0 ≤ i → i + n = xs.length → xs.length ≤ 1048576 → 0 ≤ c → c + 2 * n ≤ 1000000000 → ∃ ys, laws_markLevelS.l0 (n + 1) xs c i = some (c + 2 * n, ys) := by
  intro n
  induction n with
  | zero => intro i c xs h0 h1 h2 h3 h4; exact ⟨xs, by rw [laws_markLevelS.l0, if_neg (by omega)]; simp⟩
  | succ n ih =>
    intro i c xs h0 h1 h2 h3 h4
    rw [laws_markLevelS.l0, if_pos (by omega), if_pos h0]
    simp only [Option.bind_some]
    rw [wrap_id (i := c + 1) (by omega) (by omega), wrap_id (i := c + 1 + 1) (by omega) (by omega), wrap_id (i := i + 1) (by omega) (by omega)]
    obtain ⟨ys, e⟩ := ih (i + 1) (c + 1 + 1) ((xs.set i.toNat ⟨c, (rd_T41 xs i).f1⟩).set i.toNat ⟨(rd_T41 (xs.set i.toNat ⟨c, (rd_T41 xs i).f1⟩) i).f0, fofi (c + 1)⟩) (by omega) (by simp only [List.length_set]; omega) (by simp only [List.length_set]; omega) (by omega) (by omega)
    exact ⟨ys, by rw [e]; congr 2; omega⟩
theorem q_markLevelS (xs : List S41) (hl : xs.length ≤ 1048576) : ∃ ys, Ev (fun k => laws_markLevelS.f k xs 1) (1 + 2 * (xs.length : Int), ys) := by
  obtain ⟨ys, e⟩ := q_markLevelS_l xs.length 0 1 xs (by omega) (by omega) hl (by omega) (by omega)
  exact ⟨ys, Ev.of (fun k => laws_markLevelS.mono xs 1 k) (k := xs.length + 1) e⟩

theorem q_markInt_l : ∀ (n i : Nat) (c : Int) (xs : List Int), i + n = xs.length → xs.length ≤ 1048576 → 0 ≤ c → c + n ≤ 1000000000 →
    ∃ ys : List Int, laws_markInt64S.l0 (n + 1) xs c i = some (c + n, ys) ∧ ys.length = xs.length ∧ (∀ j, j < i → ys[j]? = xs[j]?) ∧ (∀ j, i ≤ j → j < xs.length → ys[j]? = some (c + j - i)) := by
  intro n
  induction n with
  | zero => intro i c xs h1 h2 h3 h4; exact ⟨xs, by rw [laws_markInt64S.l0, if_neg (by omega)]; simp, rfl, fun _ _ => rfl, fun j _ _ => by omega⟩
  | succ n ih =>
    intro i c xs h1 h2 h3 h4
    rw [laws_markInt64S.l0, if_pos (by omega), if_pos (by omega), wrap_id (i := c + 1) (by omega) (by omega), wrap_id (i := (i : Int) + 1) (by omega) (by omega), Int.toNat_natCast]
    obtain ⟨ys, e, e1, e2, e3⟩ := ih (i + 1) (c + 1) (xs.set i c) (by rw [List.length_set]; omega) (by rw [List.length_set]; omega) (by omega) (by omega)
    rw [show ((i + 1 : Nat) : Int) = (i : Int) + 1 by omega] at e
    rw [List.length_set] at e1 e3
    refine ⟨ys, by rw [e]; congr 2; omega, e1, ?_, ?_⟩
    · intro j hj
      rw [e2 j (by omega), List.getElem?_set_ne (by omega)]
    · intro j hj hj2
      by_cases hji : j = i
      · subst hji
        rw [e2 j (by omega), List.getElem?_set_self (by omega)]; congr 1; omega
      · rw [e3 j (by omega) hj2]; congr 1; omega
theorem q_heldInt_l (ys : List Int) (hl : ys.length ≤ 1048576) (hy : ∀ j, j < ys.length → ys[j]? = some (1 + (j : Int))) : ∀ (n i : Nat), i + n = ys.length → laws_heldInt64S.l0 (n + 1) ys (1 + i) i = some (1 + (ys.length : Int)) := by
  intro n
  induction n with
  | zero => intro i h1; rw [laws_heldInt64S.l0, if_neg (by omega)]; congr 1; omega
  | succ n ih =>
    intro i h1
    have hr : rd ys i = 1 + (i : Int) := by
      unfold rd
      rw [Int.toNat_natCast, List.getD_eq_getElem?_getD, hy i (by omega)]; rfl
    rw [laws_heldInt64S.l0, if_pos (by omega), if_pos (by omega), if_pos hr, wrap_id (i := 1 + (i : Int) + 1) (by omega) (by omega), wrap_id (i := (i : Int) + 1) (by omega) (by omega)]
    have := ih (i + 1) (by omega)
    rw [show ((i + 1 : Nat) : Int) = (i : Int) + 1 by omega, ← Int.add_assoc] at this
    exact this
theorem q_marks (xs : List Int) (hl : xs.length ≤ 1048576) : ∃ ys : List Int, Ev (fun k => laws_markInt64S.f k xs 1) (1 + (xs.length : Int), ys) ∧ Ev (fun k => laws_heldInt64S.f k ys 1) (1 + (xs.length : Int)) := by
  obtain ⟨ys, e, e1, _, e3⟩ := q_markInt_l xs.length 0 1 xs (by omega) hl (by omega) (by omega)
  refine ⟨ys, Ev.of (fun k => laws_markInt64S.mono xs 1 k) (k := xs.length + 1) e, ?_⟩
  have := q_heldInt_l ys (by omega) (fun j hj => by rw [e3 j (by omega) (by omega)]; exact congrArg some (by omega)) ys.length 0 (by omega)
  rw [e1] at this
  exact Ev.of (fun k => laws_heldInt64S.mono ys 1 k) (k := xs.length + 1) this

/-- THE LAW. -/
theorem law_FnExactSignif (l : List S47) (tol : Nat) (hlen : l.length ≤ 9223372036854775807) : ∃ k, laws_FnExactSignif.f k l tol = some true := by
  apply Ev.rounds (g := fun k => laws_FnExactSignif.f k l tol)
  unfold laws_FnExactSignif.f laws_szLevelS.f
  by_cases hl : l.length ≤ 1048576
  case neg =>
    have hw : wrap64 (1048576 - (l.length : Int)) < 0 := by unfold wrap64; omega
    have hm : (-1 : Int) < 0 := by decide
    simp only [hw, if_true, Option.bind_some, hm]
    exact Ev.now _
  have hw : wrap64 (1048576 - (l.length : Int)) = 1048576 - (l.length : Int) := wrap_id (by omega) (by omega)
  have hn : ¬ (1048576 - (l.length : Int) < 0) := by omega
  simp only [hw, hn, if_false, Option.bind_some]
  obtain ⟨r, s1, s2, s3⟩ := q_signif (l.map conv) tol
  obtain ⟨ys, m1⟩ := q_markLevelS (l.map conv) (by rw [List.length_map]; exact hl)
  obtain ⟨zs, n1, n2⟩ := q_marks r (by omega)
  have t := q_toLevelS l hl
  have eqr := q_eqInt r (by omega)
  refine Ev.bind t (Ev.bind s1 (Ev.bind t (Ev.bind s2 (Ev.bind eqr ?_))))
  simp only [if_true]
  refine Ev.bind t (Ev.bind (q_eqLevelS _ (by rw [List.length_map]; exact hl)) ?_)
  simp only [if_true]
  refine Ev.bind m1 ?_
  have hc : ¬ (1 + 2 * ((l.map conv).length : Int) < 0) := by omega
  simp only [hc, if_false]
  refine Ev.bind eqr ?_
  refine Ev.step (f := fun k => (laws_markInt64S.f k r 1).bind fun bt209 => ((laws_heldInt64S.f k bt209.2 1).bind fun t211 => (if t211 < 0 then (some false) else (if t211 = bt209.1 then ((laws_toLevelS.f k l).bind fun t212 => ((impl_Signif.f k t212 tol).bind fun t215 => ((laws_eqInt64S.f k t215 r).bind fun t218 => (if t218 = true then ((laws_heldInt64S.f k bt209.2 1).bind fun t219 => (if t219 < 0 then (some false) else (if t219 = bt209.1 then (some true) else (some false)))) else (some false))))) else (some false))))) (fun k => by rw [laws_FnExactSignif.j0, if_neg (by decide)]) ?_
  refine Ev.bind n1 (Ev.bind n2 ?_)
  have hp : ¬ (1 + (r.length : Int) < 0) := by omega
  simp only [hp, if_false, if_true]
  refine Ev.bind t (Ev.bind s2 (Ev.bind eqr ?_))
  simp only [if_true]
  refine Ev.bind n2 ?_
  simp only [hp, if_false, if_true]
  exact Ev.now _
end Go.Proofs.Ytjgnolohppnbbaa.PSig
