/- FnSignificant: the plain law. Conditions: none. -/
import Derived.Test.YtjgnolohppnbbaaSgnSg
set_option linter.unusedVariables false
set_option linter.unusedSimpArgs false
namespace Go.Proofs.Ytjgnolohppnbbaa.PSg
open Go.Proofs.YtjgnolohppnbbaaW Go.RowKit Go.Proofs.YtjgnolohppnbbaaW.PrintWords Go.Proofs.YtjgnolohppnbbaaW.PrintLast Go.Proofs.YtjgnolohppnbbaaW.PrintMore
open F64

theorem fle_key_ {x y : Nat} (hx : ¬ IsNaN x) (hy : ¬ IsNaN y) : fle x y = decide (key x ≤ key y) := by
  unfold fle; rw [ord hx hy]
  rcases cases_cmp (key x) (key y) with ⟨h, e⟩ | ⟨h, e⟩ | ⟨h, e⟩ <;> rw [e] <;> symm <;> first | (rw [decide_eq_true (by omega)]; rfl) | (rw [decide_eq_false (by omega)]; rfl)
theorem rd_cons (a : Int) (ys : List Int) (m : Nat) : rd (a :: ys) ((m + 1 : Nat) : Int) = rd ys (m : Int) := by
  unfold rd; rw [Int.toNat_natCast, Int.toNat_natCast]; rfl
theorem rd_zero (a : Int) (ys : List Int) : rd (a :: ys) 0 = a := rfl
theorem chn_get {P : Int → Int → Prop} : ∀ (ys : List Int) (a : Int), Chn P a ys → ∀ m : Nat, m < ys.length → P (rd (a :: ys) (m : Int)) (rd (a :: ys) ((m + 1 : Nat) : Int))
  | [], a, h, m, hm => by simp at hm
  | y :: ys, a, h, 0, hm => h.1
  | y :: ys, a, h, m + 1, hm => by
    rw [rd_cons, rd_cons]
    exact chn_get ys y h.2 m (by simp at hm; omega)
theorem chn_lt : ∀ (xs : List Int) (a b : Int), xs.Pairwise (· < ·) → (∀ x ∈ xs, a < x ∧ x < b) → a < b → Chn (· < ·) a (xs ++ [b])
  | [], a, b, _, _, h => ⟨h, trivial⟩
  | x :: xs, a, b, h1, h2, h => by
    have hx := h2 x List.mem_cons_self
    have h1' := List.pairwise_cons.1 h1
    exact ⟨hx.1, chn_lt xs x b h1'.2 (fun y hy => ⟨h1'.1 y hy, (h2 y (List.mem_cons_of_mem _ hy)).2⟩) hx.2⟩
/-- The chosen places, by their numbers. -/
structure Places (l : List S41) (tol : Nat) (r : List Int) : Prop where
  two : 2 ≤ r.length
  first : rd r 0 = 0
  last : rd r ((r.length - 1 : Nat) : Int) = (l.length : Int) - 1
  inc : ∀ m : Nat, m + 1 < r.length → rd r (m : Int) < rd r ((m + 1 : Nat) : Int)
  leaf : ∀ m : Nat, m + 1 < r.length → Leaf l tol (rd r (m : Int)) (rd r ((m + 1 : Nat) : Int))
theorem s_places {l : List S41} {tol : Nat} {r : List Int} (h : Chosen l tol r) : Places l tol r := by
  obtain ⟨g, ht, hn, xs, ys, rfl, _, p1, p2, _, p3⟩ := h
  have hl := g.1
  have e : [0] ++ xs ++ [(l.length : Int) - 1] = 0 :: (xs ++ [(l.length : Int) - 1]) := rfl
  rw [e]
  have hlen : (0 :: (xs ++ [(l.length : Int) - 1])).length = xs.length + 2 := by simp
  refine ⟨by omega, rfl, ?_, fun m hm => ?_, fun m hm => ?_⟩
  · rw [hlen, show xs.length + 2 - 1 = xs.length + 1 by omega, rd_cons]
    unfold rd
    rw [Int.toNat_natCast, List.getD_eq_getElem?_getD, List.getElem?_append_right (Nat.le_refl _)]; simp
  · exact chn_get _ _ (chn_lt xs 0 _ p1 p2 (by omega)) m (by simp; omega)
  · exact chn_get _ _ p3 m (by simp; omega)
theorem Places.mono {l : List S41} {tol : Nat} {r : List Int} (h : Places l tol r) : ∀ (n m : Nat), m + n < r.length → rd r (m : Int) + n ≤ rd r ((m + n : Nat) : Int) := by
  intro n
  induction n with
  | zero => intro m hm; simp
  | succ n ih =>
    intro m hm
    have a := ih m (by omega)
    have b := h.inc (m + n) (by omega)
    rw [show m + (n + 1) = m + n + 1 by omega]
    omega
theorem Places.range {l : List S41} {tol : Nat} {r : List Int} (h : Places l tol r) (m : Nat) (hm : m < r.length) : (m : Int) ≤ rd r m ∧ rd r m < l.length := by
  have a := h.mono m 0 (by omega)
  have b := h.mono (r.length - 1 - m) m (by omega)
  rw [Nat.zero_add] at a
  rw [show m + (r.length - 1 - m) = r.length - 1 by omega, h.last] at b
  have c := h.first
  rw [show ((0 : Nat) : Int) = 0 from rfl, c] at a
  omega
theorem Places.len {l : List S41} {tol : Nat} {r : List Int} (h : Places l tol r) : r.length ≤ l.length := by
  have a := h.two
  have b := h.range (r.length - 1) (by omega)
  omega
theorem Places.find {l : List S41} {tol : Nat} {r : List Int} (h : Places l tol r) {j : Int} (hj : 0 < j) : ∀ M : Nat, M < r.length → j ≤ rd r (M : Int) → ∃ m : Nat, m + 1 ≤ M ∧ rd r (m : Int) < j ∧ j ≤ rd r ((m + 1 : Nat) : Int) := by
  intro M
  induction M with
  | zero => intro _ h1; have := h.first; rw [show ((0 : Nat) : Int) = 0 from rfl] at h1; omega
  | succ M ih =>
    intro h0 h1
    by_cases c : j ≤ rd r (M : Int)
    · obtain ⟨m, a, b⟩ := ih (by omega) c
      exact ⟨m, by omega, b⟩
    · exact ⟨M, by omega, by omega, h1⟩

/-- What is left of the ascent. -/
def few (l : List S41) (r : List Int) : List S41 := r.map (rd_T41 l)
theorem few_rd {l : List S41} {r : List Int} (m : Nat) (hm : m < r.length) : rd_T41 (few l r) (m : Int) = rd_T41 l (rd r (m : Int)) := by
  unfold few rd
  rw [rd_T41, Int.toNat_natCast, List.getD_eq_getElem?_getD, List.getElem?_map, List.getD_eq_getElem?_getD, List.getElem?_eq_getElem hm]; rfl
theorem s_good {l : List S41} {tol : Nat} {r : List Int} (g : Good l) (h : Places l tol r) : Good (few l r) := by
  have hl : (few l r).length = r.length := by unfold few; simp
  have h2 := h.two
  have h3 := h.len
  have h4 := g.2.1
  refine ⟨by omega, by omega, fun j h0 h1 => ?_⟩
  obtain ⟨m, rfl⟩ := Int.eq_ofNat_of_zero_le h0
  have hm : m < r.length := by omega
  have hr := h.range m hm
  obtain ⟨a1, a2, a3, a4, a5, a6⟩ := g.2.2 (rd r m) (by omega) hr.2
  unfold OkAt
  rw [few_rd m hm]
  refine ⟨a1, a2, fun hp => ?_, a4, a5, a6⟩
  rw [show (m : Int) - 1 = ((m - 1 : Nat) : Int) by omega, few_rd (m - 1) (by omega)]
  have i := h.inc (m - 1) (by omega)
  rw [show m - 1 + 1 = m by omega] at i
  have hr' := h.range (m - 1) (by omega)
  exact q_desc' g (by omega) i hr.2
theorem s_ascent {l : List S41} (g : Good l) (k : Nat) (hk : 402 ≤ k) : impl_AscentOk.f k l = some true := by
  obtain ⟨b, _, e2, _⟩ := q_ascent l
  cases b with
  | true => exact e2 k hk
  | false =>
    exfalso
    have key : ∀ (n : Nat) (i : Int), 0 ≤ i → i + n = l.length → impl_AscentOk.l0 (n + 1) l l l.length i = some true := by
      intro n
      induction n with
      | zero => intro i h0 hi; simp only [impl_AscentOk.l0]; rw [if_neg (by omega)]
      | succ n ih =>
        intro i h0 hi
        have hlen := g.2.1
        obtain ⟨a1, a2, a3, a4, a5, a6⟩ := g.2.2 i h0 (by omega)
        rw [impl_AscentOk.l0]
        simp only [q_in, q_known, Option.bind_some]
        rw [if_pos (show i < (l.length : Int) by omega), if_pos h0, if_pos (show i < (l.length : Int) by omega), wrap_id (i := i - 1) (by omega) (by omega), wrap_id (i := i + 1) (by omega) (by omega), ih (i + 1) (by omega) (by omega), decide_eq_true (show 1 ≤ (rd_T41 l i).f0 ∧ (rd_T41 l i).f0 ≤ 12000 from ⟨a1, a2⟩), if_pos rfl]
        rw [show ffin (rd_T41 l i).f1 = true from decide_eq_true a4, a5, a6]
        by_cases hp : i > 0
        · rw [if_pos hp, if_pos (show 0 ≤ i - 1 by omega), if_pos (show i - 1 < (l.length : Int) by omega), if_neg (by have := a3 hp; omega)]; rfl
        · rw [if_neg hp]; rfl
    have w := e2 402 (by omega)
    unfold impl_AscentOk.f at w
    rw [q_in, decide_eq_true (show (2 : Int) ≤ l.length ∧ (l.length : Int) ≤ 400 from ⟨by have := g.1; omega, by have := g.2.1; omega⟩)] at w
    simp only [Option.bind_some, if_true] at w
    have hk2 := at_rounds (fun k => impl_AscentOk.mono_l k l l l.length 0) (show l.length + 1 ≤ 402 by have := g.2.1; omega) (key l.length 0 (by omega) (by omega))
    rw [hk2] at w
    cases w
/-- Which pair of the chosen levels the place lies in. -/
theorem s_reb {l : List S41} {tol : Nat} {r : List Int} (g : Good l) (h : Places l tol r) {p : Int} {m : Nat} (hm : m + 1 < r.length)
    (h1 : ∀ i : Nat, i < m → p < (rd_T41 l (rd r ((i + 1 : Nat) : Int))).f0) (h2 : p ≤ (rd_T41 l (rd r (m : Int))).f0) (h3 : (rd_T41 l (rd r ((m + 1 : Nat) : Int))).f0 ≤ p) {t : Nat}
    (ht : impl_Between.f (rd_T41 l (rd r (m : Int))).f0 (rd_T41 l (rd r (m : Int))).f1 (rd_T41 l (rd r ((m + 1 : Nat) : Int))).f0 (rd_T41 l (rd r ((m + 1 : Nat) : Int))).f1 p = some t) :
    ∀ (n i : Nat) (k : Nat), i + n = m → n + 1 ≤ k → impl_Rebuild.l0 k (few l r) p i = some t := by
  have hl : (few l r).length = r.length := by unfold few; simp
  have hlen := h.len
  have hg := g.2.1
  intro n
  induction n with
  | zero =>
    intro i k hi hk
    obtain ⟨k, rfl⟩ : ∃ m, k = m + 1 := ⟨k - 1, by omega⟩
    obtain rfl : i = m := by omega
    rw [impl_Rebuild.l0, hl, wrap_id (i := (i : Int) + 1) (by omega) (by omega), if_pos (by omega), if_pos (by omega), if_pos (by omega)]
    rw [show (i : Int) + 1 = ((i + 1 : Nat) : Int) by omega, few_rd i (by omega), few_rd (i + 1) hm, if_pos h2, if_pos (by omega), if_pos h3, ht]; rfl
  | succ n ih =>
    intro i k hi hk
    obtain ⟨k, rfl⟩ : ∃ m, k = m + 1 := ⟨k - 1, by omega⟩
    rw [impl_Rebuild.l0, hl, wrap_id (i := (i : Int) + 1) (by omega) (by omega), if_pos (by omega), if_pos (by omega), if_pos (by omega)]
    rw [show (i : Int) + 1 = ((i + 1 : Nat) : Int) by omega, few_rd i (by omega), few_rd (i + 1) (by omega)]
    have := h1 i (by omega)
    rw [if_neg (show ¬ p ≥ (rd_T41 l (rd r ((i + 1 : Nat) : Int))).f0 by omega), ih (i + 1) k (by omega) (by omega), if_pos (show (0 : Int) ≤ ((i + 1 : Nat) : Int) by omega), ite_self]
theorem s_zero {tol x : Nat} (ht : F64.Fin tol) (hn : flt tol 0 = false) (hx : F64.Fin x) : fok .sub x x = true ∧ fle (fop .sub x x) tol = true ∧ fle (fneg (fop .sub x x)) tol = true := by
  have kz : key 0 = 0 := by decide
  have n0 : ¬ IsNaN 0 := by decide
  rw [flt_key (fin_notNaN ht) n0, decide_eq_false_iff_not, kz] at hn
  rw [fop_sub_self hx, fok_sub_self]
  refine ⟨decide_eq_true hx, ?_, ?_⟩
  · rw [fle_key_ n0 (fin_notNaN ht), kz]; exact decide_eq_true (by omega)
  · rw [fle_key_ (notNaN_fneg n0) (fin_notNaN ht), key_fneg, kz]; exact decide_eq_true (by omega)
theorem s_rebuild {l : List S41} {tol : Nat} {r : List Int} (hch : Chosen l tol r) (j : Int) (h0 : 0 ≤ j) (h1 : j < l.length) :
    ∃ t, (∀ k, 500 ≤ k → impl_Rebuild.f k (few l r) (rd_T41 l j).f0 = some t) ∧ fok .sub (rd_T41 l j).f1 t = true ∧ fle (fop .sub (rd_T41 l j).f1 t) tol = true ∧ fle (fneg (fop .sub (rd_T41 l j).f1 t)) tol = true := by
  have hp := s_places hch
  obtain ⟨g, ht, hn, _⟩ := hch
  have hlen := hp.len
  have hg := g.2.1
  have h2 := hp.two
  have hgf := s_good g hp
  suffices ∃ (m : Nat) (t : Nat), m + 1 < r.length ∧ (∀ i : Nat, i < m → (rd_T41 l j).f0 < (rd_T41 l (rd r ((i + 1 : Nat) : Int))).f0) ∧ (rd_T41 l j).f0 ≤ (rd_T41 l (rd r (m : Int))).f0 ∧ (rd_T41 l (rd r ((m + 1 : Nat) : Int))).f0 ≤ (rd_T41 l j).f0 ∧
      impl_Between.f (rd_T41 l (rd r (m : Int))).f0 (rd_T41 l (rd r (m : Int))).f1 (rd_T41 l (rd r ((m + 1 : Nat) : Int))).f0 (rd_T41 l (rd r ((m + 1 : Nat) : Int))).f1 (rd_T41 l j).f0 = some t ∧
      fok .sub (rd_T41 l j).f1 t = true ∧ fle (fop .sub (rd_T41 l j).f1 t) tol = true ∧ fle (fneg (fop .sub (rd_T41 l j).f1 t)) tol = true by
    obtain ⟨m, t, a1, a2, a3, a4, a5, a6⟩ := this
    refine ⟨t, fun k hk => ?_, a6⟩
    unfold impl_Rebuild.f
    rw [s_ascent hgf k (by omega)]
    simp only [Option.bind_some, if_true]
    exact s_reb g hp a1 a2 a3 a4 a5 m 0 k (by omega) (by omega)
  have fj := (g.2.2 j h0 h1).2.2.2.1
  by_cases hj : j = 0
  · subst hj
    have e0 : rd r ((0 : Nat) : Int) = 0 := hp.first
    have hr1 := hp.range 1 (by omega)
    have i0 := hp.inc 0 (by omega)
    rw [e0] at i0
    refine ⟨0, (rd_T41 l 0).f1, by omega, fun i hi => by omega, by rw [e0]; exact Int.le_refl _, ?_, ?_, s_zero ht hn fj⟩
    · exact Int.le_of_lt (q_desc' g (by omega) i0 hr1.2)
    · rw [e0]; unfold impl_Between.f; rw [if_pos rfl]
  · obtain ⟨m, m1, m2, m3⟩ := hp.find (j := j) (by omega) (r.length - 1) (by omega) (by rw [hp.last]; omega)
    have hrm := hp.range m (by omega)
    have hrm1 := hp.range (m + 1) (by omega)
    have below : ∀ i : Nat, i < m → (rd_T41 l j).f0 < (rd_T41 l (rd r ((i + 1 : Nat) : Int))).f0 := by
      intro i hi
      have hri := hp.range (i + 1) (by omega)
      have := hp.mono (m - (i + 1)) (i + 1) (by omega)
      rw [show i + 1 + (m - (i + 1)) = m by omega] at this
      exact q_desc' g (by omega) (by omega) h1
    have up := q_desc' g (show 0 ≤ rd r (m : Int) by omega) m2 h1
    by_cases e : j = rd r ((m + 1 : Nat) : Int)
    · refine ⟨m, (rd_T41 l j).f1, by omega, below, by omega, by rw [← e]; exact Int.le_refl _, ?_, s_zero ht hn fj⟩
      rw [← e]
      unfold impl_Between.f
      rw [if_neg (by omega), if_pos rfl]
    · obtain ⟨d, d1, d2, d3⟩ := hp.leaf m (by omega) j m2 (by omega)
      unfold impl_Signif.dAt at d1
      obtain ⟨t, t1, d1⟩ := Option.bind_eq_some_iff.mp d1
      split at d1
      · rename_i hok
        cases d1
        have nx : ¬ IsNaN (fop .sub (rd_T41 l j).f1 t) := by
          intro hx; apply d2; unfold IsNaN at *; rwa [rung_fabs]
        rw [key_fabs] at d3
        have kx : key (fop .sub (rd_T41 l j).f1 t) = rung (fop .sub (rd_T41 l j).f1 t) ∨ key (fop .sub (rd_T41 l j).f1 t) = -(rung (fop .sub (rd_T41 l j).f1 t) : Int) := by unfold key; split <;> simp
        refine ⟨m, t, by omega, below, by omega, ?_, t1, hok, ?_, ?_⟩
        · exact Int.le_of_lt (q_desc' g h0 (by omega) hrm1.2)
        · rw [fle_key_ nx (fin_notNaN ht)]; exact decide_eq_true (by omega)
        · rw [fle_key_ (notNaN_fneg nx) (fin_notNaN ht), key_fneg]; exact decide_eq_true (by omega)
      · cases d1

theorem s_levelsAt {l : List S41} {tol : Nat} {r : List Int} (hl : l.length ≤ 1000) (hp : Places l tol r) : ∀ (n i : Nat) (x5 : List S41) (k : Nat), i + n = r.length → x5 = few l (r.take i) → n + 1 ≤ k → laws_levelsAt.l0 k l r x5 i = some (few l r) := by
  have hlen := hp.len
  intro n
  induction n with
  | zero =>
    intro i x5 k h1 h2 hk
    obtain ⟨k, rfl⟩ : ∃ m, k = m + 1 := ⟨k - 1, by omega⟩
    rw [laws_levelsAt.l0, if_neg (by omega), h2, List.take_of_length_le (by omega)]
  | succ n ih =>
    intro i x5 k h1 h2 hk
    obtain ⟨k, rfl⟩ : ∃ m, k = m + 1 := ⟨k - 1, by omega⟩
    have hr := hp.range i (by omega)
    have h5 : x5.length = i := by rw [h2]; unfold few; simp; omega
    rw [laws_levelsAt.l0, if_pos (by omega), if_pos (by omega), if_neg (by omega), if_neg (by omega), if_pos (by omega), if_pos (by omega), if_pos (by omega), wrap_id (i := (i : Int) + 1) (by omega) (by omega)]
    refine ih (i + 1) _ k (by omega) ?_ (by omega)
    rw [h2]
    unfold few
    have hi : i < r.length := by omega
    rw [List.take_succ_eq_append_getElem hi, List.map_append]
    have : rd r (i : Int) = r[i] := by
      unfold rd; rw [Int.toNat_natCast, List.getD_eq_getElem?_getD, List.getElem?_eq_getElem hi]; rfl
    rw [this]; rfl
theorem s_l1 {l : List S41} {tol : Nat} {r : List Int} (hch : Chosen l tol r) (hl : l.length ≤ 1000) : ∀ (n : Nat) (i : Int) (k : Nat), 0 ≤ i → i + n = l.length → n + 501 ≤ k → laws_FnSignificant.l1 k l tol (few l r) i = some true := by
  intro n
  induction n with
  | zero =>
    intro i k h0 h1 hk
    obtain ⟨k, rfl⟩ : ∃ m, k = m + 1 := ⟨k - 1, by omega⟩
    rw [laws_FnSignificant.l1, if_neg (by omega)]
  | succ n ih =>
    intro i k h0 h1 hk
    obtain ⟨k, rfl⟩ : ∃ m, k = m + 1 := ⟨k - 1, by omega⟩
    obtain ⟨t, t1, t2, t3, t4⟩ := s_rebuild hch i h0 (by omega)
    rw [laws_FnSignificant.l1, if_pos (by omega), if_pos h0, t1 k (by omega)]
    simp only [Option.bind_some]
    rw [if_pos t2, if_pos t3, if_pos t4, wrap_id (i := i + 1) (by omega) (by omega)]
    exact ih (i + 1) k (by omega) (by omega) (by omega)
theorem s_l0 {l : List S41} {tol : Nat} {r : List Int} (hch : Chosen l tol r) (hp : Places l tol r) (hl : l.length ≤ 1000) : ∀ (n i : Nat) (k : Nat), 1 ≤ i → i + n = r.length → n + 3000 ≤ k → laws_FnSignificant.l0 k l tol r i = some true := by
  have hlen := hp.len
  intro n
  induction n with
  | zero =>
    intro i k h0 h1 hk
    obtain ⟨k, rfl⟩ : ∃ m, k = m + 1 := ⟨k - 1, by omega⟩
    rw [laws_FnSignificant.l0, if_neg (by omega)]
    unfold laws_levelsAt.f
    have := s_levelsAt hl hp r.length 0 [] k (by omega) rfl (by omega)
    rw [show ((0 : Nat) : Int) = 0 from rfl] at this
    rw [this]
    simp only [Option.bind_some]
    exact s_l1 hch hl l.length 0 k (by omega) (by omega) (by omega)
  | succ n ih =>
    intro i k h0 h1 hk
    obtain ⟨k, rfl⟩ : ∃ m, k = m + 1 := ⟨k - 1, by omega⟩
    have := hp.inc (i - 1) (by omega)
    rw [show i - 1 + 1 = i by omega] at this
    rw [laws_FnSignificant.l0, if_pos (by omega), if_pos (by omega), wrap_id (i := (i : Int) - 1) (by omega) (by omega), wrap_id (i := (i : Int) + 1) (by omega) (by omega), if_pos (by omega), if_pos (by omega)]
    rw [show (i : Int) - 1 = ((i - 1 : Nat) : Int) by omega, if_neg (by omega)]
    exact ih (i + 1) k (by omega) (by omega) (by omega)
theorem law_FnSignificant (l0 : List Int) (h1 : Byt l0) (hb0 : l0.length ≤ 9223372036854775807) : ∃ k, laws_FnSignificant.f k l0 = some true := by
  refine ⟨300000, ?_⟩
  unfold laws_FnSignificant.f laws_big.f
  simp only [Option.bind_some]
  by_cases c0 : (l0.length : Int) > 1048576
  · rw [decide_eq_true c0, if_pos rfl]
  rw [decide_eq_false c0, if_neg (by decide)]
  refine anyO_in ⟨by omega, h1⟩ fun ⟨l, tol⟩ => ?_
  show (if (l.length : Int) > 120 then _ else _) = some true
  by_cases c2 : (l.length : Int) > 120
  · rw [if_pos c2]
  rw [if_neg c2]
  obtain ⟨r, s1, s2, s3, s4⟩ := q_signif l tol
  show ((impl_Signif.f 300000 l tol).bind fun t344 => ((spec_Signif.f 300000 l tol).bind fun t347 => _)) = some true
  rw [s2 300000 (by omega), s1 300000 (by omega)]
  simp only [Option.bind_some]
  by_cases c3 : (r.length : Int) = 0
  · rw [if_pos c3, c3]; rfl
  rw [if_neg c3]
  have hch : Chosen l tol r := by
    rcases s4 with g | g
    · subst g; exact absurd rfl c3
    · exact g
  have hp := s_places hch
  have h2 := hp.two
  have hl := hp.last
  rw [if_neg (by omega), if_pos (by omega), if_pos hp.first, wrap_id (i := (r.length : Int) - 1) (by omega) (by omega), if_pos (by omega), if_pos (by omega), wrap_id (i := (l.length : Int) - 1) (by omega) (by omega)]
  rw [show (r.length : Int) - 1 = ((r.length - 1 : Nat) : Int) by omega, hl]
  rw [show (((l.length : Int) - 1) != ((l.length : Int) - 1)) = false by simp]
  rw [laws_FnSignificant.j0, if_neg (by decide)]
  have := hp.len
  exact s_l0 hch hp (by omega) (r.length - 1) 1 299999 (by omega) (by omega) (by omega)
theorem byt_of_wf' {l : List Int} (h : ∀ x ∈ l, (Lit.int .u8 x).wf = true) : Byt l := by
  intro i
  unfold rd
  rw [List.getD_eq_getElem?_getD]
  by_cases hi : i.toNat < l.length
  · rw [List.getElem?_eq_getElem hi]
    have := h _ (List.getElem_mem hi)
    simp only [Lit.wf, decide_eq_true_eq] at this
    simp [IntKind.min, IntKind.max, IntKind.bits, IntKind.signed] at this
    simp only [Option.getD_some]
    omega
  · rw [List.getElem?_eq_none (by omega)]; simp
theorem pure_FnSignificant : laws_FnSignificant.Pure := fun l0 hm0 _ hw0 => law_FnSignificant l0 (byt_of_wf' hw0) hm0
end Go.Proofs.Ytjgnolohppnbbaa.PSg
