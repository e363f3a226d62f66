/- FnFewer: the plain law. Conditions: none. -/
import Derived.Test.YtjgnolohppnbbaaFewSg
set_option linter.unusedVariables false
set_option linter.unusedSimpArgs false
namespace Go.Proofs.Ytjgnolohppnbbaa.PSg
open Go.Proofs.YtjgnolohppnbbaaW Go.RowKit Go.Proofs.YtjgnolohppnbbaaW.PrintWords Go.Proofs.YtjgnolohppnbbaaW.PrintLast Go.Proofs.YtjgnolohppnbbaaW.PrintMore
open F64

theorem f_scan {l : List S41} (h : Good l) {tol wide : Nat} (ht : F64.Fin tol) (hw : F64.Fin wide) (hle : key tol ≤ key wide) {a b : Int} (h0 : 0 ≤ a) (h3 : b < l.length) :
    ∀ (n : Nat) (i : Int) (mT : Nat) (atT : Int) (mW : Nat) (atW : Int) (fuel : Nat), a < i → i + n = b →
    ((atW = -1 ∧ (atT = -1 ∨ (0 ≤ atT ∧ ¬ IsNaN mT ∧ ¬ key wide < key mT))) ∨ (0 ≤ atW ∧ atT = atW ∧ mT = mW ∧ ¬ IsNaN mW ∧ key wide < key mW)) →
    ∀ t t', impl_Signif.scan fuel l tol a b i mT atT = some t → impl_Signif.scan fuel l wide a b i mW atW = some t' → t' = -1 ∨ t' = t := by
  intro n
  induction n with
  | zero =>
    intro i mT atT mW atW fuel h1 h2 hm t t' e1 e2
    cases fuel with
    | zero => cases e1
    | succ fuel =>
      rw [impl_Signif.scan, if_neg (by omega)] at e1 e2
      cases e1; cases e2
      rcases hm with ⟨g, _⟩ | ⟨g, g2, _⟩
      · exact .inl g
      · exact .inr g2.symm
  | succ n ih =>
    intro i mT atT mW atW fuel h1 h2 hm t t' e1 e2
    cases fuel with
    | zero => cases e1
    | succ fuel =>
      obtain ⟨d, d', x1, x2, x3, x4, x5⟩ := q_off h h0 h1 (show i < b by omega) h3
      rw [impl_Signif.scan, if_pos (by omega), x2] at e1 e2
      simp only [Option.bind_some] at e1 e2
      rw [fgt_key x5 (fin_notNaN ht)] at e1
      rw [fgt_key x5 (fin_notNaN hw)] at e2
      by_cases c2 : key wide < key d'
      · have c1 : key tol < key d' := by omega
        rw [decide_eq_true c1, if_pos rfl] at e1
        rw [decide_eq_true c2, if_pos rfl] at e2
        have hnew : (0 ≤ i ∧ i = i ∧ d' = d' ∧ ¬ IsNaN d' ∧ key wide < key d') := ⟨by omega, rfl, rfl, x5, c2⟩
        rcases hm with ⟨g1, g2⟩ | ⟨g1, g2, g3, g4, g5⟩
        · rw [if_pos (by omega)] at e2
          rcases g2 with g2 | ⟨g2, g3, g4⟩
          · rw [if_pos (by omega)] at e1
            exact ih _ _ _ _ _ _ (by omega) (by omega) (.inr hnew) t t' e1 e2
          · rw [if_neg (by omega), fgt_key x5 g3, decide_eq_true (by omega), if_pos rfl] at e1
            exact ih _ _ _ _ _ _ (by omega) (by omega) (.inr hnew) t t' e1 e2
        · subst g2 g3
          rw [if_neg (by omega), fgt_key x5 g4] at e1 e2
          by_cases c3 : key mT < key d'
          · rw [decide_eq_true c3, if_pos rfl] at e1 e2
            exact ih _ _ _ _ _ _ (by omega) (by omega) (.inr hnew) t t' e1 e2
          · rw [decide_eq_false c3, if_neg (by decide)] at e1 e2
            exact ih _ _ _ _ _ _ (by omega) (by omega) (.inr ⟨g1, rfl, rfl, g4, g5⟩) t t' e1 e2
      · rw [decide_eq_false c2, if_neg (by decide)] at e2
        rcases hm with ⟨g1, g2⟩ | ⟨g1, g2, g3, g4, g5⟩
        · by_cases c1 : key tol < key d'
          · rw [decide_eq_true c1, if_pos rfl] at e1
            rcases g2 with g2 | ⟨g2, g3, g4⟩
            · rw [if_pos (by omega)] at e1
              exact ih _ _ _ _ _ _ (by omega) (by omega) (.inl ⟨g1, .inr ⟨by omega, x5, c2⟩⟩) t t' e1 e2
            · rw [if_neg (by omega)] at e1
              split at e1
              · exact ih _ _ _ _ _ _ (by omega) (by omega) (.inl ⟨g1, .inr ⟨by omega, x5, c2⟩⟩) t t' e1 e2
              · exact ih _ _ _ _ _ _ (by omega) (by omega) (.inl ⟨g1, .inr ⟨g2, g3, g4⟩⟩) t t' e1 e2
          · rw [decide_eq_false c1, if_neg (by decide)] at e1
            exact ih _ _ _ _ _ _ (by omega) (by omega) (.inl ⟨g1, g2⟩) t t' e1 e2
        · subst g2 g3
          have e1' : impl_Signif.scan fuel l tol a b (i + 1) mT atT = some t := by
            by_cases c1 : key tol < key d'
            · rw [decide_eq_true c1, if_pos rfl, if_neg (by omega), fgt_key x5 g4, decide_eq_false (by omega), if_neg (by decide)] at e1; exact e1
            · rw [decide_eq_false c1, if_neg (by decide)] at e1; exact e1
          exact ih _ _ _ _ _ _ (by omega) (by omega) (.inr ⟨g1, rfl, rfl, g4, g5⟩) t t' e1' e2
theorem f_part {l : List S41} (h : Good l) {tol wide : Nat} (ht : F64.Fin tol) (hw : F64.Fin wide) (hle : key tol ≤ key wide) : ∀ (f : Nat) (a b : Int) (ys ys' : List Int), 0 ≤ a → a < b → b < l.length →
    impl_Signif.part f l tol a b = some ys → impl_Signif.part f l wide a b = some ys' → ∀ y ∈ ys', y ∈ ys := by
  intro f
  induction f with
  | zero => intro a b ys ys' _ _ _ e; cases e
  | succ f ih =>
    intro a b ys ys' h0 h1 h2 e1 e2 y hy
    rw [impl_Signif.part] at e1 e2
    obtain ⟨t, s1, e1⟩ := Option.bind_eq_some_iff.mp e1
    obtain ⟨t', s2, e2⟩ := Option.bind_eq_some_iff.mp e2
    have hs := f_scan h ht hw hle h0 h2 (b - a - 1).toNat (a + 1) 0 (-1) 0 (-1) (l.length + 1) (by omega) (by omega) (.inl ⟨rfl, .inl rfl⟩) t t' s1 s2
    by_cases c : t' < 0
    · rw [if_pos c] at e2; cases e2; cases hy
    · rw [if_neg c] at e2
      obtain rfl : t' = t := by rcases hs with g | g <;> omega
      rw [if_neg c] at e1
      have hr := impl_Signif.scan_range _ _ _ _ _ _ _ _ _ s1
      obtain ⟨x, a1, e1⟩ := Option.bind_eq_some_iff.mp e1
      obtain ⟨z, a2, e1⟩ := Option.bind_eq_some_iff.mp e1
      obtain ⟨x', b1, e2⟩ := Option.bind_eq_some_iff.mp e2
      obtain ⟨z', b2, e2⟩ := Option.bind_eq_some_iff.mp e2
      cases e1; cases e2
      rcases List.mem_cons.1 hy with g | g
      · subst g; exact List.mem_cons_self
      · rcases List.mem_append.1 g with g | g
        · exact List.mem_cons_of_mem _ (List.mem_append_left _ (ih a t' x x' h0 (by omega) (by omega) a1 b1 y g))
        · exact List.mem_cons_of_mem _ (List.mem_append_right _ (ih t' b z z' (by omega) (by omega) (by omega) a2 b2 y g))
theorem f_sub {l : List S41} {tol wide : Nat} {r r' : List Int} (h : Chosen l tol r) (h' : Chosen l wide r') (hle : key tol ≤ key wide) : ∀ y ∈ r', y ∈ r := by
  obtain ⟨g, ht, _, xs, ys, rfl, p1, _, _, p2, _⟩ := h
  obtain ⟨_, hw, _, xs', ys', rfl, q1, _, _, q2, _⟩ := h'
  have hl := g.1
  have hp := f_part g ht hw hle (l.length + 1) 0 ((l.length : Int) - 1) ys ys' (by omega) (by omega) (by omega) p1 q1
  intro y hy
  rcases List.mem_append.1 hy with hy | hy
  · rcases List.mem_append.1 hy with hy | hy
    · exact List.mem_append_left _ (List.mem_append_left _ hy)
    · exact List.mem_append_left _ (List.mem_append_right _ (p2.mem_iff.2 (hp y (q2.mem_iff.1 hy))))
  · exact List.mem_append_right _ hy

theorem f_l1 {r r' : List Int} (hr : r.length ≤ 1000) {i : Int} (h0 : 0 ≤ i) (hi : i < r'.length) : ∀ (n j : Nat) (b : Bool) (k : Nat), j + n = r.length → n + 1 ≤ k → (b = true ∨ ∃ m, j ≤ m ∧ m < r.length ∧ rd r m = rd r' i) →
    laws_FnFewer.l1 k r r' i b j = laws_FnFewer.l0 (k - n - 1) r r' (wrap64 (i + 1)) := by
  intro n
  induction n with
  | zero =>
    intro j b k h1 hk hb
    obtain ⟨k, rfl⟩ : ∃ m, k = m + 1 := ⟨k - 1, by omega⟩
    obtain rfl : b = true := by rcases hb with hb | ⟨m, _, _, _⟩; exact hb; omega
    rw [laws_FnFewer.l1, if_neg (by omega), if_pos rfl]; rfl
  | succ n ih =>
    intro j b k h1 hk hb
    obtain ⟨k, rfl⟩ : ∃ m, k = m + 1 := ⟨k - 1, by omega⟩
    rw [laws_FnFewer.l1, if_pos (by omega), wrap_id (i := (j : Int) + 1) (by omega) (by omega)]
    have e : k + 1 - (n + 1) - 1 = k - n - 1 := by omega
    rw [e]
    by_cases c : b = true
    · rw [if_pos c]
      exact ih (j + 1) true k (by omega) (by omega) (.inl rfl)
    · rw [if_neg c, if_pos (by omega), if_pos h0, if_pos hi]
      refine ih (j + 1) _ k (by omega) (by omega) ?_
      rcases hb with hb | ⟨m, m1, m2, m3⟩
      · exact absurd hb c
      · by_cases e : m = j
        · subst e; exact .inl (beq_iff_eq.2 m3)
        · exact .inr ⟨m, by omega, m2, m3⟩
theorem f_l0 {r r' : List Int} (hr : r.length ≤ 1000) (hr' : r'.length ≤ 1000) (hs : ∀ y ∈ r', y ∈ r) : ∀ (n i : Nat) (k : Nat), i + n = r'.length → n * (r.length + 2) + 1 ≤ k → laws_FnFewer.l0 k r r' i = some true := by
  intro n
  induction n with
  | zero =>
    intro i k h1 hk
    obtain ⟨k, rfl⟩ : ∃ m, k = m + 1 := ⟨k - 1, by omega⟩
    rw [laws_FnFewer.l0, if_neg (by omega)]
  | succ n ih =>
    intro i k h1 hk
    obtain ⟨k, rfl⟩ : ∃ m, k = m + 1 := ⟨k - 1, by omega⟩
    rw [Nat.succ_mul] at hk
    rw [laws_FnFewer.l0, if_pos (by omega)]
    have hm : rd r' i ∈ r := by
      apply hs
      unfold rd
      rw [Int.toNat_natCast, List.getD_eq_getElem?_getD, List.getElem?_eq_getElem (show i < r'.length by omega)]
      exact List.getElem_mem _
    obtain ⟨m, hm1, hm2⟩ := List.getElem_of_mem hm
    have := f_l1 (r' := r') hr (i := (i : Int)) (by omega) (by omega) r.length 0 false k (by omega) (by omega) (.inr ⟨m, by omega, hm1, by
      rw [← hm2]; unfold rd
      rw [Int.toNat_natCast, List.getD_eq_getElem?_getD, List.getElem?_eq_getElem hm1]; rfl⟩)
    rw [show ((0 : Nat) : Int) = 0 from rfl] at this
    rw [this, wrap_id (i := (i : Int) + 1) (by omega) (by omega)]
    exact ih (i + 1) _ (by omega) (by omega)

theorem law_FnFewer (l0 l1 : List Int) (h1 : Byt l0) (hb0 : l0.length ≤ 9223372036854775807) (hb1 : l1.length ≤ 9223372036854775807) : ∃ k, laws_FnFewer.f k l0 l1 = some true := by
  refine ⟨3000002, ?_⟩
  unfold laws_FnFewer.f laws_big.f
  simp only [Option.bind_some]
  by_cases c0 : (l0.length : Int) > 1048576
  · rw [decide_eq_true c0, if_pos rfl, laws_FnFewer.j0, if_pos rfl]
  rw [decide_eq_false c0, if_neg (by decide)]
  by_cases c1 : (l1.length : Int) > 1048576
  · rw [decide_eq_true c1, laws_FnFewer.j0, if_pos rfl]
  rw [decide_eq_false c1, laws_FnFewer.j0, if_neg (by decide)]
  refine anyO_in ⟨by omega, h1⟩ fun ⟨l, tol⟩ => ?_
  show (if (l.length : Int) > 120 then _ else _) = some true
  by_cases c2 : (l.length : Int) > 120
  · rw [if_pos c2, laws_FnFewer.j1, if_pos rfl]
  rw [if_neg c2]
  obtain ⟨r, s1, s2, s3, s4⟩ := q_signif l tol
  show (((spec_Signif.f 3000001 l tol).bind fun t304 => (if (t304.length : Int) = 0 then (laws_FnFewer.j1 3000001 l1 l tol true) else (laws_FnFewer.j1 3000001 l1 l tol (fgt tol 4696837146684686336))))) = some true
  rw [s1 3000001 (by omega)]
  simp only [Option.bind_some]
  by_cases c3 : (r.length : Int) = 0
  · rw [if_pos c3, laws_FnFewer.j1, if_pos rfl]
  rw [if_neg c3, laws_FnFewer.j1]
  by_cases c4 : fgt tol 4696837146684686336 = true
  · rw [if_pos c4]
  rw [if_neg c4]
  have hch : Chosen l tol r := by
    rcases s4 with g | g
    · subst g; exact absurd rfl c3
    · exact g
  obtain ⟨g1, ht, hn, _⟩ := id hch
  have kn := fin_notNaN ht
  have kz : key 0 = 0 := by decide
  have km : key 4696837146684686336 = 4696837146684686336 := by decide
  have h6 : ¬ key 4696837146684686336 < key tol := by
    rw [fgt_key kn (by decide)] at c4
    exact fun h => c4 (decide_eq_true h)
  have hpos : 0 ≤ key tol := by
    rw [flt_key kn (by decide), decide_eq_false_iff_not, kz] at hn; omega
  have hrt : rung tol ≤ 1200 * 4503599627370496 := by
    rw [km] at h6
    have : key tol = rung tol ∨ key tol = -(rung tol : Int) := by unfold key; split <;> simp
    omega
  obtain ⟨q1, q2⟩ := quo_ten (n := (l1.length : Int) % 50) (b := 6) (by omega) (by omega)
  obtain ⟨a1, a2⟩ := add_bound (c := 1200) (by omega) (by omega) hrt (Nat.le_trans q2 (by omega))
  rw [if_pos q1, if_pos a1]
  -- the wider tolerance
  have hfq : F64.Fin (fop .quo (fofi ((l1.length : Int) % 50)) 4621819117588971520) := by unfold F64.Fin F64.INF; omega
  have hwf : F64.Fin (fop .add tol (fop .quo (fofi ((l1.length : Int) % 50)) 4621819117588971520)) := by unfold F64.Fin F64.INF; omega
  have hvq : 0 ≤ val (fop .quo (fofi ((l1.length : Int) % 50)) 4621819117588971520) := by
    have : ∀ n : Nat, n < 50 → 0 ≤ val (fop .quo (fofi (n : Int)) 4621819117588971520) := by decide +kernel
    obtain ⟨n, hn⟩ : ∃ n : Nat, (l1.length : Int) % 50 = n := Int.eq_ofNat_of_zero_le (Int.emod_nonneg _ (by omega))
    rw [hn]
    exact this n (by omega)
  have hle : key tol ≤ key (fop .add tol (fop .quo (fofi ((l1.length : Int) % 50)) 4621819117588971520)) := by
    obtain ⟨x, x1, x2, _⟩ := add_fin ht hfq
    have e : fop .add tol (fop .quo (fofi ((l1.length : Int) % 50)) 4621819117588971520) = x := by
      unfold fop fres at x1 ⊢
      show (Ieee.double.add _ _).getD 0 = x
      rw [x1]; rfl
    rw [e, x2, ← K_val ht]
    exact K_mono (by omega)
  generalize fop .add tol (fop .quo (fofi ((l1.length : Int) % 50)) 4621819117588971520) = wide at hwf hle ⊢
  obtain ⟨r', z1, z2, z3, z4⟩ := q_signif l wide
  have hch' : Chosen l wide r' := by
    rcases z4 with g | g
    · exfalso
      subst g
      have := z2 402 (by omega)
      obtain ⟨b, v1, v2, v3⟩ := q_ascent l
      have hb : b = true := by
        cases b with
        | true => rfl
        | false =>
          have w := s2 402 (by omega)
          unfold impl_Signif.f at w
          rw [v2 402 (by omega)] at w
          simp at w
          subst w; exact absurd rfl c3
      subst hb
      unfold impl_Signif.f at this
      have hnw : flt wide 0 = false := by
        rw [flt_key (fin_notNaN hwf) (by decide), decide_eq_false_iff_not, kz]; omega
      rw [v2 402 (by omega)] at this
      simp only [Option.bind_some, if_true, q_known, show ffin wide = true from decide_eq_true hwf, hnw, Bool.false_eq_true, if_false] at this
      have hlen := g1.1
      rw [if_pos (by have := g1.2.1; omega), if_pos hlen] at this
      obtain ⟨w, _, this⟩ := Option.bind_eq_some_iff.mp this
      have := congrArg List.length (Option.some.inj this)
      simp at this
    · exact g
  rw [s2 3000000 (by omega)]
  simp only [Option.bind_some]
  rw [z2 3000000 (by omega)]
  simp only [Option.bind_some]
  have hl2 : 2 ≤ r'.length := by
    obtain ⟨_, _, _, xs, ys, rfl, _⟩ := hch'
    simp
  rw [if_neg (by omega)]
  have hm : r'.length * (r.length + 2) ≤ 1000 * 1002 := Nat.mul_le_mul z3 (by omega)
  exact f_l0 s3 z3 (f_sub hch hch' hle) r'.length 0 3000000 (by omega) (by omega)
theorem byt_of_wf {l : List Int} (h : ∀ x ∈ l, (Lit.int .u8 x).wf = true) : Byt l := by
  intro i
  unfold rd
  rw [List.getD_eq_getElem?_getD]
  by_cases hi : i.toNat < l.length
  · rw [List.getElem?_eq_getElem hi]
    have := h _ (List.getElem_mem hi)
    simp only [Lit.wf, decide_eq_true_eq] at this
    simp [IntKind.min, IntKind.max, IntKind.bits, IntKind.signed] at this
    simp only [Option.getD_some]
    omega
  · rw [List.getElem?_eq_none (by omega)]; simp
theorem pure_FnFewer : laws_FnFewer.Pure := fun l0 l1 hm0 _ hw0 hm1 _ _ => law_FnFewer l0 l1 (byt_of_wf hw0) hm0 hm1
end Go.Proofs.Ytjgnolohppnbbaa.PSg
